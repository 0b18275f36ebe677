/- RuleOwn: the law answers true at every input that the given row speaks of. Conditions: those of the given row, none besides. (Part 4 of 5; written by programs of this session, which drive the kit's print, and by hand.) -/
import Derived.Maps.OwnSet
import Derived.Maps.OwnOps
import Derived.Test.YtpnamhplhdaphaaDoorRows
import Derived.Test.YtpnamhplhdaphaaDoorZRuleOwnWWords
import Derived.Deep.Slices
import Derived.SizedLaws
import Derived.ChangeSame
import Derived.ChangeArms
import Derived.Test.YtpnamhplhdaphaaDoorZRuleOwn0
import Derived.Test.YtpnamhplhdaphaaDoorZRuleOwn1
import Derived.Test.YtpnamhplhdaphaaDoorZRuleOwn2
set_option maxHeartbeats 8000000
set_option maxRecDepth 100000
set_option linter.unusedVariables false
set_option linter.unusedSimpArgs false
-- ==== PF75
namespace Go.Proofs.YtpnamhplhdaphaaDoor.P
open Go.RowKit Go.Proofs.YtpnamhplhdaphaaDoorW.PrintWords Go.Proofs.YtpnamhplhdaphaaDoorW.PrintLast Go.Proofs.YtpnamhplhdaphaaDoorW.PrintMore
attribute [local go_sem] max2_int min2_int max_two min_two max_three min_three max_four min_four

attribute [local go_sem high] eqA33
mutual
def aumbryref05_Fit.l0 : Nat → List (S109) → List (List (S33)) → List (List (S33)) → Int → Int → Option ((List (S109)) × Bool)
 | 0, _, _, _, _, _ => none
 | k + 1, x2, x9, x10, x54, x55 => if x55 < x54 then (if 0 ≤ x55 then (if x55 < (x9.length : Int) then (if x55 < (x10.length : Int) then ((aumbryref05_Fit.f k (rd_L3 x9 x55) (rd_L3 x10 x55) x2).bind fun bt123 => (if bt123.2 = true then (aumbryref05_Fit.l0 k bt123.1 x9 x10 x54 (wrap64 (x55 + 1))) else (some (([] : List (S109)), false)))) else (none)) else (none)) else (none)) else (some (x2, true))
def aumbryref05_Fit.f : Nat → List (S33) → List (S33) → List (S109) → Option ((List (S109)) × Bool)
 | 0, _, _, _ => none
 | k + 1, l0, l1, l2 => (aumbryref05_Var.f k l0).bind fun t101 => (if t101 = true then (if 0 < (l0.length : Int) then ((aumbryref05_At.f k l2 ((rd_T33 l0 0).f0)).bind fun t103 => (if t103 < 0 then ((aumbryref04_Copy.f l1).bind fun t105 => (if l2.length < 3518437208883 then (some ((l2 ++ [(⟨(rd_T33 l0 0).f0, t105⟩ : S109)]), true)) else (none))) else (if 0 ≤ t103 then (if t103 < (l2.length : Int) then ((aumbryref04_Same.f k ((rd_T109 l2 t103).f1) l1).bind fun t112 => (some (l2, t112))) else (none)) else (none)))) else (none)) else (if 0 < (l0.length : Int) then (if 0 < (l1.length : Int) then (if (!((((rd_T33 l0 0).f0).toList) == (((rd_T33 l1 0).f0).toList)) || (!(((rd_T33 l0 0).f1) == ((rd_T33 l1 0).f1)))) = true then (some (([] : List (S109)), false)) else ((aumbryref04_Kids.f k l0).bind fun t115 => ((aumbryref04_Kids.f k l1).bind fun t118 => (aumbryref05_Fit.l0 k l2 t115 t118 (t115.length : Int) 0)))) else (none)) else (none)))
end
theorem aumbryref05_Fit.mono_l : ∀ k, (∀ y0 y1 y2, LeO (aumbryref05_Fit.f k y0 y1 y2) (aumbryref05_Fit.f (k + 1) y0 y1 y2)) ∧ (∀ y0 y1 y2 y3 y4, LeO (aumbryref05_Fit.l0 k y0 y1 y2 y3 y4) (aumbryref05_Fit.l0 (k + 1) y0 y1 y2 y3 y4))
 | 0 => ⟨fun _ _ _ r h => by simp [aumbryref05_Fit.f] at h, fun _ _ _ _ _ r h => by simp [aumbryref05_Fit.l0] at h⟩
 | k + 1 => by
  obtain ⟨ih0, ih1⟩ := aumbryref05_Fit.mono_l k
  refine ⟨?_, ?_⟩
  ·
   intro y0 y1 y2
   unfold aumbryref05_Fit.f
   repeat' first
   | (with_reducible exact ih0 _ _ _)
   | (with_reducible exact ih1 _ _ _ _ _)
   | (with_reducible exact aumbryref04_Kids.mono _ _)
   | (with_reducible exact aumbryref04_Same.mono _ _ _)
   | (with_reducible exact aumbryref05_At.mono _ _ _)
   | (with_reducible exact aumbryref05_Var.mono _ _)
   | (with_reducible exact LeO.refl _)
   | (with_reducible exact LeO.none _)
   | (with_reducible refine LeO.ite ?_ ?_)
   | (with_reducible refine LeO.bind ?_ (fun _ => ?_))
  ·
   intro y0 y1 y2 y3 y4
   unfold aumbryref05_Fit.l0
   repeat' first
   | (with_reducible exact ih0 _ _ _)
   | (with_reducible exact ih1 _ _ _ _ _)
   | (with_reducible exact aumbryref04_Kids.mono _ _)
   | (with_reducible exact aumbryref04_Same.mono _ _ _)
   | (with_reducible exact aumbryref05_At.mono _ _ _)
   | (with_reducible exact aumbryref05_Var.mono _ _)
   | (with_reducible exact LeO.refl _)
   | (with_reducible exact LeO.none _)
   | (with_reducible refine LeO.ite ?_ ?_)
   | (with_reducible refine LeO.bind ?_ (fun _ => ?_))
theorem aumbryref05_Fit.mono : ∀ a0 a1 a2 k, LeO (aumbryref05_Fit.f k a0 a1 a2) (aumbryref05_Fit.f (k + 1) a0 a1 a2) := by
 intro a0 a1 a2 k
 obtain ⟨ih0, ih1⟩ := aumbryref05_Fit.mono_l k
 exact ih0 a0 a1 a2
def aumbryref05_Fit.T4 : Bool × List (List Nat × List Nat) := (true, [([], []), ([], []), ([1], [1]), ([2], [2]), ([3], [3]), ([], []), ([5], [5]), ([4, 6], [4, 6]), ([7], [7]), ([0, 8, 6], [0, 8]), ([9, 9, 0, 1, 2, 3, 4, 5, 6, 7, 8, 9], [9]), ([10, 0, 1, 2, 3, 4, 5, 6, 7, 8, 9, 10], [])])
def aumbryref05_Fit.B4 : List Nat := [0, 0, 2, 6, 14, 0, 32, 126, 254, 511, 1023, 2047]
theorem aumbryref05_Fit.tab4 : rtab .any (opsOf Tryd.f75 4) = aumbryref05_Fit.T4 := by kernel_rfl
theorem aumbryref05_Fit.bits4 : waitsOk aumbryref05_Fit.T4.2 aumbryref05_Fit.B4 = true := by kernel_rfl
def aumbryref05_Fit.T12 : Bool × List (List Nat × List Nat) := (true, [([], []), ([], []), ([0, 1], [0, 1]), ([2], [2]), ([], []), ([], []), ([4, 5], [4, 5]), ([6], [6]), ([], []), ([3, 7, 8], [3, 7, 8]), ([9], [9]), ([10], [10]), ([10], [10]), ([11, 9, 0, 1, 2, 3, 4, 5, 6, 7, 8, 9, 10, 11], [11]), ([12, 13, 0, 1, 2, 3, 4, 5, 6, 7, 8, 9, 10, 11, 12, 13], [12])])
def aumbryref05_Fit.B12 : List Nat := [0, 0, 3, 7, 0, 0, 48, 112, 0, 511, 1023, 2047, 2047, 4095, 16383]
theorem aumbryref05_Fit.tab12 : rtab .any (opsOf Tryd.f75 12) = aumbryref05_Fit.T12 := by kernel_rfl
theorem aumbryref05_Fit.bits12 : waitsOk aumbryref05_Fit.T12.2 aumbryref05_Fit.B12 = true := by kernel_rfl
theorem aumbryref05_Fit.callsN (k : Nat) : ∀ (A0 : Option Addr) (c0 : Nat) (l0 : List (S33)) (A1 : Option Addr) (c1 : Nat) (l1 : List (S33)) (P2_ PQ_ : Nat → Prop) (u9000_ : Value) (l2 : List (S109)) (r1 : List (S109)) (r2 : Bool) (w0 w : World) (hB : Below w0.heap.size w0 w) (hr0 : ∀ W_, Kept w W_ (fun k_ => P2_ k_) → Kd.C k33 W_ A0 l0.length l0) (hc0 : l0.length ≤ c0) (hr1 : ∀ W_, Kept w W_ (fun k_ => P2_ k_) → Kd.C k33 W_ A1 l1.length l1) (hc1 : l1.length ≤ c1) (ho2 : Kd.S k109 109 w w0.heap.size PQ_ u9000_ l2) (hu2 : ∀ k_ : Nat, (u9000_ : Value).ownBlock = some k_ → P2_ k_) (h : aumbryref05_Fit.f k l0 l1 l2 = some (r1, r2)),
 Calls Tryd.prog 75 #[.slice A0 l0.length c0, .slice A1 l1.length c1, u9000_] w fun e w' => ∃ v0_ : Value, e = .returned (.tuple #[v0_, .bool r2]) ∧ Kd.S k109 109 w' w0.heap.size (fun k_ => (PQ_ k_ ∨ w.heap.size ≤ k_)) v0_ r1 ∧ Below w0.heap.size w0 w' ∧ Kept w w' (fun k_ => P2_ k_) ∧ (∀ k_ : Nat, (v0_ : Value).ownBlock = some k_ → P2_ k_ ∨ w.heap.size ≤ k_) := by
 induction k using Nat.strongRecOn with
 | _ k ih =>
 intro A0 c0 l0 A1 c1 l1 P2_ PQ_ u9000_ l2 r1 r2 w0 w hB hr0 hc0 hr1 hc1 ho2 hu2 h
 cases k with
 | zero => exact absurd h (by simp [aumbryref05_Fit.f])
 | succ k =>
 simp only [aumbryref05_Fit.f] at h
 have hu109 := Tryd.underlying109
 have hu33 := Tryd.underlying33
 have HR0 := zM hr0
 have HC0 := zM hc0
 clear hr0 hc0
 have HR1 := zM hr1
 have HC1 := zM hc1
 clear hr1 hc1
 have HO2 := zM (show Kd.S k109 109 w w0.heap.size (fun k_ => (PQ_ k_ ∨ w.heap.size ≤ k_)) u9000_ l2 from Kd.S_mono ho2 (fun k_ hk => (.inl hk)))
 have HV := zM (show ∀ k_ : Nat, (u9000_ : Value).ownBlock = some k_ → P2_ k_ ∨ w.heap.size ≤ k_ from fun k_ e_ => .inl (hu2 k_ e_))
 clear hu2
 have HK := zM (Kept.refl w (fun k_ => P2_ k_))
 have HW0 := zM hB.size
 have HB := zM hB
 clear hB
 have H : ((aumbryref05_Var.f k l0).bind fun t101 => (if t101 = true then (if 0 < (l0.length : Int) then ((aumbryref05_At.f k l2 ((rd_T33 l0 0).f0)).bind fun t103 => (if t103 < 0 then ((aumbryref04_Copy.f l1).bind fun t105 => (if l2.length < 3518437208883 then (some ((l2 ++ [(⟨(rd_T33 l0 0).f0, t105⟩ : S109)]), true)) else (none))) else (if 0 ≤ t103 then (if t103 < (l2.length : Int) then ((aumbryref04_Same.f k ((rd_T109 l2 t103).f1) l1).bind fun t112 => (some (l2, t112))) else (none)) else (none)))) else (none)) else (if 0 < (l0.length : Int) then (if 0 < (l1.length : Int) then (if (!((((rd_T33 l0 0).f0).toList) == (((rd_T33 l1 0).f0).toList)) || (!(((rd_T33 l0 0).f1) == ((rd_T33 l1 0).f1)))) = true then (some (([] : List (S109)), false)) else ((aumbryref04_Kids.f k l0).bind fun t115 => ((aumbryref04_Kids.f k l1).bind fun t118 => (aumbryref05_Fit.l0 k l2 t115 t118 (t115.length : Int) 0)))) else (none)) else (none)))) = some (r1, r2) := h
 clear h
 replace H := zB H
 obtain ⟨t101, A40, H⟩ := H
 try dsimp only at H
 have A4 := zM A40
 clear A40
 by_cases c5 : t101 = true
 ·
  subst c5
  rw [if_pos rfl] at H
  by_cases c6 : 0 < (l0.length : Int)
  ·
   rw [if_pos c6] at H
   have c6b0 : decide (0 < (l0.length : Int)) = true := zQ c6
   have c6b1 : decide (0 < l0.length) = true := zQ (by omega)
   clear c6
   replace H := zB H
   obtain ⟨t103, A70, H⟩ := H
   try dsimp only at H
   have A7 := zM A70
   clear A70
   by_cases c8 : t103 < 0
   ·
    rw [if_pos c8] at H
    have c8b0 : decide (t103 < 0) = true := zQ c8
    clear c8
    replace H := zB H
    obtain ⟨t105, A90, H⟩ := H
    try dsimp only at H
    have A9 := zM A90
    clear A90
    by_cases c10 : l2.length < 3518437208883
    ·
     rw [if_pos c10] at H
     have LMc10 := zM c10
     clear c10
     obtain ⟨y108, hy108⟩ : ∃ y_ : List (S109), y_ = (l2 ++ [(⟨(rd_T33 l0 0).f0, t105⟩ : S109)]) := ⟨_, rfl⟩
     replace H : (some (y108, true)) = some (r1, r2) := by first | (rw [hy108]; with_reducible exact H) | (have H2_ := (Option.bind_some _ _).symm.trans H; rw [hy108]; with_reducible exact H2_) | (have H2_ := (Option.bind_some _ _).symm.trans H; with_reducible exact H2_) | with_reducible exact H | (rw [hy108]; exact H) | exact H
     have Ny108 := zM hy108
     clear hy108
     simp only [Option.some.injEq, Prod.mk.injEq] at H
     obtain ⟨rfl, rfl⟩ := H
     go_enter Tryd.func75, Tryd.ntmps75
     try go_wp2_with (first | ((with_reducible refine gate_callee (f := 38) rfl ?_); refine goesL_ (some 15) rfl rfl Tryd.func38 (by kernel_rfl) rfl #[.slice A0 l0.length c0] rfl zl ?_; (with_reducible refine (aumbryref05_Var.calls k _ _ l0 true _ ?side1 ?side2 A4.out).mono ?_); (case side1 => exact Kd.C_kept_now HR0.out (zf)); (case side2 => exact HC0.out); rintro e w' ⟨rfl, ⟨nd, rfl⟩⟩; refine ⟨_, rfl, ?_⟩; have p102 : 0 ≤ (0 : Int) := (by omega); have q102 : 0 < (l0.length : Int) := zT zv; obtain ⟨ad102, e102, hx102_0, hx102_1⟩ := at_T33 (Kd.C_kept_now HR0.out HK.out) 0 p102 q102; cases e102; have qi102 : (0 < l0.length) = True := eq_true (by omega); (try rw [show ((0 : Int)).toNat = 0 from rfl] at hx102_0); (try rw [show 0 * 2 = 0 from rfl] at hx102_0); (try rw [Addr.add_zero'] at hx102_0); (try rw [show ((0 : Int)).toNat = 0 from rfl] at hx102_1); (try rw [show 0 * 2 = 0 from rfl] at hx102_1); (try rw [Addr.add_zero'] at hx102_1); replace p102 := eq_true p102; replace q102 := eq_true q102; obtain ⟨Ao11, co11, eo11⟩ := Kd.S_slice HO2.out; subst eo11) | ((with_reducible refine gate_callee (f := 76) rfl ?_); refine goesL_ (some 21) rfl rfl Tryd.func76 (by kernel_rfl) rfl #[.slice Ao11 l2.length co11, .string ((rd_T33 l0 0).f0)] rfl zl ?_; (with_reducible refine (aumbryref05_At.calls k _ _ l2 ((rd_T33 l0 0).f0) t103 _ ?side1 ?side2 A7.out).mono ?_); (case side1 => exact Kd.C_below (Kd.S_reads' HO2.out).2.2 zg); (case side2 => exact (Kd.S_reads' HO2.out).2.1); rintro e w' ⟨rfl, ⟨nd, rfl⟩⟩; refine ⟨_, rfl, ?_⟩))
     (try (rw [drewN_self w]; generalize hq_ : World.drewN w _ = wz; have n0_ : Aside0 (Kd.S k109 109 wz w0.heap.size (fun k_ => (PQ_ k_ ∨ w.heap.size ≤ k_)) (.slice Ao11 l2.length co11) l2) := ⟨by rw [← hq_]; exact (Kd.S_below HO2.out zg)⟩; have n1_ : Aside0 (Kept w wz (fun k_ => P2_ k_)) := ⟨by rw [← hq_]; exact (zf)⟩; have n2_ : Aside0 (Below w0.heap.size w0 wz) := ⟨by rw [← hq_]; exact zb⟩; clear HO2 HK HB hq_; have HO2 := n0_; have HK := n1_; have HB := n2_; clear n0_ n1_ n2_))
     have n0_ := zM (Kd.S_drew HO2.out)
     have n1_ := zM (Kept.drew HK.out)
     have n2_ := zM (zD HB.out)
     clear HO2
     clear HK
     clear HB
     have HO2 := n0_
     have HK := n1_
     have HB := n2_
     clear n0_ n1_ n2_
     have p104 : 0 ≤ (0 : Int) := (by omega)
     have q104 : 0 < (l0.length : Int) := zT zv
     obtain ⟨ad104, e104, hx104_0, hx104_1⟩ := at_T33 (Kd.C_kept_now HR0.out HK.out) 0 p104 q104
     have hw104_1 := hx104_1
     (try rw [show ((0 : Int)).toNat = 0 from rfl] at hw104_1)
     (try rw [show 0 * 2 = 0 from rfl] at hw104_1)
     (try rw [Addr.add_zero'] at hw104_1)
     have hw104_0 := hx104_0
     (try rw [show ((0 : Int)).toNat = 0 from rfl] at hw104_0)
     (try rw [show 0 * 2 = 0 from rfl] at hw104_0)
     (try rw [Addr.add_zero'] at hw104_0)
     obtain rfl : ad102 = ad104 := (by injection e104)
     have qi104 : (0 < l0.length) = True := eq_true (by omega)
     (try rw [show ((0 : Int)).toNat = 0 from rfl] at hx104_0)
     (try rw [show 0 * 2 = 0 from rfl] at hx104_0)
     (try rw [Addr.add_zero'] at hx104_0)
     (try rw [show ((0 : Int)).toNat = 0 from rfl] at hx104_1)
     (try rw [show 0 * 2 = 0 from rfl] at hx104_1)
     (try rw [Addr.add_zero'] at hx104_1)
     replace p104 := eq_true p104
     replace q104 := eq_true q104
     refine start_ (n := 12) (S := fun w' => w'.cell? ad102 = some (.string ((rd_T33 l0 0).f0)) ∧ w'.cell? ⟨ad102.block, ad102.off + 1, none⟩ = some (.int .i64 ((rd_T33 l0 0).f1))) (ds := [8, 9]) #[false, false, false, false, false, false, false, false, false, false, false, false] (by kernel_rfl) rfl rfl ⟨hx104_0, hx104_1⟩ (fun hHeld => ?_); refine with_tabW aumbryref05_Fit.tab4 aumbryref05_Fit.bits4 (fun HT_ HW_ => ?_)
     generalize wz.drew = w12 at HO2 HK HB hx104_0 hx104_1 hHeld ⊢
     refine pure_ (i := 0) (N := some 24) (v := ?_) (a' := ?_) #[true, false, false, false, false, false, false, false, false, false, false, false] rfl rfl (any_of HT_.out (by kernel_rfl)) (fun _ _ _ h => h) (Or.inl ⟨by rfl, ?_⟩) ?_ ?_
     rotate_left
     ·
      intro w'
      go_simp
      with_reducible rfl
     rotate_left
     ·
      simp only [Act.put, zp1, zp2, zp3, i64_w, i32_w]
      rfl
     refine pure_ (i := 1) (N := some 25) (v := ?_) (a' := ?_) #[true, true, false, false, false, false, false, false, false, false, false, false] rfl rfl (any_of HT_.out (by kernel_rfl)) (fun _ _ _ h => h) (Or.inl ⟨by rfl, ?_⟩) ?_ ?_
     rotate_left
     ·
      intro w'
      go_simp
      with_reducible rfl
     rotate_left
     ·
      simp only [Act.put, zp1, zp2, zp3, i64_w, i32_w]
      rfl
     refine pure_ (i := 2) (N := some 26) (v := ?_) (a' := ?_) #[true, true, true, false, false, false, false, false, false, false, false, false] rfl rfl (any_of HT_.out (by kernel_rfl)) (fun _ _ _ h => h) (Or.inl ⟨by rfl, ?_⟩) ?_ ?_
     rotate_left
     ·
      intro w'
      go_simp
      with_reducible rfl
     rotate_left
     ·
      simp only [Act.put, zp1, zp2, zp3, i64_w, i32_w]
      rfl
     refine pure_ (i := 3) (N := some 27) (v := ?_) (a' := ?_) #[true, true, true, true, false, false, false, false, false, false, false, false] rfl rfl (any_of HT_.out (by kernel_rfl)) (fun _ _ _ h => h) (Or.inl ⟨by rfl, ?_⟩) ?_ ?_
     rotate_left
     ·
      intro w'
      go_simp
      with_reducible rfl
     rotate_left
     ·
      simp only [Act.put, zp1, zp2, zp3, i64_w, i32_w]
      rfl
     refine pure_ (i := 5) (N := some 29) (v := ?_) (a' := ?_) #[true, true, true, true, false, true, false, false, false, false, false, false] rfl rfl (any_of HT_.out (by kernel_rfl)) (fun _ _ _ h => h) (Or.inl ⟨by rfl, ?_⟩) ?_ ?_
     rotate_left
     ·
      intro w'
      go_simp
      with_reducible rfl
     rotate_left
     ·
      simp only [Act.put, zp1, zp2, zp3, i64_w, i32_w]
      rfl
     refine take_ (i := 4) (N := some 28) (v := ?_) (a' := ?_) #[true, true, true, true, true, true, false, false, false, false, false, false] rfl rfl (take_ofW HT_.out HW_.out (by kernel_rfl)) (fun _ _ _ h => h) (Or.inl ⟨by rfl, ?_⟩) hHeld ?_ ?_
     rotate_left
     ·
      rintro w' ⟨s0, s1⟩
      go_simp
      with_reducible rfl
     rotate_left
     ·
      simp only [Act.put, zp1, zp2, zp3, i64_w, i32_w]
      rfl
     refine one_ (i := 6) (N := some 30) #[true, true, true, true, true, true, true, false, false, false, false, false] rfl rfl (one_of HT_.out (by kernel_rfl)) (by decide) (fun K hK => ?_)
     refine goes_ Tryd.func23 (by kernel_rfl) rfl #[.slice A1 l1.length c1] (by rfl) rfl rfl zl ?_
     with_reducible refine (aumbryref04_Copy.calls _ _ l1 t105 _ ?side1 ?side2 A9.out).mono ?_
     (case side1 => exact Kd.C_kept_now HR1.out (zf))
     (case side2 => exact HC1.out)
     rintro e w13 ⟨v106, rfl, ho0, hb⟩
     have HS0_ := (hb.cell (World.block_lt_of_cell? _ _ (hHeld.1))).trans (hHeld.1)
     have HS1_ := (hb.cell (World.block_lt_of_cell? _ _ (hHeld.2))).trans (hHeld.2)
     refine ⟨_, rfl, ?_⟩
     have n0_ := zM (Kd.S_elder' (Kd.S_below HO2.out zg) (Kd.R_base ho0) hb)
     have n1_ := zM (Kd.R_lower (Kd.R_newM (M := fun k_ => (PQ_ k_ ∨ w.heap.size ≤ k_)) ho0 (by first | exact HK.out.1 | exact (show Kept w _ (fun k_ => P2_ k_) from zf).1) (fun k_ h_ => .inr h_)) (below_size zb))
     have n2_ := zM (Kept.below (S := (fun k_ => P2_ k_)) (zf) hb)
     have n3_ := zM (below_step zb hb)
     clear HO2
     clear HK
     clear HB
     have HO2 := n0_
     have HO107 := n1_
     have HK := n2_
     have HB := n3_
     clear n0_ n1_ n2_ n3_
     (try clear hb)
     (try clear hb2)
     (try clear hk)
     (try clear hi)
     (try clear ho0)
     obtain ⟨Ao14, co14, eo14⟩ := Kd.R_slice HO107.out
     (first | subst eo14 | (injection eo14 with f1_ f2_ f3_; have f4_ := f1_.symm; have f5_ := f3_.symm; clear f1_ f2_ f3_; subst f4_; subst f5_))
     refine hK.out _ _ ⟨HS0_, HS1_⟩ (fun hHeld => ?_)
     clear hK K
     refine norm_ (a' := ?_) ?_ ?_
     rotate_left
     ·
      show Act.put _ (some 30) _ = _
      simp only [Act.put, zp1, zp2, zp3, i64_w, i32_w]
      rfl
     refine pure_ (i := 7) (N := some 31) (v := ?_) (a' := ?_) #[true, true, true, true, true, true, true, true, false, false, false, false] rfl rfl (any_of HT_.out (by kernel_rfl)) (fun _ _ _ h => h) (Or.inl ⟨by rfl, ?_⟩) ?_ ?_
     rotate_left
     ·
      intro w'
      go_simp
      with_reducible rfl
     rotate_left
     ·
      simp only [Act.put, zp1, zp2, zp3, i64_w, i32_w]
      rfl
     refine last_ (i := 8) (N := some 32) #[true, true, true, true, true, true, true, true, true, false, false, false] rfl rfl (one_of HT_.out (by kernel_rfl)) (by decide) (fun K hK => ?_)
     refine value_ (w1 := ?_) (v := ?_) (by rfl) rfl ?_ ?_
     rotate_left 2
     ·
      go_simp
      constructor
      ·
       rfl
      ·
       rfl
     refine hK.out _ _ ?_
     clear hK K
     refine norm_ (a' := ?_) ?_ ?_
     rotate_left
     ·
      show Act.put _ (some 32) _ = _
      simp only [Act.put, zp1, zp2, zp3, i64_w, i32_w]
      rfl
     refine last_ (i := 9) (N := some 33) #[true, true, true, true, true, true, true, true, true, true, false, false] rfl rfl (one_of HT_.out (by kernel_rfl)) (by decide) (fun K hK => ?_)
     refine Kd.S_append_step k109 (w0 := w0) w0.heap.size (by rfl) (.tmp 24) (.tmp 32) 72 109 (.agg #[(.string ⟨#[]⟩), (.slice none 0 0)]) 40 rfl Tryd.underlying72 info109 rfl (by decide) (by omega) (.slice Ao11 l2.length co11) l2 (⟨(rd_T33 l0 0).f0, t105⟩ : S109) [.string ((rd_T33 l0 0).f0), .slice Ao14 t105.length co14] (fun k_ => (PQ_ k_ ∨ w.heap.size ≤ k_)) (fun k_ => some k_ = (.slice Ao14 t105.length co14 : Value).ownBlock) rfl rfl ?aP (fun k_ hk_ => ((Kd.R_mono (ok' := fun k_ => ((fun k_ => (PQ_ k_ ∨ w.heap.size ≤ k_))) k_ ∧ some k_ ≠ (.slice Ao11 l2.length co11 : Value).ownBlock) (Kd.R_apart' (HO107.out) (Kd.S_typed HO2.out) (by decide)) (fun k_ hk => ⟨hk.1.1, hk.2⟩))).1 k_ hk_.symm) ?aF ?aO ?aB ?aS ?aL ?_
     (case aP => exact k109_mkM _ _ _ (⟨(rd_T33 l0 0).f0, t105⟩ : S109) (Kd.R_mono (Kd.R_tight rfl (Kd.R_mono (ok' := fun k_ => ((fun k_ => (PQ_ k_ ∨ w.heap.size ≤ k_))) k_ ∧ some k_ ≠ (.slice Ao11 l2.length co11 : Value).ownBlock) (Kd.R_apart' (HO107.out) (Kd.S_typed HO2.out) (by decide)) (fun k_ hk => ⟨hk.1.1, hk.2⟩))) (fun _ h_ => h_)))
     (case aB => exact zb)
     (case aF => exact (fun k_ hk => (.inr (Nat.le_trans (by first | exact HK.out.1 | exact (show Kept w _ (fun k_ => P2_ k_) from zf).1) hk))))
     (case aO => exact (by (with_reducible repeat (first | apply Kd.S_alloc | apply Kd.S_drewN | apply Kd.S_drew)); exact Kd.S_mono HO2.out (fun k_ hk => ⟨hk.1, fun e_ => hk.2 e_⟩)))
     (case aS => exact (below_size zb))
     (case aL => have := LMc10.out; omega)
     intro v109 w15 ho hb hg hat
     have nv_ := zM (show ∀ k_ : Nat, (v109 : Value).ownBlock = some k_ → P2_ k_ ∨ w.heap.size ≤ k_ from fun k_ e_ => hat.elim (fun h_ => HV.out k_ (h_ ▸ e_)) (fun ⟨b_, h1_, h2_⟩ => .inr (by rw [h1_] at e_; injection e_ with e_; subst e_; exact Nat.le_trans (show Kept w _ (fun k_ => P2_ k_) from zf).1 h2_)))
     have HV2 := nv_
     rw [← Ny108.out] at ho
     have n0_ := zM (hb)
     have n1_ := zM (Kept.of_grown (S := (fun k_ => P2_ k_)) hg (zf) (fun k_ e_ => HV.out k_ e_))
     have n2_ := zM (ho)
     clear HB
     clear HK
     clear HO2
     clear HO107
     have HB := n0_
     have HK := n1_
     have HO110 := n2_
     clear n0_ n1_ n2_
     clear ho hb hg hat
     refine hK.out _ _ ?_
     clear hK K
     refine norm_ (a' := ?_) ?_ ?_
     rotate_left
     ·
      show Act.put _ (some 33) _ = _
      simp only [Act.put, zp1, zp2, zp3, i64_w, i32_w]
      rfl
     refine pure_ (i := 10) (N := some 6) (v := ?_) (a' := ?_) #[true, true, true, true, true, true, true, true, true, true, true, false] rfl rfl (any_of HT_.out (by kernel_rfl)) (fun _ _ _ h => h) (Or.inl ⟨by rfl, ?_⟩) ?_ ?_
     rotate_left
     ·
      intro w'
      go_simp
      with_reducible rfl
     rotate_left
     ·
      simp only [Act.put, zp1, zp2, zp3, i64_w, i32_w]
      rfl
     refine pure_ (i := 11) (N := some 7) (v := ?_) (a' := ?_) #[true, true, true, true, true, true, true, true, true, true, true, true] rfl rfl (any_of HT_.out (by kernel_rfl)) (fun _ _ _ h => h) (Or.inl ⟨by rfl, ?_⟩) ?_ ?_
     rotate_left
     ·
      intro w'
      go_simp
      with_reducible rfl
     rotate_left
     ·
      simp only [Act.put, zp1, zp2, zp3, i64_w, i32_w]
      rfl
     refine done_ (done_of HT_.out (by kernel_rfl)) ?_
     try go_wp2
     go_ret2
     exact ⟨_, zw, Kd.S_below HO110.out zg, zb, zf, by first | exact HV2.out | exact HV.out⟩
    ·
     rw [if_neg c10] at H
     exact absurd H (by simp)
   ·
    rw [if_neg c8] at H
    have c8b0 : decide (t103 < 0) = false := zR c8
    clear c8
    by_cases c16 : 0 ≤ t103
    ·
     rw [if_pos c16] at H
     have c16b0 : decide (0 ≤ t103) = true := zQ c16
     clear c16
     by_cases c17 : t103 < (l2.length : Int)
     ·
      rw [if_pos c17] at H
      have c17b0 : decide (t103 < (l2.length : Int)) = true := zQ c17
      clear c17
      replace H := zB H
      obtain ⟨t112, A180, H⟩ := H
      try dsimp only at H
      have A18 := zM A180
      clear A180
      simp only [Option.some.injEq, Prod.mk.injEq] at H
      obtain ⟨rfl, rfl⟩ := H
      go_enter Tryd.func75, Tryd.ntmps75
      go_wp2_with (first | ((with_reducible refine gate_callee (f := 38) rfl ?_); refine goesL_ (some 15) rfl rfl Tryd.func38 (by kernel_rfl) rfl #[.slice A0 l0.length c0] rfl zl ?_; (with_reducible refine (aumbryref05_Var.calls k _ _ l0 true _ ?side1 ?side2 A4.out).mono ?_); (case side1 => exact Kd.C_kept_now HR0.out (zf)); (case side2 => exact HC0.out); rintro e w' ⟨rfl, ⟨nd, rfl⟩⟩; refine ⟨_, rfl, ?_⟩; have p102 : 0 ≤ (0 : Int) := (by omega); have q102 : 0 < (l0.length : Int) := zT zv; obtain ⟨ad102, e102, hx102_0, hx102_1⟩ := at_T33 (Kd.C_kept_now HR0.out HK.out) 0 p102 q102; cases e102; have qi102 : (0 < l0.length) = True := eq_true (by omega); (try rw [show ((0 : Int)).toNat = 0 from rfl] at hx102_0); (try rw [show 0 * 2 = 0 from rfl] at hx102_0); (try rw [Addr.add_zero'] at hx102_0); (try rw [show ((0 : Int)).toNat = 0 from rfl] at hx102_1); (try rw [show 0 * 2 = 0 from rfl] at hx102_1); (try rw [Addr.add_zero'] at hx102_1); replace p102 := eq_true p102; replace q102 := eq_true q102; obtain ⟨Ao19, co19, eo19⟩ := Kd.S_slice HO2.out; subst eo19) | ((with_reducible refine gate_callee (f := 76) rfl ?_); refine goesL_ (some 21) rfl rfl Tryd.func76 (by kernel_rfl) rfl #[.slice Ao19 l2.length co19, .string ((rd_T33 l0 0).f0)] rfl zl ?_; (with_reducible refine (aumbryref05_At.calls k _ _ l2 ((rd_T33 l0 0).f0) t103 _ ?side1 ?side2 A7.out).mono ?_); (case side1 => exact Kd.C_below (Kd.S_reads' HO2.out).2.2 zg); (case side2 => exact (Kd.S_reads' HO2.out).2.1); rintro e w' ⟨rfl, ⟨nd, rfl⟩⟩; refine ⟨_, rfl, ?_⟩; have p111 : 0 ≤ (t103 : Int) := zT zv; have q111 : t103 < (l2.length : Int) := zT zv; obtain ⟨ad111, A111_1, c111_1, e111, hx111_0, hx111_1, hl111_1, hi111_1⟩ := at_T109 (Kd.S_reads' HO2.out).2.2 t103 p111 q111; cases e111; obtain ⟨ce111, hce111, hMe111, hcc111⟩ := Kd.S_get HO2.out z109 t103 p111 (by first | exact q111 | exact zT zv | (have e_ := (Kd.S_reads' HO2.out).1; omega)); obtain ⟨ve111_1, rfl, ge111_1⟩ := k109_openM hMe111; have hv111_1 := hcc111 1 _ rfl; rw [add_field _ _ 1 (by omega)] at hv111_1; replace hv111_1 := zS (hv111_1.symm.trans hx111_1); rw [hv111_1] at ge111_1; have HL111_1 := zM (show Kd.R k33 33 _ _ _ _ ((rd_T109 l2 t103).f1) from ge111_1); clear hv111_1 ge111_1; clear hcc111 hce111; have HR111_1 := zM hi111_1; have HC111_1 := zM hl111_1; clear hi111_1 hl111_1; replace p111 := eq_true p111; replace q111 := eq_true q111) | ((with_reducible refine gate_callee (f := 25) rfl ?_); refine goesL_ (some 41) rfl rfl Tryd.func25 (by kernel_rfl) rfl #[.slice A111_1 ((rd_T109 l2 t103).f1).length c111_1, .slice A1 l1.length c1] rfl zl ?_; (with_reducible refine (aumbryref04_Same.calls k _ _ ((rd_T109 l2 t103).f1) _ _ l1 t112 _ ?side1 ?side2 ?side3 ?side4 A18.out).mono ?_); (case side1 => repeat (first | exact (by repeat (first | (with_reducible exact HR111_1.out) | (with_reducible first | refine Kd.C_alloc ?_ _ | refine Kd.C_drewN ?_ _ | refine Kd.C_drew ?_) | exact HR111_1.out)) | (with_reducible first | refine Kd.C_alloc ?_ _ | refine Kd.C_drewN ?_ _ | refine Kd.C_drew ?_))); (case side2 => exact HC111_1.out); (case side3 => exact Kd.C_kept_now HR1.out (zf)); (case side4 => exact HC1.out); rintro e w' ⟨rfl, ⟨nd, rfl⟩⟩; refine ⟨_, rfl, ?_⟩))
      go_ret2
      exact ⟨_, zw, Kd.S_below HO2.out zg, zb, zf, by first | exact HV2.out | exact HV.out⟩
     ·
      rw [if_neg c17] at H
      exact absurd H (by simp)
    ·
     rw [if_neg c16] at H
     exact absurd H (by simp)
  ·
   rw [if_neg c6] at H
   exact absurd H (by simp)
 ·
  replace c5 := zI c5
  subst c5
  rw [if_neg (show ¬ (false = true) by decide)] at H
  by_cases c20 : 0 < (l0.length : Int)
  ·
   rw [if_pos c20] at H
   have c20b0 : decide (0 < (l0.length : Int)) = true := zQ c20
   have c20b1 : decide (0 < l0.length) = true := zQ (by omega)
   clear c20
   by_cases c21 : 0 < (l1.length : Int)
   ·
    rw [if_pos c21] at H
    have c21b0 : decide (0 < (l1.length : Int)) = true := zQ c21
    have c21b1 : decide (0 < l1.length) = true := zQ (by omega)
    clear c21
    by_cases c22 : (!((((rd_T33 l0 0).f0).toList) == (((rd_T33 l1 0).f0).toList)) || (!(((rd_T33 l0 0).f1) == ((rd_T33 l1 0).f1)))) = true
    ·
     rw [if_pos c22] at H
     have c22b0 : (!((((rd_T33 l0 0).f0).toList) == (((rd_T33 l1 0).f0).toList)) || (!(((rd_T33 l0 0).f1) == ((rd_T33 l1 0).f1)))) = true := c22
     clear c22
     simp only [Option.some.injEq, Prod.mk.injEq] at H
     obtain ⟨rfl, rfl⟩ := H
     go_enter Tryd.func75, Tryd.ntmps75
     try go_wp2_with (first | ((with_reducible refine gate_callee (f := 38) rfl ?_); refine goesL_ (some 15) rfl rfl Tryd.func38 (by kernel_rfl) rfl #[.slice A0 l0.length c0] rfl zl ?_; (with_reducible refine (aumbryref05_Var.calls k _ _ l0 false _ ?side1 ?side2 A4.out).mono ?_); (case side1 => exact Kd.C_kept_now HR0.out (zf)); (case side2 => exact HC0.out); rintro e w' ⟨rfl, ⟨nd, rfl⟩⟩; refine ⟨_, rfl, ?_⟩))
     (try (rw [drewN_self w]; generalize hq_ : World.drewN w _ = wz; have n0_ : Aside0 (Kd.S k109 109 wz w0.heap.size (fun k_ => (PQ_ k_ ∨ w.heap.size ≤ k_)) u9000_ l2) := ⟨by rw [← hq_]; exact (Kd.S_below HO2.out zg)⟩; have n1_ : Aside0 (Kept w wz (fun k_ => P2_ k_)) := ⟨by rw [← hq_]; exact (zf)⟩; have n2_ : Aside0 (Below w0.heap.size w0 wz) := ⟨by rw [← hq_]; exact zb⟩; clear HO2 HK HB hq_; have HO2 := n0_; have HK := n1_; have HB := n2_; clear n0_ n1_ n2_))
     have n0_ := zM (Kd.S_drew HO2.out)
     have n1_ := zM (Kept.drew HK.out)
     have n2_ := zM (zD HB.out)
     clear HO2
     clear HK
     clear HB
     have HO2 := n0_
     have HK := n1_
     have HB := n2_
     clear n0_ n1_ n2_
     have p113 : 0 ≤ (0 : Int) := (by omega)
     have q113 : 0 < (l0.length : Int) := zT zv
     obtain ⟨ad113, e113, hx113_0, hx113_1⟩ := at_T33 (Kd.C_kept_now HR0.out HK.out) 0 p113 q113
     have hw113_1 := hx113_1
     (try rw [show ((0 : Int)).toNat = 0 from rfl] at hw113_1)
     (try rw [show 0 * 2 = 0 from rfl] at hw113_1)
     (try rw [Addr.add_zero'] at hw113_1)
     have hw113_0 := hx113_0
     (try rw [show ((0 : Int)).toNat = 0 from rfl] at hw113_0)
     (try rw [show 0 * 2 = 0 from rfl] at hw113_0)
     (try rw [Addr.add_zero'] at hw113_0)
     cases e113
     have qi113 : (0 < l0.length) = True := eq_true (by omega)
     (try rw [show ((0 : Int)).toNat = 0 from rfl] at hx113_0)
     (try rw [show 0 * 2 = 0 from rfl] at hx113_0)
     (try rw [Addr.add_zero'] at hx113_0)
     (try rw [show ((0 : Int)).toNat = 0 from rfl] at hx113_1)
     (try rw [show 0 * 2 = 0 from rfl] at hx113_1)
     (try rw [Addr.add_zero'] at hx113_1)
     replace p113 := eq_true p113
     replace q113 := eq_true q113
     have p114 : 0 ≤ (0 : Int) := (by omega)
     have q114 : 0 < (l1.length : Int) := zT zv
     obtain ⟨ad114, e114, hx114_0, hx114_1⟩ := at_T33 (Kd.C_kept_now HR1.out HK.out) 0 p114 q114
     have hw114_1 := hx114_1
     (try rw [show ((0 : Int)).toNat = 0 from rfl] at hw114_1)
     (try rw [show 0 * 2 = 0 from rfl] at hw114_1)
     (try rw [Addr.add_zero'] at hw114_1)
     have hw114_0 := hx114_0
     (try rw [show ((0 : Int)).toNat = 0 from rfl] at hw114_0)
     (try rw [show 0 * 2 = 0 from rfl] at hw114_0)
     (try rw [Addr.add_zero'] at hw114_0)
     cases e114
     have qi114 : (0 < l1.length) = True := eq_true (by omega)
     (try rw [show ((0 : Int)).toNat = 0 from rfl] at hx114_0)
     (try rw [show 0 * 2 = 0 from rfl] at hx114_0)
     (try rw [Addr.add_zero'] at hx114_0)
     (try rw [show ((0 : Int)).toNat = 0 from rfl] at hx114_1)
     (try rw [show 0 * 2 = 0 from rfl] at hx114_1)
     (try rw [Addr.add_zero'] at hx114_1)
     replace p114 := eq_true p114
     replace q114 := eq_true q114
     refine start_ (n := 7) (S := fun w' => w'.cell? ad113 = some (.string ((rd_T33 l0 0).f0)) ∧ w'.cell? ⟨ad113.block, ad113.off + 1, none⟩ = some (.int .i64 ((rd_T33 l0 0).f1)) ∧ w'.cell? ad114 = some (.string ((rd_T33 l1 0).f0)) ∧ w'.cell? ⟨ad114.block, ad114.off + 1, none⟩ = some (.int .i64 ((rd_T33 l1 0).f1))) (ds := []) #[false, false, false, false, false, false, false] (by kernel_rfl) rfl rfl ⟨hx113_0, hx113_1, hx114_0, hx114_1⟩ (fun hHeld => ?_)
     generalize wz.drew = w23 at HO2 HK HB hx113_0 hx113_1 hx114_0 hx114_1 hHeld ⊢
     refine pure_ (i := 0) (N := some 42) (v := ?_) (a' := ?_) #[true, false, false, false, false, false, false] rfl rfl (by kernel_rfl) (fun _ _ _ h => h) (Or.inl ⟨by rfl, ?_⟩) ?_ ?_
     rotate_left
     ·
      intro w'
      go_simp
      with_reducible rfl
     rotate_left
     ·
      simp only [Act.put, zp1, zp2, zp3, i64_w, i32_w]
      rfl
     refine pure_ (i := 1) (N := some 43) (v := ?_) (a' := ?_) #[true, true, false, false, false, false, false] rfl rfl (by kernel_rfl) (fun _ _ _ h => h) (Or.inl ⟨by rfl, ?_⟩) ?_ ?_
     rotate_left
     ·
      intro w'
      go_simp
      with_reducible rfl
     rotate_left
     ·
      simp only [Act.put, zp1, zp2, zp3, i64_w, i32_w]
      rfl
     refine pure_ (i := 3) (N := some 45) (v := ?_) (a' := ?_) #[true, true, false, true, false, false, false] rfl rfl (by kernel_rfl) (fun _ _ _ h => h) (Or.inl ⟨by rfl, ?_⟩) ?_ ?_
     rotate_left
     ·
      intro w'
      go_simp
      with_reducible rfl
     rotate_left
     ·
      simp only [Act.put, zp1, zp2, zp3, i64_w, i32_w]
      rfl
     refine pure_ (i := 4) (N := some 46) (v := ?_) (a' := ?_) #[true, true, false, true, true, false, false] rfl rfl (by kernel_rfl) (fun _ _ _ h => h) (Or.inl ⟨by rfl, ?_⟩) ?_ ?_
     rotate_left
     ·
      intro w'
      go_simp
      with_reducible rfl
     rotate_left
     ·
      simp only [Act.put, zp1, zp2, zp3, i64_w, i32_w]
      rfl
     refine take_ (i := 2) (N := some 44) (v := ?_) (a' := ?_) #[true, true, true, true, true, false, false] rfl rfl (by kernel_rfl) (fun _ _ _ h => h) (Or.inl ⟨by rfl, ?_⟩) hHeld ?_ ?_
     rotate_left
     ·
      rintro w' ⟨s0, s1, s2, s3⟩
      go_simp
      with_reducible rfl
     rotate_left
     ·
      simp only [Act.put, zp1, zp2, zp3, i64_w, i32_w]
      rfl
     refine take_ (i := 5) (N := some 47) (v := ?_) (a' := ?_) #[true, true, true, true, true, true, false] rfl rfl (by kernel_rfl) (fun _ _ _ h => h) (Or.inl ⟨by rfl, ?_⟩) hHeld ?_ ?_
     rotate_left
     ·
      rintro w' ⟨s0, s1, s2, s3⟩
      go_simp
      with_reducible rfl
     rotate_left
     ·
      simp only [Act.put, zp1, zp2, zp3, i64_w, i32_w]
      rfl
     refine pure_ (i := 6) (N := some 48) (v := ?_) (a' := ?_) #[true, true, true, true, true, true, true] rfl rfl (by kernel_rfl) (fun _ _ _ h => h) (Or.inl ⟨by rfl, ?_⟩) ?_ ?_
     rotate_left
     ·
      intro w'
      go_simp
      with_reducible rfl
     rotate_left
     ·
      simp only [Act.put, zp1, zp2, zp3, i64_w, i32_w]
      rfl
     refine done_ (by kernel_rfl) ?_
     try go_wp2
     go_ret2
     exact ⟨_, zw, by first | exact Kd.S_nil _ _ _ _ _ | exact Kd.N_nil _ _ _ _ _ | exact Kd.V_nil _ _ _ _ _ | exact Kd.Q_nil _ _ _ _ _ | exact Kd.R_nil _ _ _ _ _, zb, zf, fun k_ e_ => by simp [Value.ownBlock] at e_⟩
    ·
     rw [if_neg c22] at H
     have c22b0 : (!((((rd_T33 l0 0).f0).toList) == (((rd_T33 l1 0).f0).toList)) || (!(((rd_T33 l0 0).f1) == ((rd_T33 l1 0).f1)))) = false := by simpa using c22
     clear c22
     replace H := zB H
     obtain ⟨t115, A240, H⟩ := H
     try dsimp only at H
     have A24 := zM A240
     clear A240
     replace H := zB H
     obtain ⟨t118, A250, H⟩ := H
     try dsimp only at H
     have A25 := zM A250
     clear A250
     have H' := zM H
     clear H
     go_enter Tryd.func75, Tryd.ntmps75
     try go_wp2_with (first | ((with_reducible refine gate_callee (f := 38) rfl ?_); refine goesL_ (some 15) rfl rfl Tryd.func38 (by kernel_rfl) rfl #[.slice A0 l0.length c0] rfl zl ?_; (with_reducible refine (aumbryref05_Var.calls k _ _ l0 false _ ?side1 ?side2 A4.out).mono ?_); (case side1 => exact Kd.C_kept_now HR0.out (zf)); (case side2 => exact HC0.out); rintro e w' ⟨rfl, ⟨nd, rfl⟩⟩; refine ⟨_, rfl, ?_⟩))
     (try (rw [drewN_self w]; generalize hq_ : World.drewN w _ = wz; have n0_ : Aside0 (Kd.S k109 109 wz w0.heap.size (fun k_ => (PQ_ k_ ∨ w.heap.size ≤ k_)) u9000_ l2) := ⟨by rw [← hq_]; exact (Kd.S_below HO2.out zg)⟩; have n1_ : Aside0 (Kept w wz (fun k_ => P2_ k_)) := ⟨by rw [← hq_]; exact (zf)⟩; have n2_ : Aside0 (Below w0.heap.size w0 wz) := ⟨by rw [← hq_]; exact zb⟩; clear HO2 HK HB hq_; have HO2 := n0_; have HK := n1_; have HB := n2_; clear n0_ n1_ n2_))
     have n0_ := zM (Kd.S_drew HO2.out)
     have n1_ := zM (Kept.drew HK.out)
     have n2_ := zM (zD HB.out)
     clear HO2
     clear HK
     clear HB
     have HO2 := n0_
     have HK := n1_
     have HB := n2_
     clear n0_ n1_ n2_
     have p113 : 0 ≤ (0 : Int) := (by omega)
     have q113 : 0 < (l0.length : Int) := zT zv
     obtain ⟨ad113, e113, hx113_0, hx113_1⟩ := at_T33 (Kd.C_kept_now HR0.out HK.out) 0 p113 q113
     have hw113_1 := hx113_1
     (try rw [show ((0 : Int)).toNat = 0 from rfl] at hw113_1)
     (try rw [show 0 * 2 = 0 from rfl] at hw113_1)
     (try rw [Addr.add_zero'] at hw113_1)
     have hw113_0 := hx113_0
     (try rw [show ((0 : Int)).toNat = 0 from rfl] at hw113_0)
     (try rw [show 0 * 2 = 0 from rfl] at hw113_0)
     (try rw [Addr.add_zero'] at hw113_0)
     cases e113
     have qi113 : (0 < l0.length) = True := eq_true (by omega)
     (try rw [show ((0 : Int)).toNat = 0 from rfl] at hx113_0)
     (try rw [show 0 * 2 = 0 from rfl] at hx113_0)
     (try rw [Addr.add_zero'] at hx113_0)
     (try rw [show ((0 : Int)).toNat = 0 from rfl] at hx113_1)
     (try rw [show 0 * 2 = 0 from rfl] at hx113_1)
     (try rw [Addr.add_zero'] at hx113_1)
     replace p113 := eq_true p113
     replace q113 := eq_true q113
     have p114 : 0 ≤ (0 : Int) := (by omega)
     have q114 : 0 < (l1.length : Int) := zT zv
     obtain ⟨ad114, e114, hx114_0, hx114_1⟩ := at_T33 (Kd.C_kept_now HR1.out HK.out) 0 p114 q114
     have hw114_1 := hx114_1
     (try rw [show ((0 : Int)).toNat = 0 from rfl] at hw114_1)
     (try rw [show 0 * 2 = 0 from rfl] at hw114_1)
     (try rw [Addr.add_zero'] at hw114_1)
     have hw114_0 := hx114_0
     (try rw [show ((0 : Int)).toNat = 0 from rfl] at hw114_0)
     (try rw [show 0 * 2 = 0 from rfl] at hw114_0)
     (try rw [Addr.add_zero'] at hw114_0)
     cases e114
     have qi114 : (0 < l1.length) = True := eq_true (by omega)
     (try rw [show ((0 : Int)).toNat = 0 from rfl] at hx114_0)
     (try rw [show 0 * 2 = 0 from rfl] at hx114_0)
     (try rw [Addr.add_zero'] at hx114_0)
     (try rw [show ((0 : Int)).toNat = 0 from rfl] at hx114_1)
     (try rw [show 0 * 2 = 0 from rfl] at hx114_1)
     (try rw [Addr.add_zero'] at hx114_1)
     replace p114 := eq_true p114
     replace q114 := eq_true q114
     refine start_ (n := 7) (S := fun w' => w'.cell? ad113 = some (.string ((rd_T33 l0 0).f0)) ∧ w'.cell? ⟨ad113.block, ad113.off + 1, none⟩ = some (.int .i64 ((rd_T33 l0 0).f1)) ∧ w'.cell? ad114 = some (.string ((rd_T33 l1 0).f0)) ∧ w'.cell? ⟨ad114.block, ad114.off + 1, none⟩ = some (.int .i64 ((rd_T33 l1 0).f1))) (ds := []) #[false, false, false, false, false, false, false] (by kernel_rfl) rfl rfl ⟨hx113_0, hx113_1, hx114_0, hx114_1⟩ (fun hHeld => ?_)
     generalize wz.drew = w26 at HO2 HK HB hx113_0 hx113_1 hx114_0 hx114_1 hHeld ⊢
     refine pure_ (i := 0) (N := some 42) (v := ?_) (a' := ?_) #[true, false, false, false, false, false, false] rfl rfl (by kernel_rfl) (fun _ _ _ h => h) (Or.inl ⟨by rfl, ?_⟩) ?_ ?_
     rotate_left
     ·
      intro w'
      go_simp
      with_reducible rfl
     rotate_left
     ·
      simp only [Act.put, zp1, zp2, zp3, i64_w, i32_w]
      rfl
     refine pure_ (i := 1) (N := some 43) (v := ?_) (a' := ?_) #[true, true, false, false, false, false, false] rfl rfl (by kernel_rfl) (fun _ _ _ h => h) (Or.inl ⟨by rfl, ?_⟩) ?_ ?_
     rotate_left
     ·
      intro w'
      go_simp
      with_reducible rfl
     rotate_left
     ·
      simp only [Act.put, zp1, zp2, zp3, i64_w, i32_w]
      rfl
     refine pure_ (i := 3) (N := some 45) (v := ?_) (a' := ?_) #[true, true, false, true, false, false, false] rfl rfl (by kernel_rfl) (fun _ _ _ h => h) (Or.inl ⟨by rfl, ?_⟩) ?_ ?_
     rotate_left
     ·
      intro w'
      go_simp
      with_reducible rfl
     rotate_left
     ·
      simp only [Act.put, zp1, zp2, zp3, i64_w, i32_w]
      rfl
     refine pure_ (i := 4) (N := some 46) (v := ?_) (a' := ?_) #[true, true, false, true, true, false, false] rfl rfl (by kernel_rfl) (fun _ _ _ h => h) (Or.inl ⟨by rfl, ?_⟩) ?_ ?_
     rotate_left
     ·
      intro w'
      go_simp
      with_reducible rfl
     rotate_left
     ·
      simp only [Act.put, zp1, zp2, zp3, i64_w, i32_w]
      rfl
     refine take_ (i := 2) (N := some 44) (v := ?_) (a' := ?_) #[true, true, true, true, true, false, false] rfl rfl (by kernel_rfl) (fun _ _ _ h => h) (Or.inl ⟨by rfl, ?_⟩) hHeld ?_ ?_
     rotate_left
     ·
      rintro w' ⟨s0, s1, s2, s3⟩
      go_simp
      with_reducible rfl
     rotate_left
     ·
      simp only [Act.put, zp1, zp2, zp3, i64_w, i32_w]
      rfl
     refine take_ (i := 5) (N := some 47) (v := ?_) (a' := ?_) #[true, true, true, true, true, true, false] rfl rfl (by kernel_rfl) (fun _ _ _ h => h) (Or.inl ⟨by rfl, ?_⟩) hHeld ?_ ?_
     rotate_left
     ·
      rintro w' ⟨s0, s1, s2, s3⟩
      go_simp
      with_reducible rfl
     rotate_left
     ·
      simp only [Act.put, zp1, zp2, zp3, i64_w, i32_w]
      rfl
     refine pure_ (i := 6) (N := some 48) (v := ?_) (a' := ?_) #[true, true, true, true, true, true, true] rfl rfl (by kernel_rfl) (fun _ _ _ h => h) (Or.inl ⟨by rfl, ?_⟩) ?_ ?_
     rotate_left
     ·
      intro w'
      go_simp
      with_reducible rfl
     rotate_left
     ·
      simp only [Act.put, zp1, zp2, zp3, i64_w, i32_w]
      rfl
     refine done_ (by kernel_rfl) ?_
     try go_wp2_with (first | ((with_reducible refine gate_callee (f := 70) rfl ?_); refine goesL_ (some 50) rfl rfl Tryd.func70 (by kernel_rfl) rfl #[.slice (some ad113) l0.length c0] rfl zl ?_; (with_reducible refine (aumbryref04_Kids.calls k _ _ l0 t115 _ ?side1 ?side2 A24.out).mono ?_); (case side1 => exact Kd.C_kept_now HR0.out (zf)); (case side2 => exact HC0.out); rintro e w27 ⟨v116, rfl, ho0, hb⟩; refine ⟨_, rfl, ?_⟩; replace HO2 := zM (Kd.S_below (Kd.S_below HO2.out zg) hb); have HO117 := zM (Kd.S_lower (Kd.S_newM (M := fun k_ => (PQ_ k_ ∨ w.heap.size ≤ k_)) ho0 (by first | exact HK.out.1 | exact (show Kept w _ (fun k_ => P2_ k_) from zf).1) (fun k_ h_ => .inr h_)) (below_size zb)); replace HK := zM (Kept.below (S := (fun k_ => P2_ k_)) (zf) hb); replace HB := zM (below_step zb hb); (try clear hb); (try clear ho0)) | ((with_reducible refine gate_callee (f := 70) rfl ?_); refine goesL_ (some 52) rfl rfl Tryd.func70 (by kernel_rfl) rfl #[.slice (some ad114) l1.length c1] rfl zl ?_; (with_reducible refine (aumbryref04_Kids.calls k _ _ l1 t118 _ ?side1 ?side2 A25.out).mono ?_); (case side1 => exact Kd.C_kept_now HR1.out (zf)); (case side2 => exact HC1.out); rintro e w28 ⟨v119, rfl, ho0, hb⟩; refine ⟨_, rfl, ?_⟩; replace HO2 := zM (Kd.S_below (Kd.S_below HO2.out zg) hb); have HO120 := zM (Kd.S_lower (Kd.S_new' (Kd.S_newM (M := fun k_ => (PQ_ k_ ∨ w.heap.size ≤ k_)) ho0 (by first | exact HK.out.1 | exact (show Kept w _ (fun k_ => P2_ k_) from zf).1) (fun k_ h_ => .inr h_)) (Kd.S_lt (Kd.S_below HO117.out zg))) (below_size zb)); replace HO117 := zM (Kd.S_elder' (Kd.S_below HO117.out zg) (Kd.S_base ho0) hb); replace HK := zM (Kept.below (S := (fun k_ => P2_ k_)) (zf) hb); replace HB := zM (below_step zb hb); (try clear hb); (try clear ho0); obtain ⟨Ao29, co29, eo29⟩ := Kd.S_slice HO117.out; subst eo29))
     go_loopg [2, 55] k (fun kq v2 v55 w' => ∃ (x2_1 : List (S109)) (x55_1 : Int), v55 = .int .i64 x55_1 ∧ Aside0 (aumbryref05_Fit.l0 kq x2_1 t115 t118 (t115.length : Int) x55_1 = some (r1, r2)) ∧ Aside0 (kq ≤ k) ∧ Aside0 (Kd.S k109 109 w' w0.heap.size (fun k_ => (PQ_ k_ ∨ w.heap.size ≤ k_)) v2 x2_1) ∧ Aside0 (Kd.S (Kd.slice 33 k33) 23 w' w0.heap.size (fun k_ => (PQ_ k_ ∨ w.heap.size ≤ k_) ∧ some k_ ≠ (v119 : Value).ownBlock) (.slice Ao29 t115.length co29) t115) ∧ Aside0 (Kd.S (Kd.slice 33 k33) 23 w' w0.heap.size (fun k_ => (PQ_ k_ ∨ w.heap.size ≤ k_) ∧ some k_ ≠ ((.slice Ao29 t115.length co29) : Value).ownBlock) v119 t118) ∧ Aside0 (Kept w w' (fun k_ => P2_ k_)) ∧ Aside0 (Below w0.heap.size w0 w') ∧ Aside0 (∀ k_ : Nat, (v2 : Value).ownBlock = some k_ → P2_ k_ ∨ w.heap.size ≤ k_))
     case atStart => exact ⟨(l2), (0), zy, H', ⟨Nat.le_refl _⟩, ⟨Kd.S_below HO2.out zg⟩, ⟨by (with_reducible repeat (first | apply Kd.S_alloc | apply Kd.S_drewN | apply Kd.S_drew)); exact Kd.S_mono HO117.out (fun _ hk => ⟨hk.1.1, hk.2⟩)⟩, ⟨by (with_reducible repeat (first | apply Kd.S_alloc | apply Kd.S_drewN | apply Kd.S_drew)); exact Kd.S_mono HO120.out (fun _ hk => ⟨hk.1.1, hk.2⟩)⟩, ⟨zf⟩, ⟨zb⟩, HV⟩
     case round =>
      clear H'
      try clear c1
      try clear p1
      try clear q1
      try clear hx1
      try clear qi1
      try clear c2
      try clear p2
      try clear c3
      try clear c5
      try clear c6
      try clear c6b0
      try clear c6b1
      try clear c7
      try clear c8
      try clear c8b0
      try clear c10
      try clear p10
      try clear q10
      try clear hx10
      try clear qi10
      try clear c11
      try clear p11
      try clear q11
      try clear hx11
      try clear qi11
      try clear c16
      try clear c16b0
      try clear c17
      try clear c17b0
      try clear c20
      try clear c20b0
      try clear c20b1
      try clear c21
      try clear c21b0
      try clear c21b1
      try clear c22
      try clear c22b0
      try clear c23
      try clear c25
      try clear hx102_0
      try clear hx102_1
      try clear hx104_0
      try clear hx104_1
      try clear hx111_0
      try clear hx111_1
      try clear hx113_0
      try clear hx113_1
      try clear hx114_0
      try clear hx114_1
      try clear p102
      try clear p104
      try clear p111
      try clear p113
      try clear p114
      try clear q102
      try clear q104
      try clear q111
      try clear q113
      try clear q114
      obtain ⟨x2_1, x55_1, rfl, HA, HK1, HO_2, HO_9, HO_10, HK, HB, HV⟩ := hrel
      cases gk with
      | zero => exact absurd HA.out (by simp [aumbryref05_Fit.l0])
      | succ k1 =>
       have H := HA.out
       clear HA
       simp only [aumbryref05_Fit.l0] at H
       by_cases c30 : x55_1 < (t115.length : Int)
       ·
        rw [if_pos c30] at H
        have c30b0 : decide (x55_1 < (t115.length : Int)) = true := zQ c30
        clear c30
        by_cases c31 : 0 ≤ x55_1
        ·
         rw [if_pos c31] at H
         have c31b0 : decide (0 ≤ x55_1) = true := zQ c31
         clear c31
         by_cases c32 : x55_1 < (t115.length : Int)
         ·
          rw [if_pos c32] at H
          have c32b0 : decide (x55_1 < (t115.length : Int)) = true := zQ c32
          clear c32
          by_cases c33 : x55_1 < (t118.length : Int)
          ·
           rw [if_pos c33] at H
           have c33b0 : decide (x55_1 < (t118.length : Int)) = true := zQ c33
           clear c33
           replace H := zB H
           obtain ⟨⟨t123, t126⟩, A340, H⟩ := H
           try dsimp only at H
           have A34 := zM A340
           clear A340
           by_cases c35 : t126 = true
           ·
            subst c35
            rw [if_pos rfl] at H
            have H' := zM H
            clear H
            try go_wp2
            have n0_ := zM (Kd.S_drew HO_2.out)
            have n1_ := zM (Kd.S_drew HO_9.out)
            have n2_ := zM (Kd.S_drew HO_10.out)
            have n3_ := zM (Kept.drew HK.out)
            have n4_ := zM (zD HB.out)
            clear HO_2
            clear HO_9
            clear HO_10
            clear HK
            clear HB
            have HO_2 := n0_
            have HO_9 := n1_
            have HO_10 := n2_
            have HK := n3_
            have HB := n4_
            clear n0_ n1_ n2_ n3_ n4_
            have p121 : 0 ≤ (x55_1 : Int) := zT zv
            have q121 : x55_1 < (t115.length : Int) := zT zv
            obtain ⟨ad121, A121_0, c121_0, e121, hx121_0, hl121_0, hi121_0⟩ := at_L3 (Kd.S_reads' HO_9.out).2.2 x55_1 p121 q121
            cases e121
            obtain ⟨ce121, hce121, hMe121, hcc121⟩ := Kd.S_get HO_9.out [] x55_1 p121 (by first | exact q121 | exact zT zv | (have e_ := (Kd.S_reads' HO_9.out).1; omega))
            obtain ⟨ve121_0, rfl, ge121_0⟩ := hMe121
            have hv121_0 := hcc121 0 _ rfl
            rw [Nat.add_zero, show ((Kd.slice 33 k33)).sz = 1 from rfl, Nat.mul_one] at hv121_0
            replace hv121_0 := zS (hv121_0.symm.trans hx121_0)
            rw [hv121_0] at ge121_0
            have HL121_0 := zM (show Kd.R k33 33 _ _ _ _ (rd_L3 t115 x55_1) from ge121_0)
            clear hv121_0 ge121_0
            clear hcc121 hce121
            have HR121_0 := zM hi121_0
            have HC121_0 := zM hl121_0
            clear hi121_0 hl121_0
            replace p121 := eq_true p121
            replace q121 := eq_true q121
            obtain ⟨Ao37, co37, eo37⟩ := Kd.S_slice HO_10.out
            (first | subst eo37 | (injection eo37 with f1_ f2_ f3_; have f4_ := f1_.symm; have f5_ := f3_.symm; clear f1_ f2_ f3_; subst f4_; subst f5_))
            have p122 : 0 ≤ (x55_1 : Int) := zT zv
            have q122 : x55_1 < (t118.length : Int) := zT zv
            obtain ⟨ad122, A122_0, c122_0, e122, hx122_0, hl122_0, hi122_0⟩ := at_L3 (Kd.S_reads' HO_10.out).2.2 x55_1 p122 q122
            cases e122
            obtain ⟨ce122, hce122, hMe122, hcc122⟩ := Kd.S_get HO_10.out [] x55_1 p122 (by first | exact q122 | exact zT zv | (have e_ := (Kd.S_reads' HO_10.out).1; omega))
            obtain ⟨ve122_0, rfl, ge122_0⟩ := hMe122
            have hv122_0 := hcc122 0 _ rfl
            rw [Nat.add_zero, show ((Kd.slice 33 k33)).sz = 1 from rfl, Nat.mul_one] at hv122_0
            replace hv122_0 := zS (hv122_0.symm.trans hx122_0)
            rw [hv122_0] at ge122_0
            have HL122_0 := zM (show Kd.R k33 33 _ _ _ _ (rd_L3 t118 x55_1) from ge122_0)
            clear hv122_0 ge122_0
            clear hcc122 hce122
            have HR122_0 := zM hi122_0
            have HC122_0 := zM hl122_0
            clear hi122_0 hl122_0
            replace p122 := eq_true p122
            replace q122 := eq_true q122
            obtain ⟨Ao38, co38, eo38⟩ := Kd.S_slice HO_2.out
            (first | subst eo38 | (injection eo38 with f1_ f2_ f3_; have f4_ := f1_.symm; have f5_ := f3_.symm; clear f1_ f2_ f3_; subst f4_; subst f5_))
            refine start_ (n := 15) (S := fun w' => w'.cell? (ad121.add (x55_1).toNat) = some (.slice A121_0 (rd_L3 t115 x55_1).length c121_0) ∧ w'.cell? (ad122.add (x55_1).toNat) = some (.slice A122_0 (rd_L3 t118 x55_1).length c122_0)) (ds := []) #[false, false, false, false, false, false, false, false, false, false, false, false, false, false, false] (by kernel_rfl) rfl rfl ⟨hx121_0, hx122_0⟩ (fun hHeld => ?_); refine with_tabW aumbryref05_Fit.tab12 aumbryref05_Fit.bits12 (fun HT_ HW_ => ?_)
            generalize wr.drew = w36 at HO_2 HO_9 HO_10 HK HB HL121_0 HL122_0 HR121_0 HR122_0 hx121_0 hx122_0 hHeld ⊢
            refine pure_ (i := 0) (N := some 59) (v := ?_) (a' := ?_) #[true, false, false, false, false, false, false, false, false, false, false, false, false, false, false] rfl rfl (any_of HT_.out (by kernel_rfl)) (fun _ _ _ h => h) (Or.inl ⟨by rfl, ?_⟩) ?_ ?_
            rotate_left
            ·
             intro w'
             go_simp
             with_reducible rfl
            rotate_left
            ·
             simp only [Act.put, zp1, zp2, zp3, i64_w, i32_w]
             rfl
            refine pure_ (i := 1) (N := some 60) (v := ?_) (a' := ?_) #[true, true, false, false, false, false, false, false, false, false, false, false, false, false, false] rfl rfl (any_of HT_.out (by kernel_rfl)) (fun _ _ _ h => h) (Or.inl ⟨by rfl, ?_⟩) ?_ ?_
            rotate_left
            ·
             intro w'
             go_simp
             with_reducible rfl
            rotate_left
            ·
             simp only [Act.put, zp1, zp2, zp3, i64_w, i32_w]
             rfl
            refine pure_ (i := 2) (N := some 61) (v := ?_) (a' := ?_) #[true, true, true, false, false, false, false, false, false, false, false, false, false, false, false] rfl rfl (any_of HT_.out (by kernel_rfl)) (fun _ _ _ h => h) (Or.inl ⟨by rfl, ?_⟩) ?_ ?_
            rotate_left
            ·
             intro w'
             go_simp
             with_reducible rfl
            rotate_left
            ·
             simp only [Act.put, zp1, zp2, zp3, i64_w, i32_w]
             rfl
            refine pure_ (i := 4) (N := some 63) (v := ?_) (a' := ?_) #[true, true, true, false, true, false, false, false, false, false, false, false, false, false, false] rfl rfl (any_of HT_.out (by kernel_rfl)) (fun _ _ _ h => h) (Or.inl ⟨by rfl, ?_⟩) ?_ ?_
            rotate_left
            ·
             intro w'
             go_simp
             with_reducible rfl
            rotate_left
            ·
             simp only [Act.put, zp1, zp2, zp3, i64_w, i32_w]
             rfl
            refine pure_ (i := 5) (N := some 64) (v := ?_) (a' := ?_) #[true, true, true, false, true, true, false, false, false, false, false, false, false, false, false] rfl rfl (any_of HT_.out (by kernel_rfl)) (fun _ _ _ h => h) (Or.inl ⟨by rfl, ?_⟩) ?_ ?_
            rotate_left
            ·
             intro w'
             go_simp
             with_reducible rfl
            rotate_left
            ·
             simp only [Act.put, zp1, zp2, zp3, i64_w, i32_w]
             rfl
            refine pure_ (i := 6) (N := some 65) (v := ?_) (a' := ?_) #[true, true, true, false, true, true, true, false, false, false, false, false, false, false, false] rfl rfl (any_of HT_.out (by kernel_rfl)) (fun _ _ _ h => h) (Or.inl ⟨by rfl, ?_⟩) ?_ ?_
            rotate_left
            ·
             intro w'
             go_simp
             with_reducible rfl
            rotate_left
            ·
             simp only [Act.put, zp1, zp2, zp3, i64_w, i32_w]
             rfl
            refine pure_ (i := 8) (N := some 67) (v := ?_) (a' := ?_) #[true, true, true, false, true, true, true, false, true, false, false, false, false, false, false] rfl rfl (any_of HT_.out (by kernel_rfl)) (fun _ _ _ h => h) (Or.inl ⟨by rfl, ?_⟩) ?_ ?_
            rotate_left
            ·
             intro w'
             go_simp
             with_reducible rfl
            rotate_left
            ·
             simp only [Act.put, zp1, zp2, zp3, i64_w, i32_w]
             rfl
            refine take_ (i := 3) (N := some 62) (v := ?_) (a' := ?_) #[true, true, true, true, true, true, true, false, true, false, false, false, false, false, false] rfl rfl (take_ofW HT_.out HW_.out (by kernel_rfl)) (fun _ _ _ h => h) (Or.inl ⟨by rfl, ?_⟩) hHeld ?_ ?_
            rotate_left
            ·
             rintro w' ⟨s0, s1⟩
             go_simp
             with_reducible rfl
            rotate_left
            ·
             simp only [Act.put, zp1, zp2, zp3, i64_w, i32_w]
             rfl
            refine take_ (i := 7) (N := some 66) (v := ?_) (a' := ?_) #[true, true, true, true, true, true, true, true, true, false, false, false, false, false, false] rfl rfl (take_ofW HT_.out HW_.out (by kernel_rfl)) (fun _ _ _ h => h) (Or.inl ⟨by rfl, ?_⟩) hHeld ?_ ?_
            rotate_left
            ·
             rintro w' ⟨s0, s1⟩
             go_simp
             with_reducible rfl
            rotate_left
            ·
             simp only [Act.put, zp1, zp2, zp3, i64_w, i32_w]
             rfl
            refine one_ (i := 9) (N := some 68) #[true, true, true, true, true, true, true, true, true, true, false, false, false, false, false] rfl rfl (one_of HT_.out (by kernel_rfl)) (by decide) (fun K hK => ?_)
            refine goes_ Tryd.func75 (by kernel_rfl) rfl #[.slice A121_0 (rd_L3 t115 x55_1).length c121_0, .slice A122_0 (rd_L3 t118 x55_1).length c122_0, .slice Ao38 x2_1.length co38] (by rfl) rfl rfl zl ?_
            with_reducible refine (ih k1 (by have := HK1.out; omega) _ _ (rd_L3 t115 x55_1) _ _ (rd_L3 t118 x55_1) (fun k_ => some k_ = (.slice Ao38 x2_1.length co38 : Value).ownBlock) (fun k_ => (PQ_ k_ ∨ w.heap.size ≤ k_)) (.slice Ao38 x2_1.length co38) x2_1 t123 true w0 _ ?side1 ?side2 ?side3 ?side4 ?side5 ?side6 ?side7 A34.out).mono ?_
            (case side1 => exact zb)
            (case side2 => exact Kd.C_kept_own ((Kd.R_apart' HL121_0.out (Kd.S_typed HO_2.out) (by decide))) (fun k_ hk_ hs_ => (hk_.2) hs_))
            (case side3 => exact HC121_0.out)
            (case side4 => exact Kd.C_kept_own ((Kd.R_apart' HL122_0.out (Kd.S_typed HO_2.out) (by decide))) (fun k_ hk_ hs_ => (hk_.2) hs_))
            (case side5 => exact HC122_0.out)
            (case side6 => exact HO_2.out)
            (case side7 => exact fun k_ e_ => e_.symm)
            rintro e w39 ⟨v124, rfl, ho0, hb, hkp, hv⟩
            have HS0_ := Go.Proofs.YtpnamhplhdaphaaDoorW.PrintWords.cell_kept (hHeld.1) hkp (by first | (rw [add_block]; exact (fun hs_ => (((Kd.S_R (Kd.S_apart' HO_9.out (Kd.S_typed HO_2.out) (by decide))).1 _ rfl).2) hs_)) | (show ¬ _; simp only [add_block]; exact (fun hs_ => (((Kd.S_R (Kd.S_apart' HO_9.out (Kd.S_typed HO_2.out) (by decide))).1 _ rfl).2) hs_)) | exact (fun hs_ => (((Kd.S_R (Kd.S_apart' HO_9.out (Kd.S_typed HO_2.out) (by decide))).1 _ rfl).2) hs_))
            have HS1_ := Go.Proofs.YtpnamhplhdaphaaDoorW.PrintWords.cell_kept (hHeld.2) hkp (by first | (rw [add_block]; exact (fun hs_ => (((Kd.S_R (Kd.S_apart' HO_10.out (Kd.S_typed HO_2.out) (by decide))).1 _ rfl).2) hs_)) | (show ¬ _; simp only [add_block]; exact (fun hs_ => (((Kd.S_R (Kd.S_apart' HO_10.out (Kd.S_typed HO_2.out) (by decide))).1 _ rfl).2) hs_)) | exact (fun hs_ => (((Kd.S_R (Kd.S_apart' HO_10.out (Kd.S_typed HO_2.out) (by decide))).1 _ rfl).2) hs_))
            refine ⟨_, rfl, ?_⟩
            have n0_ := zM (Kd.S_mono (ok' := fun k_ => (PQ_ k_ ∨ w.heap.size ≤ k_) ∧ some k_ ≠ (.slice (some ad122) t118.length co37 : Value).ownBlock) (Kd.S_keptB ((Kd.S_apart' HO_9.out (Kd.S_typed HO_2.out) (by decide))) hkp (fun k_ hk_ hs_ => (hk_.2) hs_)) (fun k_ hk_ => ⟨hk_.1.1.1, hk_.1.1.2⟩))
            have n1_ := zM (Kd.S_mono (ok' := fun k_ => (PQ_ k_ ∨ w.heap.size ≤ k_) ∧ some k_ ≠ (.slice (some ad121) t115.length co29 : Value).ownBlock) (Kd.S_keptB ((Kd.S_apart' HO_10.out (Kd.S_typed HO_2.out) (by decide))) hkp (fun k_ hk_ hs_ => (hk_.2) hs_)) (fun k_ hk_ => ⟨hk_.1.1.1, hk_.1.1.2⟩))
            have n2_ := zM (Kd.S_mono (ok' := fun k_ => (PQ_ k_ ∨ w.heap.size ≤ k_)) ho0 (fun k_ hk_ => Or.elim hk_ (fun hs_ => hs_) (fun hn_ => (.inr (Nat.le_trans (by first | exact HK.out.1 | exact (show Kept w _ (fun k_ => P2_ k_) from zf).1) hn_)))))
            have n3_ := zM (Kept.then_ (S := (fun k_ => P2_ k_)) (zf) hkp (fun k_ hs_ => HV.out k_ hs_.symm))
            have n4_ := zM (hb)
            have n5_ := zM (show ∀ k_ : Nat, (v124 : Value).ownBlock = some k_ → P2_ k_ ∨ w.heap.size ≤ k_ from fun k_ e_ => (hv k_ e_).elim (fun e2_ => HV.out k_ e2_.symm) (fun hn_ => .inr (Nat.le_trans (show Kept w _ (fun k_ => P2_ k_) from zf).1 hn_)))
            clear HV hv
            have HV := n5_
            clear n5_
            clear HO_9
            clear HO_10
            clear HK
            clear HB
            clear HO_2
            clear HL121_0
            clear HL122_0
            have HO_9 := n0_
            have HO_10 := n1_
            have HO125 := n2_
            have HK := n3_
            have HB := n4_
            clear n0_ n1_ n2_ n3_ n4_
            (try clear hb)
            (try clear hkp)
            (try clear ho0)
            refine hK.out _ _ ⟨HS0_, HS1_⟩ (fun hHeld => ?_)
            clear hK K
            refine norm_ (a' := ?_) ?_ ?_
            rotate_left
            ·
             show Act.put _ (some 68) _ = _
             simp only [Act.put, zp1, zp2, zp3, i64_w, i32_w]
             rfl
            refine pure_ (i := 10) (N := some 58) (v := ?_) (a' := ?_) #[true, true, true, true, true, true, true, true, true, true, true, false, false, false, false] rfl rfl (any_of HT_.out (by kernel_rfl)) (fun _ _ _ h => h) (Or.inl ⟨by rfl, ?_⟩) ?_ ?_
            rotate_left
            ·
             intro w'
             go_simp
             with_reducible rfl
            rotate_left
            ·
             simp only [Act.put, zp1, zp2, zp3, i64_w, i32_w]
             rfl
            refine pure_ (i := 11) (N := some 69) (v := ?_) (a' := ?_) #[true, true, true, true, true, true, true, true, true, true, true, true, false, false, false] rfl rfl (any_of HT_.out (by kernel_rfl)) (fun _ _ _ h => h) (Or.inl ⟨by rfl, ?_⟩) ?_ ?_
            rotate_left
            ·
             intro w'
             go_simp
             with_reducible rfl
            rotate_left
            ·
             simp only [Act.put, zp1, zp2, zp3, i64_w, i32_w]
             rfl
            refine pure_ (i := 12) (N := some 70) (v := ?_) (a' := ?_) #[true, true, true, true, true, true, true, true, true, true, true, true, true, false, false] rfl rfl (any_of HT_.out (by kernel_rfl)) (fun _ _ _ h => h) (Or.inl ⟨by rfl, ?_⟩) ?_ ?_
            rotate_left
            ·
             intro w'
             go_simp
             with_reducible rfl
            rotate_left
            ·
             simp only [Act.put, zp1, zp2, zp3, i64_w, i32_w]
             rfl
            refine pure_ (i := 13) (N := some 12) (v := ?_) (a' := ?_) #[true, true, true, true, true, true, true, true, true, true, true, true, true, true, false] rfl rfl (any_of HT_.out (by kernel_rfl)) (fun _ _ _ h => h) (Or.inl ⟨by rfl, ?_⟩) ?_ ?_
            rotate_left
            ·
             intro w'
             go_simp
             with_reducible rfl
            rotate_left
            ·
             simp only [Act.put, zp1, zp2, zp3, i64_w, i32_w]
             rfl
            refine pure_ (i := 14) (N := some 13) (v := ?_) (a' := ?_) #[true, true, true, true, true, true, true, true, true, true, true, true, true, true, true] rfl rfl (any_of HT_.out (by kernel_rfl)) (fun _ _ _ h => h) (Or.inl ⟨by rfl, ?_⟩) ?_ ?_
            rotate_left
            ·
             intro w'
             go_simp
             with_reducible rfl
            rotate_left
            ·
             simp only [Act.put, zp1, zp2, zp3, i64_w, i32_w]
             rfl
            refine done_ (done_of HT_.out (by kernel_rfl)) ?_
            try go_wp2
            go_roundg k1
            case measure => have := HK1.out; omega
            case rel => exact ⟨(t123), (wrap64 (x55_1 + 1)), zy, H', ⟨by have := HK1.out; omega⟩, ⟨Kd.S_below HO125.out zg⟩, ⟨Kd.S_below HO_9.out zg⟩, ⟨Kd.S_below HO_10.out zg⟩, ⟨zf⟩, ⟨zb⟩, HV⟩
           ·
            replace c35 := zI c35
            subst c35
            rw [if_neg (show ¬ (false = true) by decide)] at H
            simp only [Option.some.injEq, Prod.mk.injEq] at H
            obtain ⟨rfl, rfl⟩ := H
            try go_wp2
            have n0_ := zM (Kd.S_drew HO_2.out)
            have n1_ := zM (Kd.S_drew HO_9.out)
            have n2_ := zM (Kd.S_drew HO_10.out)
            have n3_ := zM (Kept.drew HK.out)
            have n4_ := zM (zD HB.out)
            clear HO_2
            clear HO_9
            clear HO_10
            clear HK
            clear HB
            have HO_2 := n0_
            have HO_9 := n1_
            have HO_10 := n2_
            have HK := n3_
            have HB := n4_
            clear n0_ n1_ n2_ n3_ n4_
            have p121 : 0 ≤ (x55_1 : Int) := zT zv
            have q121 : x55_1 < (t115.length : Int) := zT zv
            obtain ⟨ad121, A121_0, c121_0, e121, hx121_0, hl121_0, hi121_0⟩ := at_L3 (Kd.S_reads' HO_9.out).2.2 x55_1 p121 q121
            cases e121
            obtain ⟨ce121, hce121, hMe121, hcc121⟩ := Kd.S_get HO_9.out [] x55_1 p121 (by first | exact q121 | exact zT zv | (have e_ := (Kd.S_reads' HO_9.out).1; omega))
            obtain ⟨ve121_0, rfl, ge121_0⟩ := hMe121
            have hv121_0 := hcc121 0 _ rfl
            rw [Nat.add_zero, show ((Kd.slice 33 k33)).sz = 1 from rfl, Nat.mul_one] at hv121_0
            replace hv121_0 := zS (hv121_0.symm.trans hx121_0)
            rw [hv121_0] at ge121_0
            have HL121_0 := zM (show Kd.R k33 33 _ _ _ _ (rd_L3 t115 x55_1) from ge121_0)
            clear hv121_0 ge121_0
            clear hcc121 hce121
            have HR121_0 := zM hi121_0
            have HC121_0 := zM hl121_0
            clear hi121_0 hl121_0
            replace p121 := eq_true p121
            replace q121 := eq_true q121
            obtain ⟨Ao41, co41, eo41⟩ := Kd.S_slice HO_10.out
            (first | subst eo41 | (injection eo41 with f1_ f2_ f3_; have f4_ := f1_.symm; have f5_ := f3_.symm; clear f1_ f2_ f3_; subst f4_; subst f5_))
            have p122 : 0 ≤ (x55_1 : Int) := zT zv
            have q122 : x55_1 < (t118.length : Int) := zT zv
            obtain ⟨ad122, A122_0, c122_0, e122, hx122_0, hl122_0, hi122_0⟩ := at_L3 (Kd.S_reads' HO_10.out).2.2 x55_1 p122 q122
            cases e122
            obtain ⟨ce122, hce122, hMe122, hcc122⟩ := Kd.S_get HO_10.out [] x55_1 p122 (by first | exact q122 | exact zT zv | (have e_ := (Kd.S_reads' HO_10.out).1; omega))
            obtain ⟨ve122_0, rfl, ge122_0⟩ := hMe122
            have hv122_0 := hcc122 0 _ rfl
            rw [Nat.add_zero, show ((Kd.slice 33 k33)).sz = 1 from rfl, Nat.mul_one] at hv122_0
            replace hv122_0 := zS (hv122_0.symm.trans hx122_0)
            rw [hv122_0] at ge122_0
            have HL122_0 := zM (show Kd.R k33 33 _ _ _ _ (rd_L3 t118 x55_1) from ge122_0)
            clear hv122_0 ge122_0
            clear hcc122 hce122
            have HR122_0 := zM hi122_0
            have HC122_0 := zM hl122_0
            clear hi122_0 hl122_0
            replace p122 := eq_true p122
            replace q122 := eq_true q122
            obtain ⟨Ao42, co42, eo42⟩ := Kd.S_slice HO_2.out
            (first | subst eo42 | (injection eo42 with f1_ f2_ f3_; have f4_ := f1_.symm; have f5_ := f3_.symm; clear f1_ f2_ f3_; subst f4_; subst f5_))
            refine start_ (n := 15) (S := fun w' => w'.cell? (ad121.add (x55_1).toNat) = some (.slice A121_0 (rd_L3 t115 x55_1).length c121_0) ∧ w'.cell? (ad122.add (x55_1).toNat) = some (.slice A122_0 (rd_L3 t118 x55_1).length c122_0)) (ds := []) #[false, false, false, false, false, false, false, false, false, false, false, false, false, false, false] (by kernel_rfl) rfl rfl ⟨hx121_0, hx122_0⟩ (fun hHeld => ?_); refine with_tabW aumbryref05_Fit.tab12 aumbryref05_Fit.bits12 (fun HT_ HW_ => ?_)
            generalize wr.drew = w40 at HO_2 HO_9 HO_10 HK HB HL121_0 HL122_0 HR121_0 HR122_0 hx121_0 hx122_0 hHeld ⊢
            refine pure_ (i := 0) (N := some 59) (v := ?_) (a' := ?_) #[true, false, false, false, false, false, false, false, false, false, false, false, false, false, false] rfl rfl (any_of HT_.out (by kernel_rfl)) (fun _ _ _ h => h) (Or.inl ⟨by rfl, ?_⟩) ?_ ?_
            rotate_left
            ·
             intro w'
             go_simp
             with_reducible rfl
            rotate_left
            ·
             simp only [Act.put, zp1, zp2, zp3, i64_w, i32_w]
             rfl
            refine pure_ (i := 1) (N := some 60) (v := ?_) (a' := ?_) #[true, true, false, false, false, false, false, false, false, false, false, false, false, false, false] rfl rfl (any_of HT_.out (by kernel_rfl)) (fun _ _ _ h => h) (Or.inl ⟨by rfl, ?_⟩) ?_ ?_
            rotate_left
            ·
             intro w'
             go_simp
             with_reducible rfl
            rotate_left
            ·
             simp only [Act.put, zp1, zp2, zp3, i64_w, i32_w]
             rfl
            refine pure_ (i := 2) (N := some 61) (v := ?_) (a' := ?_) #[true, true, true, false, false, false, false, false, false, false, false, false, false, false, false] rfl rfl (any_of HT_.out (by kernel_rfl)) (fun _ _ _ h => h) (Or.inl ⟨by rfl, ?_⟩) ?_ ?_
            rotate_left
            ·
             intro w'
             go_simp
             with_reducible rfl
            rotate_left
            ·
             simp only [Act.put, zp1, zp2, zp3, i64_w, i32_w]
             rfl
            refine pure_ (i := 4) (N := some 63) (v := ?_) (a' := ?_) #[true, true, true, false, true, false, false, false, false, false, false, false, false, false, false] rfl rfl (any_of HT_.out (by kernel_rfl)) (fun _ _ _ h => h) (Or.inl ⟨by rfl, ?_⟩) ?_ ?_
            rotate_left
            ·
             intro w'
             go_simp
             with_reducible rfl
            rotate_left
            ·
             simp only [Act.put, zp1, zp2, zp3, i64_w, i32_w]
             rfl
            refine pure_ (i := 5) (N := some 64) (v := ?_) (a' := ?_) #[true, true, true, false, true, true, false, false, false, false, false, false, false, false, false] rfl rfl (any_of HT_.out (by kernel_rfl)) (fun _ _ _ h => h) (Or.inl ⟨by rfl, ?_⟩) ?_ ?_
            rotate_left
            ·
             intro w'
             go_simp
             with_reducible rfl
            rotate_left
            ·
             simp only [Act.put, zp1, zp2, zp3, i64_w, i32_w]
             rfl
            refine pure_ (i := 6) (N := some 65) (v := ?_) (a' := ?_) #[true, true, true, false, true, true, true, false, false, false, false, false, false, false, false] rfl rfl (any_of HT_.out (by kernel_rfl)) (fun _ _ _ h => h) (Or.inl ⟨by rfl, ?_⟩) ?_ ?_
            rotate_left
            ·
             intro w'
             go_simp
             with_reducible rfl
            rotate_left
            ·
             simp only [Act.put, zp1, zp2, zp3, i64_w, i32_w]
             rfl
            refine pure_ (i := 8) (N := some 67) (v := ?_) (a' := ?_) #[true, true, true, false, true, true, true, false, true, false, false, false, false, false, false] rfl rfl (any_of HT_.out (by kernel_rfl)) (fun _ _ _ h => h) (Or.inl ⟨by rfl, ?_⟩) ?_ ?_
            rotate_left
            ·
             intro w'
             go_simp
             with_reducible rfl
            rotate_left
            ·
             simp only [Act.put, zp1, zp2, zp3, i64_w, i32_w]
             rfl
            refine take_ (i := 3) (N := some 62) (v := ?_) (a' := ?_) #[true, true, true, true, true, true, true, false, true, false, false, false, false, false, false] rfl rfl (take_ofW HT_.out HW_.out (by kernel_rfl)) (fun _ _ _ h => h) (Or.inl ⟨by rfl, ?_⟩) hHeld ?_ ?_
            rotate_left
            ·
             rintro w' ⟨s0, s1⟩
             go_simp
             with_reducible rfl
            rotate_left
            ·
             simp only [Act.put, zp1, zp2, zp3, i64_w, i32_w]
             rfl
            refine take_ (i := 7) (N := some 66) (v := ?_) (a' := ?_) #[true, true, true, true, true, true, true, true, true, false, false, false, false, false, false] rfl rfl (take_ofW HT_.out HW_.out (by kernel_rfl)) (fun _ _ _ h => h) (Or.inl ⟨by rfl, ?_⟩) hHeld ?_ ?_
            rotate_left
            ·
             rintro w' ⟨s0, s1⟩
             go_simp
             with_reducible rfl
            rotate_left
            ·
             simp only [Act.put, zp1, zp2, zp3, i64_w, i32_w]
             rfl
            refine one_ (i := 9) (N := some 68) #[true, true, true, true, true, true, true, true, true, true, false, false, false, false, false] rfl rfl (one_of HT_.out (by kernel_rfl)) (by decide) (fun K hK => ?_)
            refine goes_ Tryd.func75 (by kernel_rfl) rfl #[.slice A121_0 (rd_L3 t115 x55_1).length c121_0, .slice A122_0 (rd_L3 t118 x55_1).length c122_0, .slice Ao42 x2_1.length co42] (by rfl) rfl rfl zl ?_
            with_reducible refine (ih k1 (by have := HK1.out; omega) _ _ (rd_L3 t115 x55_1) _ _ (rd_L3 t118 x55_1) (fun k_ => some k_ = (.slice Ao42 x2_1.length co42 : Value).ownBlock) (fun k_ => (PQ_ k_ ∨ w.heap.size ≤ k_)) (.slice Ao42 x2_1.length co42) x2_1 t123 false w0 _ ?side1 ?side2 ?side3 ?side4 ?side5 ?side6 ?side7 A34.out).mono ?_
            (case side1 => exact zb)
            (case side2 => exact Kd.C_kept_own ((Kd.R_apart' HL121_0.out (Kd.S_typed HO_2.out) (by decide))) (fun k_ hk_ hs_ => (hk_.2) hs_))
            (case side3 => exact HC121_0.out)
            (case side4 => exact Kd.C_kept_own ((Kd.R_apart' HL122_0.out (Kd.S_typed HO_2.out) (by decide))) (fun k_ hk_ hs_ => (hk_.2) hs_))
            (case side5 => exact HC122_0.out)
            (case side6 => exact HO_2.out)
            (case side7 => exact fun k_ e_ => e_.symm)
            rintro e w43 ⟨v124, rfl, ho0, hb, hkp, hv⟩
            have HS0_ := Go.Proofs.YtpnamhplhdaphaaDoorW.PrintWords.cell_kept (hHeld.1) hkp (by first | (rw [add_block]; exact (fun hs_ => (((Kd.S_R (Kd.S_apart' HO_9.out (Kd.S_typed HO_2.out) (by decide))).1 _ rfl).2) hs_)) | (show ¬ _; simp only [add_block]; exact (fun hs_ => (((Kd.S_R (Kd.S_apart' HO_9.out (Kd.S_typed HO_2.out) (by decide))).1 _ rfl).2) hs_)) | exact (fun hs_ => (((Kd.S_R (Kd.S_apart' HO_9.out (Kd.S_typed HO_2.out) (by decide))).1 _ rfl).2) hs_))
            have HS1_ := Go.Proofs.YtpnamhplhdaphaaDoorW.PrintWords.cell_kept (hHeld.2) hkp (by first | (rw [add_block]; exact (fun hs_ => (((Kd.S_R (Kd.S_apart' HO_10.out (Kd.S_typed HO_2.out) (by decide))).1 _ rfl).2) hs_)) | (show ¬ _; simp only [add_block]; exact (fun hs_ => (((Kd.S_R (Kd.S_apart' HO_10.out (Kd.S_typed HO_2.out) (by decide))).1 _ rfl).2) hs_)) | exact (fun hs_ => (((Kd.S_R (Kd.S_apart' HO_10.out (Kd.S_typed HO_2.out) (by decide))).1 _ rfl).2) hs_))
            refine ⟨_, rfl, ?_⟩
            have n0_ := zM (Kd.S_mono (ok' := fun k_ => (PQ_ k_ ∨ w.heap.size ≤ k_) ∧ some k_ ≠ (.slice (some ad122) t118.length co41 : Value).ownBlock) (Kd.S_keptB ((Kd.S_apart' HO_9.out (Kd.S_typed HO_2.out) (by decide))) hkp (fun k_ hk_ hs_ => (hk_.2) hs_)) (fun k_ hk_ => ⟨hk_.1.1.1, hk_.1.1.2⟩))
            have n1_ := zM (Kd.S_mono (ok' := fun k_ => (PQ_ k_ ∨ w.heap.size ≤ k_) ∧ some k_ ≠ (.slice (some ad121) t115.length co29 : Value).ownBlock) (Kd.S_keptB ((Kd.S_apart' HO_10.out (Kd.S_typed HO_2.out) (by decide))) hkp (fun k_ hk_ hs_ => (hk_.2) hs_)) (fun k_ hk_ => ⟨hk_.1.1.1, hk_.1.1.2⟩))
            have n2_ := zM (Kd.S_mono (ok' := fun k_ => (PQ_ k_ ∨ w.heap.size ≤ k_)) ho0 (fun k_ hk_ => Or.elim hk_ (fun hs_ => hs_) (fun hn_ => (.inr (Nat.le_trans (by first | exact HK.out.1 | exact (show Kept w _ (fun k_ => P2_ k_) from zf).1) hn_)))))
            have n3_ := zM (Kept.then_ (S := (fun k_ => P2_ k_)) (zf) hkp (fun k_ hs_ => HV.out k_ hs_.symm))
            have n4_ := zM (hb)
            have n5_ := zM (show ∀ k_ : Nat, (v124 : Value).ownBlock = some k_ → P2_ k_ ∨ w.heap.size ≤ k_ from fun k_ e_ => (hv k_ e_).elim (fun e2_ => HV.out k_ e2_.symm) (fun hn_ => .inr (Nat.le_trans (show Kept w _ (fun k_ => P2_ k_) from zf).1 hn_)))
            clear HV hv
            have HV := n5_
            clear n5_
            clear HO_9
            clear HO_10
            clear HK
            clear HB
            clear HO_2
            clear HL121_0
            clear HL122_0
            have HO_9 := n0_
            have HO_10 := n1_
            have HO125 := n2_
            have HK := n3_
            have HB := n4_
            clear n0_ n1_ n2_ n3_ n4_
            (try clear hb)
            (try clear hkp)
            (try clear ho0)
            refine hK.out _ _ ⟨HS0_, HS1_⟩ (fun hHeld => ?_)
            clear hK K
            refine norm_ (a' := ?_) ?_ ?_
            rotate_left
            ·
             show Act.put _ (some 68) _ = _
             simp only [Act.put, zp1, zp2, zp3, i64_w, i32_w]
             rfl
            refine pure_ (i := 10) (N := some 58) (v := ?_) (a' := ?_) #[true, true, true, true, true, true, true, true, true, true, true, false, false, false, false] rfl rfl (any_of HT_.out (by kernel_rfl)) (fun _ _ _ h => h) (Or.inl ⟨by rfl, ?_⟩) ?_ ?_
            rotate_left
            ·
             intro w'
             go_simp
             with_reducible rfl
            rotate_left
            ·
             simp only [Act.put, zp1, zp2, zp3, i64_w, i32_w]
             rfl
            refine pure_ (i := 11) (N := some 69) (v := ?_) (a' := ?_) #[true, true, true, true, true, true, true, true, true, true, true, true, false, false, false] rfl rfl (any_of HT_.out (by kernel_rfl)) (fun _ _ _ h => h) (Or.inl ⟨by rfl, ?_⟩) ?_ ?_
            rotate_left
            ·
             intro w'
             go_simp
             with_reducible rfl
            rotate_left
            ·
             simp only [Act.put, zp1, zp2, zp3, i64_w, i32_w]
             rfl
            refine pure_ (i := 12) (N := some 70) (v := ?_) (a' := ?_) #[true, true, true, true, true, true, true, true, true, true, true, true, true, false, false] rfl rfl (any_of HT_.out (by kernel_rfl)) (fun _ _ _ h => h) (Or.inl ⟨by rfl, ?_⟩) ?_ ?_
            rotate_left
            ·
             intro w'
             go_simp
             with_reducible rfl
            rotate_left
            ·
             simp only [Act.put, zp1, zp2, zp3, i64_w, i32_w]
             rfl
            refine pure_ (i := 13) (N := some 12) (v := ?_) (a' := ?_) #[true, true, true, true, true, true, true, true, true, true, true, true, true, true, false] rfl rfl (any_of HT_.out (by kernel_rfl)) (fun _ _ _ h => h) (Or.inl ⟨by rfl, ?_⟩) ?_ ?_
            rotate_left
            ·
             intro w'
             go_simp
             with_reducible rfl
            rotate_left
            ·
             simp only [Act.put, zp1, zp2, zp3, i64_w, i32_w]
             rfl
            refine pure_ (i := 14) (N := some 13) (v := ?_) (a' := ?_) #[true, true, true, true, true, true, true, true, true, true, true, true, true, true, true] rfl rfl (any_of HT_.out (by kernel_rfl)) (fun _ _ _ h => h) (Or.inl ⟨by rfl, ?_⟩) ?_ ?_
            rotate_left
            ·
             intro w'
             go_simp
             with_reducible rfl
            rotate_left
            ·
             simp only [Act.put, zp1, zp2, zp3, i64_w, i32_w]
             rfl
            refine done_ (done_of HT_.out (by kernel_rfl)) ?_
            try go_wp2
            go_ret2
            exact ⟨_, zw, by first | exact Kd.S_nil _ _ _ _ _ | exact Kd.N_nil _ _ _ _ _ | exact Kd.V_nil _ _ _ _ _ | exact Kd.Q_nil _ _ _ _ _ | exact Kd.R_nil _ _ _ _ _, zb, zf, fun k_ e_ => by simp [Value.ownBlock] at e_⟩
          ·
           rw [if_neg c33] at H
           exact absurd H (by simp)
         ·
          rw [if_neg c32] at H
          exact absurd H (by simp)
        ·
         rw [if_neg c31] at H
         exact absurd H (by simp)
       ·
        rw [if_neg c30] at H
        have c30b0 : decide (x55_1 < (t115.length : Int)) = false := zR c30
        clear c30
        simp only [Option.some.injEq, Prod.mk.injEq] at H
        obtain ⟨rfl, rfl⟩ := H
        go_wp2
        go_ret2
        exact ⟨_, zw, Kd.S_below HO_2.out zg, zb, zf, by first | exact HV2.out | exact HV.out⟩
   ·
    rw [if_neg c21] at H
    exact absurd H (by simp)
  ·
   rw [if_neg c20] at H
   exact absurd H (by simp)

theorem aumbryref05_Fit.calls (k : Nat) : ∀ (A0 : Option Addr) (c0 : Nat) (l0 : List (S33)) (A1 : Option Addr) (c1 : Nat) (l1 : List (S33)) (P2_ : Nat → Prop) (u9000_ : Value) (l2 : List (S109)) (r1 : List (S109)) (r2 : Bool) (w0 w : World) (hB : Below w0.heap.size w0 w) (hr0 : ∀ W_, Kept w W_ (fun k_ => P2_ k_) → Kd.C k33 W_ A0 l0.length l0) (hc0 : l0.length ≤ c0) (hr1 : ∀ W_, Kept w W_ (fun k_ => P2_ k_) → Kd.C k33 W_ A1 l1.length l1) (hc1 : l1.length ≤ c1) (ho2 : Kd.S k109 109 w w0.heap.size P2_ u9000_ l2) (h : aumbryref05_Fit.f k l0 l1 l2 = some (r1, r2)),
 Calls Tryd.prog 75 #[.slice A0 l0.length c0, .slice A1 l1.length c1, u9000_] w fun e w' => ∃ v0_ : Value, e = .returned (.tuple #[v0_, .bool r2]) ∧ Kd.S k109 109 w' w0.heap.size (fun k_ => (P2_ k_ ∨ w.heap.size ≤ k_)) v0_ r1 ∧ Below w0.heap.size w0 w' ∧ Kept w w' (fun k_ => P2_ k_) := by
 intro A0 c0 l0 A1 c1 l1 P2_ u9000_ l2 r1 r2 w0 w hB hr0 hc0 hr1 hc1 ho2 h
 refine (aumbryref05_Fit.callsN k A0 c0 l0 A1 c1 l1 P2_ P2_ u9000_ l2 r1 r2 w0 w hB hr0 hc0 hr1 hc1 ho2 (fun k_ e_ => (Kd.S_R ho2).1 k_ e_) h).mono ?_
 rintro e w' ⟨v0_, he, ho, hb, hk, _⟩
 exact ⟨v0_, he, ho, hb, hk⟩


-- ==== PF53

def aumbryref05_Match.f (k : Nat) (l0 : List (S33)) (l1 : List (S33)) : Option ((List (S109)) × Bool × Int) := (aumbryref04_Check.f k l0).bind fun t101 => (if t101 = 0 then ((aumbryref04_Check.f k l1).bind fun t102 => (if t102 = 0 then ((aumbryref05_Fit.f k l0 l1 ([] : List (S109))).bind fun bt103 => (if bt103.2 = true then (some (bt103.1, true, 0)) else (some (([] : List (S109)), false, 0)))) else (some (([] : List (S109)), false, t102)))) else (some (([] : List (S109)), false, t101)))
theorem aumbryref05_Match.mono : ∀ a0 a1 k, LeO (aumbryref05_Match.f k a0 a1) (aumbryref05_Match.f (k + 1) a0 a1) := by
 intro a0 a1 k
 unfold aumbryref05_Match.f
 repeat' first
  | (with_reducible exact aumbryref04_Check.mono _ _)
  | (with_reducible exact aumbryref05_Fit.mono _ _ _ _)
  | (with_reducible exact LeO.refl _)
  | (with_reducible exact LeO.none _)
  | (with_reducible refine LeO.ite ?_ ?_)
  | (with_reducible refine LeO.bind ?_ (fun _ => ?_))
theorem aumbryref05_Match.calls (k : Nat) (A0 : Option Addr) (c0 : Nat) (l0 : List (S33)) (A1 : Option Addr) (c1 : Nat) (l1 : List (S33)) (r1 : List (S109)) (r2 : Bool) (r3 : Int) (w : World) (hr0 : Kd.C k33 w A0 l0.length l0) (hc0 : l0.length ≤ c0) (hr1 : Kd.C k33 w A1 l1.length l1) (hc1 : l1.length ≤ c1) (h : aumbryref05_Match.f k l0 l1 = some (r1, r2, r3)) :
 Calls Tryd.prog 53 #[.slice A0 l0.length c0, .slice A1 l1.length c1] w fun e w' => ∃ v0_ : Value, e = .returned (.tuple #[v0_, .bool r2, .int .i64 r3]) ∧ Kd.S k109 109 w' w.heap.size (fun _ => True) v0_ r1 ∧ Below w.heap.size w w' := by
 have HR0 := zM hr0
 have HC0 := zM hc0
 clear hr0 hc0
 have HR1 := zM hr1
 have HC1 := zM hc1
 clear hr1 hc1
 have HB := zM (Below.refl w.heap.size w)
 have H : ((aumbryref04_Check.f k l0).bind fun t101 => (if t101 = 0 then ((aumbryref04_Check.f k l1).bind fun t102 => (if t102 = 0 then ((aumbryref05_Fit.f k l0 l1 ([] : List (S109))).bind fun bt103 => (if bt103.2 = true then (some (bt103.1, true, 0)) else (some (([] : List (S109)), false, 0)))) else (some (([] : List (S109)), false, t102)))) else (some (([] : List (S109)), false, t101)))) = some (r1, r2, r3) := h
 clear h
 replace H := zB H
 obtain ⟨t101, A30, H⟩ := H
 try dsimp only at H
 have A3 := zM A30
 clear A30
 by_cases c4 : t101 = 0
 ·
  rw [if_pos c4] at H
  have c4b0 : (t101 == 0) = true := zG c4
  have c4b1 : (t101 != 0) = false := zH c4
  clear c4
  replace H := zB H
  obtain ⟨t102, A50, H⟩ := H
  try dsimp only at H
  have A5 := zM A50
  clear A50
  by_cases c6 : t102 = 0
  ·
   rw [if_pos c6] at H
   have c6b0 : (t102 == 0) = true := zG c6
   have c6b1 : (t102 != 0) = false := zH c6
   clear c6
   replace H := zB H
   obtain ⟨⟨t103, t106⟩, A70, H⟩ := H
   try dsimp only at H
   have A7 := zM A70
   clear A70
   by_cases c8 : t106 = true
   ·
    subst c8
    rw [if_pos rfl] at H
    simp only [Option.some.injEq, Prod.mk.injEq] at H
    obtain ⟨rfl, rfl, rfl⟩ := H
    go_enter Tryd.func53, Tryd.ntmps53
    go_wp2_with (first | ((with_reducible refine gate_callee (f := 37) rfl ?_); refine goesL_ (some 12) rfl rfl Tryd.func37 (by kernel_rfl) rfl #[.slice A0 l0.length c0] rfl zl ?_; (with_reducible refine (aumbryref04_Check.calls k _ _ l0 t101 _ ?side1 ?side2 A3.out).mono ?_); (case side1 => exact Kd.C_below HR0.out zg); (case side2 => exact HC0.out); rintro e w' ⟨rfl, ⟨nd, rfl⟩⟩; refine ⟨_, rfl, ?_⟩) | ((with_reducible refine gate_callee (f := 37) rfl ?_); refine goesL_ (some 17) rfl rfl Tryd.func37 (by kernel_rfl) rfl #[.slice A1 l1.length c1] rfl zl ?_; (with_reducible refine (aumbryref04_Check.calls k _ _ l1 t102 _ ?side1 ?side2 A5.out).mono ?_); (case side1 => exact Kd.C_below HR1.out zg); (case side2 => exact HC1.out); rintro e w' ⟨rfl, ⟨nd, rfl⟩⟩; refine ⟨_, rfl, ?_⟩) | ((with_reducible refine gate_callee (f := 75) rfl ?_); refine goesL_ (some 24) rfl rfl Tryd.func75 (by kernel_rfl) rfl #[.slice A0 l0.length c0, .slice A1 l1.length c1, .slice none 0 0] rfl zl ?_; (refine (aumbryref05_Fit.calls k _ _ l0 _ _ l1 (fun k_ => some k_ = (.slice none 0 0 : Value).ownBlock) (.slice none 0 0) ([] : List (S109)) t103 true w _ ?side1 ?side2 ?side3 ?side4 ?side5 ?side6 A7.out).mono ?_); (case side1 => exact zb); (case side2 => exact Kd.C_kept_came k33_heap HR0.out zb (fun k_ hs_ => (fun e_ => by simp [Value.ownBlock] at e_) hs_)); (case side3 => exact HC0.out); (case side4 => exact Kd.C_kept_came k33_heap HR1.out zb (fun k_ hs_ => (fun e_ => by simp [Value.ownBlock] at e_) hs_)); (case side5 => exact HC1.out); (case side6 => exact Kd.S_nil _ _ _ _ _); rintro e w9 ⟨v104, rfl, ho0, hb, hkp⟩; refine ⟨_, rfl, ?_⟩; have HO105 := zM (Kd.S_mono (ok' := fun k_ => True) ho0 (fun k_ hk_ => trivial)); replace HB := zM (hb); (try clear hb); (try clear hkp); (try clear ho0)))
    go_ret3
    exact ⟨_, zw, Kd.S_below HO105.out zg, zb⟩
   ·
    replace c8 := zI c8
    subst c8
    rw [if_neg (show ¬ (false = true) by decide)] at H
    simp only [Option.some.injEq, Prod.mk.injEq] at H
    obtain ⟨rfl, rfl, rfl⟩ := H
    go_enter Tryd.func53, Tryd.ntmps53
    go_wp2_with (first | ((with_reducible refine gate_callee (f := 37) rfl ?_); refine goesL_ (some 12) rfl rfl Tryd.func37 (by kernel_rfl) rfl #[.slice A0 l0.length c0] rfl zl ?_; (with_reducible refine (aumbryref04_Check.calls k _ _ l0 t101 _ ?side1 ?side2 A3.out).mono ?_); (case side1 => exact Kd.C_below HR0.out zg); (case side2 => exact HC0.out); rintro e w' ⟨rfl, ⟨nd, rfl⟩⟩; refine ⟨_, rfl, ?_⟩) | ((with_reducible refine gate_callee (f := 37) rfl ?_); refine goesL_ (some 17) rfl rfl Tryd.func37 (by kernel_rfl) rfl #[.slice A1 l1.length c1] rfl zl ?_; (with_reducible refine (aumbryref04_Check.calls k _ _ l1 t102 _ ?side1 ?side2 A5.out).mono ?_); (case side1 => exact Kd.C_below HR1.out zg); (case side2 => exact HC1.out); rintro e w' ⟨rfl, ⟨nd, rfl⟩⟩; refine ⟨_, rfl, ?_⟩) | ((with_reducible refine gate_callee (f := 75) rfl ?_); refine goesL_ (some 24) rfl rfl Tryd.func75 (by kernel_rfl) rfl #[.slice A0 l0.length c0, .slice A1 l1.length c1, .slice none 0 0] rfl zl ?_; (refine (aumbryref05_Fit.calls k _ _ l0 _ _ l1 (fun k_ => some k_ = (.slice none 0 0 : Value).ownBlock) (.slice none 0 0) ([] : List (S109)) t103 false w _ ?side1 ?side2 ?side3 ?side4 ?side5 ?side6 A7.out).mono ?_); (case side1 => exact zb); (case side2 => exact Kd.C_kept_came k33_heap HR0.out zb (fun k_ hs_ => (fun e_ => by simp [Value.ownBlock] at e_) hs_)); (case side3 => exact HC0.out); (case side4 => exact Kd.C_kept_came k33_heap HR1.out zb (fun k_ hs_ => (fun e_ => by simp [Value.ownBlock] at e_) hs_)); (case side5 => exact HC1.out); (case side6 => exact Kd.S_nil _ _ _ _ _); rintro e w10 ⟨v104, rfl, ho0, hb, hkp⟩; refine ⟨_, rfl, ?_⟩; have HO105 := zM (Kd.S_mono (ok' := fun k_ => True) ho0 (fun k_ hk_ => trivial)); replace HB := zM (hb); (try clear hb); (try clear hkp); (try clear ho0)))
    go_ret3
    exact ⟨_, zw, by first | exact Kd.S_nil _ _ _ _ _ | exact Kd.N_nil _ _ _ _ _ | exact Kd.V_nil _ _ _ _ _ | exact Kd.Q_nil _ _ _ _ _ | exact Kd.R_nil _ _ _ _ _, zb⟩
  ·
   rw [if_neg c6] at H
   have c6b0 : (t102 == 0) = false := zE c6
   have c6b1 : (t102 != 0) = true := zF c6
   simp only [Option.some.injEq, Prod.mk.injEq] at H
   obtain ⟨rfl, rfl, rfl⟩ := H
   go_enter Tryd.func53, Tryd.ntmps53
   go_wp2_with (first | ((with_reducible refine gate_callee (f := 37) rfl ?_); refine goesL_ (some 12) rfl rfl Tryd.func37 (by kernel_rfl) rfl #[.slice A0 l0.length c0] rfl zl ?_; (with_reducible refine (aumbryref04_Check.calls k _ _ l0 t101 _ ?side1 ?side2 A3.out).mono ?_); (case side1 => exact Kd.C_below HR0.out zg); (case side2 => exact HC0.out); rintro e w' ⟨rfl, ⟨nd, rfl⟩⟩; refine ⟨_, rfl, ?_⟩) | ((with_reducible refine gate_callee (f := 37) rfl ?_); refine goesL_ (some 17) rfl rfl Tryd.func37 (by kernel_rfl) rfl #[.slice A1 l1.length c1] rfl zl ?_; (with_reducible refine (aumbryref04_Check.calls k _ _ l1 t102 _ ?side1 ?side2 A5.out).mono ?_); (case side1 => exact Kd.C_below HR1.out zg); (case side2 => exact HC1.out); rintro e w' ⟨rfl, ⟨nd, rfl⟩⟩; refine ⟨_, rfl, ?_⟩))
   go_ret3
   exact ⟨_, zw, by first | exact Kd.S_nil _ _ _ _ _ | exact Kd.N_nil _ _ _ _ _ | exact Kd.V_nil _ _ _ _ _ | exact Kd.Q_nil _ _ _ _ _ | exact Kd.R_nil _ _ _ _ _, zb⟩
 ·
  rw [if_neg c4] at H
  have c4b0 : (t101 == 0) = false := zE c4
  have c4b1 : (t101 != 0) = true := zF c4
  simp only [Option.some.injEq, Prod.mk.injEq] at H
  obtain ⟨rfl, rfl, rfl⟩ := H
  go_enter Tryd.func53, Tryd.ntmps53
  go_wp2_with (first | ((with_reducible refine gate_callee (f := 37) rfl ?_); refine goesL_ (some 12) rfl rfl Tryd.func37 (by kernel_rfl) rfl #[.slice A0 l0.length c0] rfl zl ?_; (with_reducible refine (aumbryref04_Check.calls k _ _ l0 t101 _ ?side1 ?side2 A3.out).mono ?_); (case side1 => exact Kd.C_below HR0.out zg); (case side2 => exact HC0.out); rintro e w' ⟨rfl, ⟨nd, rfl⟩⟩; refine ⟨_, rfl, ?_⟩))
  go_ret3
  exact ⟨_, zw, by first | exact Kd.S_nil _ _ _ _ _ | exact Kd.N_nil _ _ _ _ _ | exact Kd.V_nil _ _ _ _ _ | exact Kd.Q_nil _ _ _ _ _ | exact Kd.R_nil _ _ _ _ _, zb⟩


-- ==== PF77

def aumbryref05_Put.l0 : Nat → List (S33) → List (S109) → List (S33) → Int → Int → Option ((List (S33)))
 | 0, _, _, _, _, _ => none
 | k + 1, x0, x1, x5, x8, x9 => if x9 < x8 then (if 0 ≤ x9 then (if x9 < (x0.length : Int) then ((aumbryref03_Kind.f k ((rd_T33 x0 x9).f0)).bind fun t102 => (if t102 = 2 then ((aumbryref05_At.f k x1 ((rd_T33 x0 x9).f0)).bind fun t104 => (if 0 ≤ t104 then (if t104 < (x1.length : Int) then (if x5.length + ((rd_T109 x1 t104).f1).length < 5864062014805 then (aumbryref05_Put.l0 k x0 x1 (x5 ++ ((rd_T109 x1 t104).f1)) x8 (wrap64 (x9 + 1))) else (none)) else (none)) else (none))) else (if x5.length < 5864062014805 then (aumbryref05_Put.l0 k x0 x1 (x5 ++ [(⟨(rd_T33 x0 x9).f0, (rd_T33 x0 x9).f1⟩ : S33)]) x8 (wrap64 (x9 + 1))) else (none)))) else (none)) else (none)) else (some x5)
def aumbryref05_Put.f (k : Nat) (l0 : List (S33)) (l1 : List (S109)) : Option ((List (S33))) := aumbryref05_Put.l0 k l0 l1 ([] : List (S33)) (l0.length : Int) 0
theorem aumbryref05_Put.mono_l : ∀ k, (∀ y0 y1 y2 y3 y4, LeO (aumbryref05_Put.l0 k y0 y1 y2 y3 y4) (aumbryref05_Put.l0 (k + 1) y0 y1 y2 y3 y4))
 | 0 => fun _ _ _ _ _ r h => by simp [aumbryref05_Put.l0] at h
 | k + 1 => by
  have ih0 := aumbryref05_Put.mono_l k
  ·
   intro y0 y1 y2 y3 y4
   unfold aumbryref05_Put.l0
   repeat' first
   | (with_reducible exact ih0 _ _ _ _ _)
   | (with_reducible exact aumbryref03_Kind.mono _ _)
   | (with_reducible exact aumbryref05_At.mono _ _ _)
   | (with_reducible exact LeO.refl _)
   | (with_reducible exact LeO.none _)
   | (with_reducible refine LeO.ite ?_ ?_)
   | (with_reducible refine LeO.bind ?_ (fun _ => ?_))
theorem aumbryref05_Put.mono : ∀ a0 a1 k, LeO (aumbryref05_Put.f k a0 a1) (aumbryref05_Put.f (k + 1) a0 a1) := by
 intro a0 a1 k
 have ih0 := aumbryref05_Put.mono_l k
 unfold aumbryref05_Put.f
 repeat' first
  | (with_reducible exact ih0 _ _ _ _ _)
  | (with_reducible exact aumbryref03_Kind.mono _ _)
  | (with_reducible exact aumbryref05_At.mono _ _ _)
  | (with_reducible exact LeO.refl _)
  | (with_reducible exact LeO.none _)
  | (with_reducible refine LeO.ite ?_ ?_)
  | (with_reducible refine LeO.bind ?_ (fun _ => ?_))
theorem aumbryref05_Put.calls (k : Nat) (A0 : Option Addr) (c0 : Nat) (l0 : List (S33)) (A1 : Option Addr) (c1 : Nat) (l1 : List (S109)) (r : List (S33)) (w : World) (hr0 : Kd.C k33 w A0 l0.length l0) (hc0 : l0.length ≤ c0) (hr1 : Kd.C k109 w A1 l1.length l1) (hc1 : l1.length ≤ c1) (h : aumbryref05_Put.f k l0 l1 = some r) :
 Calls Tryd.prog 77 #[.slice A0 l0.length c0, .slice A1 l1.length c1] w fun e w' => ∃ v0_ : Value, e = .returned (v0_) ∧ Kd.R k33 33 w' w.heap.size (fun _ => True) v0_ r ∧ Below w.heap.size w w' := by
 have hu33 := Tryd.underlying33
 have HR0 := zM hr0
 have HC0 := zM hc0
 clear hr0 hc0
 have HR1 := zM hr1
 have HC1 := zM hc1
 clear hr1 hc1
 have HB := zM (Below.refl w.heap.size w)
 have H : (aumbryref05_Put.l0 k l0 l1 ([] : List (S33)) (l0.length : Int) 0) = some r := h
 clear h
 have H' := zM H
 clear H
 go_enter Tryd.func77, Tryd.ntmps77
 go_wp2
 go_loopg [5, 9] k (fun kq v5 v9 w' => ∃ (x5_1 : List (S33)) (x9_1 : Int), v9 = .int .i64 x9_1 ∧ Aside0 (aumbryref05_Put.l0 kq l0 l1 x5_1 (l0.length : Int) x9_1 = some r) ∧ Aside0 (kq ≤ k) ∧ Aside0 (Kd.R k33 33 w' w.heap.size (fun _ => True) v5 x5_1) ∧ Aside0 (Below w.heap.size w w'))
 case atStart => exact ⟨(([] : List (S33))), (0), zy, H', ⟨Nat.le_refl _⟩, ⟨by first | exact Kd.R_nil _ _ _ _ _ | exact Kd.N_nil _ _ _ _ _ | exact Kd.V_nil _ _ _ _ _ | exact Kd.Q_nil _ _ _ _ _ | exact Kd.S_nil _ _ _ _ _⟩, ⟨zb⟩⟩
 case round =>
  clear H'
  try clear c1
  try clear p2
  obtain ⟨x5_1, x9_1, rfl, HA, HK1, HO_5, HB⟩ := hrel
  cases gk with
  | zero => exact absurd HA.out (by simp [aumbryref05_Put.l0])
  | succ k1 =>
   have H := HA.out
   clear HA
   simp only [aumbryref05_Put.l0] at H
   by_cases c3 : x9_1 < (l0.length : Int)
   ·
    rw [if_pos c3] at H
    have c3b0 : decide (x9_1 < (l0.length : Int)) = true := zQ c3
    clear c3
    by_cases c4 : 0 ≤ x9_1
    ·
     rw [if_pos c4] at H
     have c4b0 : decide (0 ≤ x9_1) = true := zQ c4
     clear c4
     by_cases c5 : x9_1 < (l0.length : Int)
     ·
      rw [if_pos c5] at H
      have c5b0 : decide (x9_1 < (l0.length : Int)) = true := zQ c5
      clear c5
      replace H := zB H
      obtain ⟨t102, A60, H⟩ := H
      try dsimp only at H
      have A6 := zM A60
      clear A60
      by_cases c7 : t102 = 2
      ·
       rw [if_pos c7] at H
       have c7b0 : (t102 == 2) = true := zG c7
       have c7b1 : (t102 != 2) = false := zH c7
       clear c7
       replace H := zB H
       obtain ⟨t104, A80, H⟩ := H
       try dsimp only at H
       have A8 := zM A80
       clear A80
       by_cases c9 : 0 ≤ t104
       ·
        rw [if_pos c9] at H
        have c9b0 : decide (0 ≤ t104) = true := zQ c9
        clear c9
        by_cases c10 : t104 < (l1.length : Int)
        ·
         rw [if_pos c10] at H
         have c10b0 : decide (t104 < (l1.length : Int)) = true := zQ c10
         clear c10
         by_cases c11 : x5_1.length + ((rd_T109 l1 t104).f1).length < 5864062014805
         ·
          rw [if_pos c11] at H
          have LMc11 := zM c11
          clear c11
          obtain ⟨y106, hy106⟩ : ∃ y_ : List (S33), y_ = (x5_1 ++ ((rd_T109 l1 t104).f1)) := ⟨_, rfl⟩
          replace H : (aumbryref05_Put.l0 k1 l0 l1 y106 (l0.length : Int) (wrap64 (x9_1 + 1))) = some r := by first | (rw [hy106]; with_reducible exact H) | (have H2_ := (Option.bind_some _ _).symm.trans H; rw [hy106]; with_reducible exact H2_) | (have H2_ := (Option.bind_some _ _).symm.trans H; with_reducible exact H2_) | with_reducible exact H | (rw [hy106]; exact H) | exact H
          have Ny106 := zM hy106
          clear hy106
          have H' := zM H
          clear H
          have p101 : 0 ≤ (x9_1 : Int) := zT zv
          have q101 : x9_1 < (l0.length : Int) := zT zv
          obtain ⟨ad101, e101, hx101_0, hx101_1⟩ := at_T33 HR0.out x9_1 p101 q101
          cases e101
          replace hx101_0 := (HB.out.cell (World.block_lt_of_cell? w _ hx101_0)).trans hx101_0
          replace hx101_1 := (HB.out.cell (World.block_lt_of_cell? w _ hx101_1)).trans hx101_1
          replace p101 := eq_true p101
          replace q101 := eq_true q101
          go_wp2_with (first | ((with_reducible refine gate_callee (f := 61) rfl ?_); refine goesL_ (some 17) rfl rfl Tryd.func61 (by kernel_rfl) rfl #[.string ((rd_T33 l0 x9_1).f0)] rfl zl ?_; (with_reducible refine (aumbryref03_Kind.calls k1 ((rd_T33 l0 x9_1).f0) t102 _ A6.out).mono ?_); rintro e w' ⟨rfl, ⟨nd, rfl⟩⟩; refine ⟨_, rfl, ?_⟩; have p103 : 0 ≤ (x9_1 : Int) := zT zv; have q103 : x9_1 < (l0.length : Int) := zT zv; obtain ⟨ad103, e103, hx103_0, hx103_1⟩ := at_T33 HR0.out x9_1 p103 q103; obtain rfl : ad101 = ad103 := (by injection e103); replace hx103_0 := (HB.out.cell (World.block_lt_of_cell? w _ hx103_0)).trans hx103_0; replace hx103_1 := (HB.out.cell (World.block_lt_of_cell? w _ hx103_1)).trans hx103_1; replace p103 := eq_true p103; replace q103 := eq_true q103) | ((with_reducible refine gate_callee (f := 76) rfl ?_); refine goesL_ (some 27) rfl rfl Tryd.func76 (by kernel_rfl) rfl #[.slice A1 l1.length c1, .string ((rd_T33 l0 x9_1).f0)] rfl zl ?_; (with_reducible refine (aumbryref05_At.calls k1 _ _ l1 ((rd_T33 l0 x9_1).f0) t104 _ ?side1 ?side2 A8.out).mono ?_); (case side1 => exact Kd.C_below (Kd.C_below HR1.out zb) zg); (case side2 => exact HC1.out); rintro e w' ⟨rfl, ⟨nd, rfl⟩⟩; refine ⟨_, rfl, ?_⟩; have p105 : 0 ≤ (t104 : Int) := zT zv; have q105 : t104 < (l1.length : Int) := zT zv; obtain ⟨ad105, A105_1, c105_1, e105, hx105_0, hx105_1, hl105_1, hi105_1⟩ := at_T109 HR1.out t104 p105 q105; cases e105; replace hx105_0 := (HB.out.cell (World.block_lt_of_cell? w _ hx105_0)).trans hx105_0; replace hx105_1 := (HB.out.cell (World.block_lt_of_cell? w _ hx105_1)).trans hx105_1; have HR105_1 := zM hi105_1; have HC105_1 := zM hl105_1; clear hi105_1 hl105_1; replace p105 := eq_true p105; replace q105 := eq_true q105) | ((with_reducible refine gate_builtin (b := .append) (xs := #[.tmp 19, .tmp 30]) rfl ?_); at_builtin; refine Kd.R_append_rows k33 (w0 := w) w.heap.size rfl (.tmp 19) (.tmp 30) 23 33 (.agg #[(.string ⟨#[]⟩), (.int .i64 0)]) 24 rfl Tryd.underlying23 info33 rfl (by decide) (by omega) u5 x5_1 ((rd_T109 l1 t104).f1) _ _ _ (fun _ => True) (fun _ => False) rfl rfl ?aO ?aR (fun _ _ h => h) (fun _ h => h.elim) ?aF ?aB ?aS ?aL ?_; (case aR => exact Kd.C_below (Kd.C_below HR105_1.out zb) zg); (case aB => exact zb); (case aF => exact (fun _ _ => trivial)); (case aO => exact (zr HO_5.out)); (case aS => exact (below_size zb)); (case aL => have := LMc11.out; omega); intro v107 w12 ho hb hg hat; rw [← Ny106.out] at ho; replace HB := zM (hb); have HO108 := zM (ho); clear HO_5; clear ho hb hg hat))
          go_roundg k1
          case measure => have := HK1.out; omega
          case rel => exact ⟨(y106), (wrap64 (x9_1 + 1)), zy, H', ⟨by have := HK1.out; omega⟩, ⟨zr HO108.out⟩, ⟨zb⟩⟩
         ·
          rw [if_neg c11] at H
          exact absurd H (by simp)
        ·
         rw [if_neg c10] at H
         exact absurd H (by simp)
       ·
        rw [if_neg c9] at H
        exact absurd H (by simp)
      ·
       rw [if_neg c7] at H
       have c7b0 : (t102 == 2) = false := zE c7
       have c7b1 : (t102 != 2) = true := zF c7
       by_cases c13 : x5_1.length < 5864062014805
       ·
        rw [if_pos c13] at H
        have LMc13 := zM c13
        clear c13
        obtain ⟨y110, hy110⟩ : ∃ y_ : List (S33), y_ = (x5_1 ++ [(⟨(rd_T33 l0 x9_1).f0, (rd_T33 l0 x9_1).f1⟩ : S33)]) := ⟨_, rfl⟩
        replace H : (aumbryref05_Put.l0 k1 l0 l1 y110 (l0.length : Int) (wrap64 (x9_1 + 1))) = some r := by first | (rw [hy110]; with_reducible exact H) | (have H2_ := (Option.bind_some _ _).symm.trans H; rw [hy110]; with_reducible exact H2_) | (have H2_ := (Option.bind_some _ _).symm.trans H; with_reducible exact H2_) | with_reducible exact H | (rw [hy110]; exact H) | exact H
        have Ny110 := zM hy110
        clear hy110
        have H' := zM H
        clear H
        have p101 : 0 ≤ (x9_1 : Int) := zT zv
        have q101 : x9_1 < (l0.length : Int) := zT zv
        obtain ⟨ad101, e101, hx101_0, hx101_1⟩ := at_T33 HR0.out x9_1 p101 q101
        cases e101
        replace hx101_0 := (HB.out.cell (World.block_lt_of_cell? w _ hx101_0)).trans hx101_0
        replace hx101_1 := (HB.out.cell (World.block_lt_of_cell? w _ hx101_1)).trans hx101_1
        replace p101 := eq_true p101
        replace q101 := eq_true q101
        go_wp2_with (first | ((with_reducible refine gate_callee (f := 61) rfl ?_); refine goesL_ (some 17) rfl rfl Tryd.func61 (by kernel_rfl) rfl #[.string ((rd_T33 l0 x9_1).f0)] rfl zl ?_; (with_reducible refine (aumbryref03_Kind.calls k1 ((rd_T33 l0 x9_1).f0) t102 _ A6.out).mono ?_); rintro e w' ⟨rfl, ⟨nd, rfl⟩⟩; refine ⟨_, rfl, ?_⟩; have p109 : 0 ≤ (x9_1 : Int) := zT zv; have q109 : x9_1 < (l0.length : Int) := zT zv; obtain ⟨ad109, e109, hx109_0, hx109_1⟩ := at_T33 HR0.out x9_1 p109 q109; obtain rfl : ad101 = ad109 := (by injection e109); replace hx109_0 := (HB.out.cell (World.block_lt_of_cell? w _ hx109_0)).trans hx109_0; replace hx109_1 := (HB.out.cell (World.block_lt_of_cell? w _ hx109_1)).trans hx109_1; replace p109 := eq_true p109; replace q109 := eq_true q109) | ((with_reducible refine gate_builtin (b := .append) (xs := #[.tmp 32, .tmp 37]) rfl ?_); at_builtin; refine Kd.R_append k33 (w0 := w) w.heap.size rfl (.tmp 32) (.tmp 37) 23 33 (.agg #[(.string ⟨#[]⟩), (.int .i64 0)]) 24 rfl Tryd.underlying23 info33 rfl (by decide) (by omega) u5 x5_1 (⟨(rd_T33 l0 x9_1).f0, (rd_T33 l0 x9_1).f1⟩ : S33) [.string ((rd_T33 l0 x9_1).f0), .int .i64 ((rd_T33 l0 x9_1).f1)] (fun _ => True) (fun _ => False) rfl rfl ?aP (fun _ hk => hk.elim) ?aF ?aO ?aB ?aS ?aL ?_; (case aP => exact k33_mkM _ _ _ (⟨(rd_T33 l0 x9_1).f0, (rd_T33 l0 x9_1).f1⟩ : S33)); (case aB => exact zb); (case aF => exact (fun _ _ => trivial)); (case aO => exact (zr HO_5.out)); (case aS => exact (below_size zb)); (case aL => have := LMc13.out; omega); intro v111 w14 ho hb hg hat; rw [← Ny110.out] at ho; replace HB := zM (hb); have HO112 := zM (ho); clear HO_5; clear ho hb hg hat))
        go_roundg k1
        case measure => have := HK1.out; omega
        case rel => exact ⟨(y110), (wrap64 (x9_1 + 1)), zy, H', ⟨by have := HK1.out; omega⟩, ⟨zr HO112.out⟩, ⟨zb⟩⟩
       ·
        rw [if_neg c13] at H
        exact absurd H (by simp)
     ·
      rw [if_neg c5] at H
      exact absurd H (by simp)
    ·
     rw [if_neg c4] at H
     exact absurd H (by simp)
   ·
    rw [if_neg c3] at H
    have c3b0 : decide (x9_1 < (l0.length : Int)) = false := zR c3
    clear c3
    obtain rfl := zS H
    go_wp2
    go_ret
    exact ⟨_, zw, zr HO_5.out, zb⟩


-- ==== PF54

mutual
def aumbryref05_Fill.l0 : Nat → List (S33) → List (S109) → Int → Int → Option ((List (S33)) × Int)
 | 0, _, _, _, _ => none
 | k + 1, x0, x1, x18, x19 => if x19 < x18 then (if 0 ≤ x19 then (if x19 < (x1.length : Int) then ((aumbryref03_Kind.f k ((rd_T109 x1 x19).f0)).bind fun t103 => (if t103 = 2 then ((aumbryref05_At.f k x1 ((rd_T109 x1 x19).f0)).bind fun t105 => (if t105 < x19 then (some (([] : List (S33)), 9)) else ((aumbryref04_Check.f k ((rd_T109 x1 x19).f1)).bind fun t107 => (if t107 = 0 then (aumbryref05_Fill.l0 k x0 x1 x18 (wrap64 (x19 + 1))) else (some (([] : List (S33)), t107)))))) else (some (([] : List (S33)), 4)))) else (none)) else (none)) else ((aumbryref04_Vars.f k x0).bind fun t108 => (aumbryref05_Fill.l1 k x0 x1 t108 (t108.length : Int) 0))
def aumbryref05_Fill.l1 : Nat → List (S33) → List (S109) → List ByteArray → Int → Int → Option ((List (S33)) × Int)
 | 0, _, _, _, _, _ => none
 | k + 1, x0, x1, x9, x51, x52 => if x52 < x51 then (if 0 ≤ x52 then (if x52 < (x9.length : Int) then ((aumbryref05_At.f k x1 (rdOf ByteArray.empty x9 x52)).bind fun t112 => (if t112 < 0 then (some (([] : List (S33)), 7)) else (aumbryref05_Fill.l1 k x0 x1 x9 x51 (wrap64 (x52 + 1))))) else (none)) else (none)) else ((aumbryref05_Put.f k x0 x1).bind fun t113 => (if (t113.length : Int) > 64 then (some (([] : List (S33)), 6)) else (some (t113, 0))))
end
def aumbryref05_Fill.f (k : Nat) (l0 : List (S33)) (l1 : List (S109)) : Option ((List (S33)) × Int) := (aumbryref04_Check.f k l0).bind fun t101 => (if t101 = 0 then (aumbryref05_Fill.l0 k l0 l1 (l1.length : Int) 0) else (some (([] : List (S33)), t101)))
theorem aumbryref05_Fill.mono_l : ∀ k, (∀ y0 y1 y2 y3, LeO (aumbryref05_Fill.l0 k y0 y1 y2 y3) (aumbryref05_Fill.l0 (k + 1) y0 y1 y2 y3)) ∧ (∀ y0 y1 y2 y3 y4, LeO (aumbryref05_Fill.l1 k y0 y1 y2 y3 y4) (aumbryref05_Fill.l1 (k + 1) y0 y1 y2 y3 y4))
 | 0 => ⟨fun _ _ _ _ r h => by simp [aumbryref05_Fill.l0] at h, fun _ _ _ _ _ r h => by simp [aumbryref05_Fill.l1] at h⟩
 | k + 1 => by
  obtain ⟨ih0, ih1⟩ := aumbryref05_Fill.mono_l k
  refine ⟨?_, ?_⟩
  ·
   intro y0 y1 y2 y3
   unfold aumbryref05_Fill.l0
   repeat' first
   | (with_reducible exact ih0 _ _ _ _)
   | (with_reducible exact ih1 _ _ _ _ _)
   | (with_reducible exact aumbryref03_Kind.mono _ _)
   | (with_reducible exact aumbryref04_Check.mono _ _)
   | (with_reducible exact aumbryref04_Vars.mono _ _)
   | (with_reducible exact aumbryref05_At.mono _ _ _)
   | (with_reducible exact aumbryref05_Put.mono _ _ _)
   | (with_reducible exact LeO.refl _)
   | (with_reducible exact LeO.none _)
   | (with_reducible refine LeO.ite ?_ ?_)
   | (with_reducible refine LeO.bind ?_ (fun _ => ?_))
  ·
   intro y0 y1 y2 y3 y4
   unfold aumbryref05_Fill.l1
   repeat' first
   | (with_reducible exact ih0 _ _ _ _)
   | (with_reducible exact ih1 _ _ _ _ _)
   | (with_reducible exact aumbryref03_Kind.mono _ _)
   | (with_reducible exact aumbryref04_Check.mono _ _)
   | (with_reducible exact aumbryref04_Vars.mono _ _)
   | (with_reducible exact aumbryref05_At.mono _ _ _)
   | (with_reducible exact aumbryref05_Put.mono _ _ _)
   | (with_reducible exact LeO.refl _)
   | (with_reducible exact LeO.none _)
   | (with_reducible refine LeO.ite ?_ ?_)
   | (with_reducible refine LeO.bind ?_ (fun _ => ?_))
theorem aumbryref05_Fill.mono : ∀ a0 a1 k, LeO (aumbryref05_Fill.f k a0 a1) (aumbryref05_Fill.f (k + 1) a0 a1) := by
 intro a0 a1 k
 obtain ⟨ih0, ih1⟩ := aumbryref05_Fill.mono_l k
 unfold aumbryref05_Fill.f
 repeat' first
  | (with_reducible exact ih0 _ _ _ _)
  | (with_reducible exact ih1 _ _ _ _ _)
  | (with_reducible exact aumbryref03_Kind.mono _ _)
  | (with_reducible exact aumbryref04_Check.mono _ _)
  | (with_reducible exact aumbryref04_Vars.mono _ _)
  | (with_reducible exact aumbryref05_At.mono _ _ _)
  | (with_reducible exact aumbryref05_Put.mono _ _ _)
  | (with_reducible exact LeO.refl _)
  | (with_reducible exact LeO.none _)
  | (with_reducible refine LeO.ite ?_ ?_)
  | (with_reducible refine LeO.bind ?_ (fun _ => ?_))
theorem aumbryref05_Fill.calls (k : Nat) (A0 : Option Addr) (c0 : Nat) (l0 : List (S33)) (A1 : Option Addr) (c1 : Nat) (l1 : List (S109)) (r1 : List (S33)) (r2 : Int) (w : World) (hr0 : Kd.C k33 w A0 l0.length l0) (hc0 : l0.length ≤ c0) (hr1 : Kd.C k109 w A1 l1.length l1) (hc1 : l1.length ≤ c1) (h : aumbryref05_Fill.f k l0 l1 = some (r1, r2)) :
 Calls Tryd.prog 54 #[.slice A0 l0.length c0, .slice A1 l1.length c1] w fun e w' => ∃ v0_ : Value, e = .returned (.tuple #[v0_, .int .i64 r2]) ∧ Kd.R k33 33 w' w.heap.size (fun _ => True) v0_ r1 ∧ Below w.heap.size w w' := by
 have HR0 := zM hr0
 have HC0 := zM hc0
 clear hr0 hc0
 have HR1 := zM hr1
 have HC1 := zM hc1
 clear hr1 hc1
 have HB := zM (Below.refl w.heap.size w)
 have H : ((aumbryref04_Check.f k l0).bind fun t101 => (if t101 = 0 then (aumbryref05_Fill.l0 k l0 l1 (l1.length : Int) 0) else (some (([] : List (S33)), t101)))) = some (r1, r2) := h
 clear h
 replace H := zB H
 obtain ⟨t101, A30, H⟩ := H
 try dsimp only at H
 have A3 := zM A30
 clear A30
 by_cases c4 : t101 = 0
 ·
  rw [if_pos c4] at H
  have c4b0 : (t101 == 0) = true := zG c4
  have c4b1 : (t101 != 0) = false := zH c4
  clear c4
  have H' := zM H
  clear H
  go_enter Tryd.func54, Tryd.ntmps54
  go_wp2_with (first | ((with_reducible refine gate_callee (f := 37) rfl ?_); refine goesL_ (some 13) rfl rfl Tryd.func37 (by kernel_rfl) rfl #[.slice A0 l0.length c0] rfl zl ?_; (with_reducible refine (aumbryref04_Check.calls k _ _ l0 t101 _ ?side1 ?side2 A3.out).mono ?_); (case side1 => exact Kd.C_below HR0.out zg); (case side2 => exact HC0.out); rintro e w' ⟨rfl, ⟨nd, rfl⟩⟩; refine ⟨_, rfl, ?_⟩))
  go_loopg [19] k (fun kq v19 w' => ∃ (x19_1 : Int), v19 = .int .i64 x19_1 ∧ Aside0 (aumbryref05_Fill.l0 kq l0 l1 (l1.length : Int) x19_1 = some (r1, r2)) ∧ Aside0 (kq ≤ k) ∧ Aside0 (Below w.heap.size w w'))
  case atStart => exact ⟨(0), zy, H', ⟨Nat.le_refl _⟩, ⟨zb⟩⟩
  case round =>
   clear H'
   try clear c1
   try clear p2
   try clear c3
   try clear c4
   try clear c4b0
   try clear c4b1
   obtain ⟨x19_1, rfl, HA, HK1, HB⟩ := hrel
   cases gk with
   | zero => exact absurd HA.out (by simp [aumbryref05_Fill.l0])
   | succ k1 =>
    have H := HA.out
    clear HA
    simp only [aumbryref05_Fill.l0] at H
    by_cases c5 : x19_1 < (l1.length : Int)
    ·
     rw [if_pos c5] at H
     have c5b0 : decide (x19_1 < (l1.length : Int)) = true := zQ c5
     clear c5
     by_cases c6 : 0 ≤ x19_1
     ·
      rw [if_pos c6] at H
      have c6b0 : decide (0 ≤ x19_1) = true := zQ c6
      clear c6
      by_cases c7 : x19_1 < (l1.length : Int)
      ·
       rw [if_pos c7] at H
       have c7b0 : decide (x19_1 < (l1.length : Int)) = true := zQ c7
       clear c7
       replace H := zB H
       obtain ⟨t103, A80, H⟩ := H
       try dsimp only at H
       have A8 := zM A80
       clear A80
       by_cases c9 : t103 = 2
       ·
        rw [if_pos c9] at H
        have c9b0 : (t103 == 2) = true := zG c9
        have c9b1 : (t103 != 2) = false := zH c9
        clear c9
        replace H := zB H
        obtain ⟨t105, A100, H⟩ := H
        try dsimp only at H
        have A10 := zM A100
        clear A100
        by_cases c11 : t105 < x19_1
        ·
         rw [if_pos c11] at H
         have c11b0 : decide (t105 < x19_1) = true := zQ c11
         clear c11
         simp only [Option.some.injEq, Prod.mk.injEq] at H
         obtain ⟨rfl, rfl⟩ := H
         have p102 : 0 ≤ (x19_1 : Int) := zT zv
         have q102 : x19_1 < (l1.length : Int) := zT zv
         obtain ⟨ad102, A102_1, c102_1, e102, hx102_0, hx102_1, hl102_1, hi102_1⟩ := at_T109 HR1.out x19_1 p102 q102
         cases e102
         replace hx102_0 := (HB.out.cell (World.block_lt_of_cell? w _ hx102_0)).trans hx102_0
         replace hx102_1 := (HB.out.cell (World.block_lt_of_cell? w _ hx102_1)).trans hx102_1
         have HR102_1 := zM hi102_1
         have HC102_1 := zM hl102_1
         clear hi102_1 hl102_1
         replace p102 := eq_true p102
         replace q102 := eq_true q102
         go_wp2_with (first | ((with_reducible refine gate_callee (f := 61) rfl ?_); refine goesL_ (some 27) rfl rfl Tryd.func61 (by kernel_rfl) rfl #[.string ((rd_T109 l1 x19_1).f0)] rfl zl ?_; (with_reducible refine (aumbryref03_Kind.calls k1 ((rd_T109 l1 x19_1).f0) t103 _ A8.out).mono ?_); rintro e w' ⟨rfl, ⟨nd, rfl⟩⟩; refine ⟨_, rfl, ?_⟩; have p104 : 0 ≤ (x19_1 : Int) := zT zv; have q104 : x19_1 < (l1.length : Int) := zT zv; obtain ⟨ad104, A104_1, c104_1, e104, hx104_0, hx104_1, hl104_1, hi104_1⟩ := at_T109 HR1.out x19_1 p104 q104; obtain rfl : ad102 = ad104 := (by injection e104); replace hx104_0 := (HB.out.cell (World.block_lt_of_cell? w _ hx104_0)).trans hx104_0; replace hx104_1 := (HB.out.cell (World.block_lt_of_cell? w _ hx104_1)).trans hx104_1; have HR104_1 := zM hi104_1; have HC104_1 := zM hl104_1; clear hi104_1 hl104_1; replace p104 := eq_true p104; replace q104 := eq_true q104; have ea_ := zS (hx102_1.symm.trans hx104_1); injection ea_ with ea_ en_ ec_; subst ea_; subst ec_; clear en_) | ((with_reducible refine gate_callee (f := 76) rfl ?_); refine goesL_ (some 35) rfl rfl Tryd.func76 (by kernel_rfl) rfl #[.slice (some ad102) l1.length c1, .string ((rd_T109 l1 x19_1).f0)] rfl zl ?_; (with_reducible refine (aumbryref05_At.calls k1 _ _ l1 ((rd_T109 l1 x19_1).f0) t105 _ ?side1 ?side2 A10.out).mono ?_); (case side1 => exact Kd.C_below (Kd.C_below HR1.out zb) zg); (case side2 => exact HC1.out); rintro e w' ⟨rfl, ⟨nd, rfl⟩⟩; refine ⟨_, rfl, ?_⟩))
         go_ret2
         exact ⟨_, zw, by first | exact Kd.R_nil _ _ _ _ _ | exact Kd.N_nil _ _ _ _ _ | exact Kd.V_nil _ _ _ _ _ | exact Kd.Q_nil _ _ _ _ _ | exact Kd.S_nil _ _ _ _ _, zb⟩
        ·
         rw [if_neg c11] at H
         have c11b0 : decide (t105 < x19_1) = false := zR c11
         clear c11
         replace H := zB H
         obtain ⟨t107, A120, H⟩ := H
         try dsimp only at H
         have A12 := zM A120
         clear A120
         by_cases c13 : t107 = 0
         ·
          rw [if_pos c13] at H
          have c13b0 : (t107 == 0) = true := zG c13
          have c13b1 : (t107 != 0) = false := zH c13
          clear c13
          have H' := zM H
          clear H
          have p102 : 0 ≤ (x19_1 : Int) := zT zv
          have q102 : x19_1 < (l1.length : Int) := zT zv
          obtain ⟨ad102, A102_1, c102_1, e102, hx102_0, hx102_1, hl102_1, hi102_1⟩ := at_T109 HR1.out x19_1 p102 q102
          cases e102
          replace hx102_0 := (HB.out.cell (World.block_lt_of_cell? w _ hx102_0)).trans hx102_0
          replace hx102_1 := (HB.out.cell (World.block_lt_of_cell? w _ hx102_1)).trans hx102_1
          have HR102_1 := zM hi102_1
          have HC102_1 := zM hl102_1
          clear hi102_1 hl102_1
          replace p102 := eq_true p102
          replace q102 := eq_true q102
          go_wp2_with (first | ((with_reducible refine gate_callee (f := 61) rfl ?_); refine goesL_ (some 27) rfl rfl Tryd.func61 (by kernel_rfl) rfl #[.string ((rd_T109 l1 x19_1).f0)] rfl zl ?_; (with_reducible refine (aumbryref03_Kind.calls k1 ((rd_T109 l1 x19_1).f0) t103 _ A8.out).mono ?_); rintro e w' ⟨rfl, ⟨nd, rfl⟩⟩; refine ⟨_, rfl, ?_⟩; have p104 : 0 ≤ (x19_1 : Int) := zT zv; have q104 : x19_1 < (l1.length : Int) := zT zv; obtain ⟨ad104, A104_1, c104_1, e104, hx104_0, hx104_1, hl104_1, hi104_1⟩ := at_T109 HR1.out x19_1 p104 q104; obtain rfl : ad102 = ad104 := (by injection e104); replace hx104_0 := (HB.out.cell (World.block_lt_of_cell? w _ hx104_0)).trans hx104_0; replace hx104_1 := (HB.out.cell (World.block_lt_of_cell? w _ hx104_1)).trans hx104_1; have HR104_1 := zM hi104_1; have HC104_1 := zM hl104_1; clear hi104_1 hl104_1; replace p104 := eq_true p104; replace q104 := eq_true q104; have ea_ := zS (hx102_1.symm.trans hx104_1); injection ea_ with ea_ en_ ec_; subst ea_; subst ec_; clear en_) | ((with_reducible refine gate_callee (f := 76) rfl ?_); refine goesL_ (some 35) rfl rfl Tryd.func76 (by kernel_rfl) rfl #[.slice (some ad102) l1.length c1, .string ((rd_T109 l1 x19_1).f0)] rfl zl ?_; (with_reducible refine (aumbryref05_At.calls k1 _ _ l1 ((rd_T109 l1 x19_1).f0) t105 _ ?side1 ?side2 A10.out).mono ?_); (case side1 => exact Kd.C_below (Kd.C_below HR1.out zb) zg); (case side2 => exact HC1.out); rintro e w' ⟨rfl, ⟨nd, rfl⟩⟩; refine ⟨_, rfl, ?_⟩; have p106 : 0 ≤ (x19_1 : Int) := zT zv; have q106 : x19_1 < (l1.length : Int) := zT zv; obtain ⟨ad106, A106_1, c106_1, e106, hx106_0, hx106_1, hl106_1, hi106_1⟩ := at_T109 HR1.out x19_1 p106 q106; obtain rfl : ad102 = ad106 := (by injection e106); replace hx106_0 := (HB.out.cell (World.block_lt_of_cell? w _ hx106_0)).trans hx106_0; replace hx106_1 := (HB.out.cell (World.block_lt_of_cell? w _ hx106_1)).trans hx106_1; have HR106_1 := zM hi106_1; have HC106_1 := zM hl106_1; clear hi106_1 hl106_1; replace p106 := eq_true p106; replace q106 := eq_true q106; have ea_ := zS (hx102_1.symm.trans hx106_1); injection ea_ with ea_ en_ ec_; subst ea_; subst ec_; clear en_) | ((with_reducible refine gate_callee (f := 37) rfl ?_); refine goesL_ (some 43) rfl rfl Tryd.func37 (by kernel_rfl) rfl #[.slice A102_1 ((rd_T109 l1 x19_1).f1).length c102_1] rfl zl ?_; (with_reducible refine (aumbryref04_Check.calls k1 _ _ ((rd_T109 l1 x19_1).f1) t107 _ ?side1 ?side2 A12.out).mono ?_); (case side1 => exact Kd.C_below (Kd.C_below HR106_1.out zb) zg); (case side2 => exact HC106_1.out); rintro e w' ⟨rfl, ⟨nd, rfl⟩⟩; refine ⟨_, rfl, ?_⟩))
          go_roundg k1
          case measure => have := HK1.out; omega
          case rel => exact ⟨(wrap64 (x19_1 + 1)), zy, H', ⟨by have := HK1.out; omega⟩, ⟨zb⟩⟩
         ·
          rw [if_neg c13] at H
          have c13b0 : (t107 == 0) = false := zE c13
          have c13b1 : (t107 != 0) = true := zF c13
          simp only [Option.some.injEq, Prod.mk.injEq] at H
          obtain ⟨rfl, rfl⟩ := H
          have p102 : 0 ≤ (x19_1 : Int) := zT zv
          have q102 : x19_1 < (l1.length : Int) := zT zv
          obtain ⟨ad102, A102_1, c102_1, e102, hx102_0, hx102_1, hl102_1, hi102_1⟩ := at_T109 HR1.out x19_1 p102 q102
          cases e102
          replace hx102_0 := (HB.out.cell (World.block_lt_of_cell? w _ hx102_0)).trans hx102_0
          replace hx102_1 := (HB.out.cell (World.block_lt_of_cell? w _ hx102_1)).trans hx102_1
          have HR102_1 := zM hi102_1
          have HC102_1 := zM hl102_1
          clear hi102_1 hl102_1
          replace p102 := eq_true p102
          replace q102 := eq_true q102
          go_wp2_with (first | ((with_reducible refine gate_callee (f := 61) rfl ?_); refine goesL_ (some 27) rfl rfl Tryd.func61 (by kernel_rfl) rfl #[.string ((rd_T109 l1 x19_1).f0)] rfl zl ?_; (with_reducible refine (aumbryref03_Kind.calls k1 ((rd_T109 l1 x19_1).f0) t103 _ A8.out).mono ?_); rintro e w' ⟨rfl, ⟨nd, rfl⟩⟩; refine ⟨_, rfl, ?_⟩; have p104 : 0 ≤ (x19_1 : Int) := zT zv; have q104 : x19_1 < (l1.length : Int) := zT zv; obtain ⟨ad104, A104_1, c104_1, e104, hx104_0, hx104_1, hl104_1, hi104_1⟩ := at_T109 HR1.out x19_1 p104 q104; obtain rfl : ad102 = ad104 := (by injection e104); replace hx104_0 := (HB.out.cell (World.block_lt_of_cell? w _ hx104_0)).trans hx104_0; replace hx104_1 := (HB.out.cell (World.block_lt_of_cell? w _ hx104_1)).trans hx104_1; have HR104_1 := zM hi104_1; have HC104_1 := zM hl104_1; clear hi104_1 hl104_1; replace p104 := eq_true p104; replace q104 := eq_true q104; have ea_ := zS (hx102_1.symm.trans hx104_1); injection ea_ with ea_ en_ ec_; subst ea_; subst ec_; clear en_) | ((with_reducible refine gate_callee (f := 76) rfl ?_); refine goesL_ (some 35) rfl rfl Tryd.func76 (by kernel_rfl) rfl #[.slice (some ad102) l1.length c1, .string ((rd_T109 l1 x19_1).f0)] rfl zl ?_; (with_reducible refine (aumbryref05_At.calls k1 _ _ l1 ((rd_T109 l1 x19_1).f0) t105 _ ?side1 ?side2 A10.out).mono ?_); (case side1 => exact Kd.C_below (Kd.C_below HR1.out zb) zg); (case side2 => exact HC1.out); rintro e w' ⟨rfl, ⟨nd, rfl⟩⟩; refine ⟨_, rfl, ?_⟩; have p106 : 0 ≤ (x19_1 : Int) := zT zv; have q106 : x19_1 < (l1.length : Int) := zT zv; obtain ⟨ad106, A106_1, c106_1, e106, hx106_0, hx106_1, hl106_1, hi106_1⟩ := at_T109 HR1.out x19_1 p106 q106; obtain rfl : ad102 = ad106 := (by injection e106); replace hx106_0 := (HB.out.cell (World.block_lt_of_cell? w _ hx106_0)).trans hx106_0; replace hx106_1 := (HB.out.cell (World.block_lt_of_cell? w _ hx106_1)).trans hx106_1; have HR106_1 := zM hi106_1; have HC106_1 := zM hl106_1; clear hi106_1 hl106_1; replace p106 := eq_true p106; replace q106 := eq_true q106; have ea_ := zS (hx102_1.symm.trans hx106_1); injection ea_ with ea_ en_ ec_; subst ea_; subst ec_; clear en_) | ((with_reducible refine gate_callee (f := 37) rfl ?_); refine goesL_ (some 43) rfl rfl Tryd.func37 (by kernel_rfl) rfl #[.slice A102_1 ((rd_T109 l1 x19_1).f1).length c102_1] rfl zl ?_; (with_reducible refine (aumbryref04_Check.calls k1 _ _ ((rd_T109 l1 x19_1).f1) t107 _ ?side1 ?side2 A12.out).mono ?_); (case side1 => exact Kd.C_below (Kd.C_below HR106_1.out zb) zg); (case side2 => exact HC106_1.out); rintro e w' ⟨rfl, ⟨nd, rfl⟩⟩; refine ⟨_, rfl, ?_⟩))
          go_ret2
          exact ⟨_, zw, by first | exact Kd.R_nil _ _ _ _ _ | exact Kd.N_nil _ _ _ _ _ | exact Kd.V_nil _ _ _ _ _ | exact Kd.Q_nil _ _ _ _ _ | exact Kd.S_nil _ _ _ _ _, zb⟩
       ·
        rw [if_neg c9] at H
        have c9b0 : (t103 == 2) = false := zE c9
        have c9b1 : (t103 != 2) = true := zF c9
        simp only [Option.some.injEq, Prod.mk.injEq] at H
        obtain ⟨rfl, rfl⟩ := H
        have p102 : 0 ≤ (x19_1 : Int) := zT zv
        have q102 : x19_1 < (l1.length : Int) := zT zv
        obtain ⟨ad102, A102_1, c102_1, e102, hx102_0, hx102_1, hl102_1, hi102_1⟩ := at_T109 HR1.out x19_1 p102 q102
        cases e102
        replace hx102_0 := (HB.out.cell (World.block_lt_of_cell? w _ hx102_0)).trans hx102_0
        replace hx102_1 := (HB.out.cell (World.block_lt_of_cell? w _ hx102_1)).trans hx102_1
        have HR102_1 := zM hi102_1
        have HC102_1 := zM hl102_1
        clear hi102_1 hl102_1
        replace p102 := eq_true p102
        replace q102 := eq_true q102
        go_wp2_with (first | ((with_reducible refine gate_callee (f := 61) rfl ?_); refine goesL_ (some 27) rfl rfl Tryd.func61 (by kernel_rfl) rfl #[.string ((rd_T109 l1 x19_1).f0)] rfl zl ?_; (with_reducible refine (aumbryref03_Kind.calls k1 ((rd_T109 l1 x19_1).f0) t103 _ A8.out).mono ?_); rintro e w' ⟨rfl, ⟨nd, rfl⟩⟩; refine ⟨_, rfl, ?_⟩))
        go_ret2
        exact ⟨_, zw, by first | exact Kd.R_nil _ _ _ _ _ | exact Kd.N_nil _ _ _ _ _ | exact Kd.V_nil _ _ _ _ _ | exact Kd.Q_nil _ _ _ _ _ | exact Kd.S_nil _ _ _ _ _, zb⟩
      ·
       rw [if_neg c7] at H
       exact absurd H (by simp)
     ·
      rw [if_neg c6] at H
      exact absurd H (by simp)
    ·
     rw [if_neg c5] at H
     have c5b0 : decide (x19_1 < (l1.length : Int)) = false := zR c5
     clear c5
     replace H := zB H
     obtain ⟨t108, A140, H⟩ := H
     try dsimp only at H
     have A14 := zM A140
     clear A140
     have H' := zM H
     clear H
     go_wp2_with (first | ((with_reducible refine gate_callee (f := 39) rfl ?_); refine goesL_ (some 49) rfl rfl Tryd.func39 (by kernel_rfl) rfl #[.slice A0 l0.length c0] rfl zl ?_; (with_reducible refine (aumbryref04_Vars.calls k1 _ _ l0 t108 _ ?side1 ?side2 A14.out).mono ?_); (case side1 => exact Kd.C_below HR0.out zb); (case side2 => exact HC0.out); rintro e w15 ⟨v109, rfl, ho0, hb⟩; refine ⟨_, rfl, ?_⟩; have HO110 := zM (Kd.R_lower ho0 (below_size zb)); replace HB := zM (below_step zb hb); (try clear hb); (try clear ho0); obtain ⟨Ao16, co16, eo16⟩ := Kd.R_slice HO110.out; subst eo16))
     go_loopg [52] k1 (fun kq v52 w' => ∃ (x52_2 : Int), v52 = .int .i64 x52_2 ∧ Aside0 (aumbryref05_Fill.l1 kq l0 l1 t108 (t108.length : Int) x52_2 = some (r1, r2)) ∧ Aside0 (kq ≤ k1) ∧ Aside0 (Kd.R Kd.string 9 w' w.heap.size (fun _ => True) (.slice Ao16 t108.length co16) t108) ∧ Aside0 (Below w.heap.size w w'))
     case atStart => exact ⟨(0), zy, H', ⟨Nat.le_refl _⟩, ⟨zr HO110.out⟩, ⟨zb⟩⟩
     case round =>
      clear H'
      try clear c1
      try clear p1
      try clear q1
      try clear hx1
      try clear p2
      try clear c3
      try clear c4
      try clear c4b0
      try clear c4b1
      try clear c5
      try clear c5b0
      try clear c6
      try clear c6b0
      try clear p6
      try clear c7
      try clear c7b0
      try clear c9
      try clear c9b0
      try clear c9b1
      try clear c10
      try clear p10
      try clear q10
      try clear hx10
      try clear c11
      try clear c11b0
      try clear c13
      try clear c13b0
      try clear c13b1
      try clear hx102_0
      try clear hx102_1
      try clear hx104_0
      try clear hx104_1
      try clear hx106_0
      try clear hx106_1
      try clear p102
      try clear p104
      try clear p106
      try clear p2
      try clear q102
      try clear q104
      try clear q106
      obtain ⟨x52_2, rfl, HA, HK2, HO_9, HB⟩ := hrel
      cases gk with
      | zero => exact absurd HA.out (by simp [aumbryref05_Fill.l1])
      | succ k2 =>
       have H := HA.out
       clear HA
       simp only [aumbryref05_Fill.l1] at H
       by_cases c17 : x52_2 < (t108.length : Int)
       ·
        rw [if_pos c17] at H
        have c17b0 : decide (x52_2 < (t108.length : Int)) = true := zQ c17
        clear c17
        by_cases c18 : 0 ≤ x52_2
        ·
         rw [if_pos c18] at H
         have c18b0 : decide (0 ≤ x52_2) = true := zQ c18
         clear c18
         by_cases c19 : x52_2 < (t108.length : Int)
         ·
          rw [if_pos c19] at H
          have c19b0 : decide (x52_2 < (t108.length : Int)) = true := zQ c19
          clear c19
          replace H := zB H
          obtain ⟨t112, A200, H⟩ := H
          try dsimp only at H
          have A20 := zM A200
          clear A200
          by_cases c21 : t112 < 0
          ·
           rw [if_pos c21] at H
           have c21b0 : decide (t112 < 0) = true := zQ c21
           clear c21
           simp only [Option.some.injEq, Prod.mk.injEq] at H
           obtain ⟨rfl, rfl⟩ := H
           have p111 : 0 ≤ (x52_2 : Int) := zT zv
           have q111 : x52_2 < (t108.length : Int) := zT zv
           obtain ⟨ad111, e111, hx111_0⟩ := Kd.at_string (Kd.R_reads' HO_9.out).2.2 x52_2 p111 q111
           cases e111
           replace p111 := eq_true p111
           replace q111 := eq_true q111
           go_wp2_with (first | ((with_reducible refine gate_callee (f := 76) rfl ?_); refine goesL_ (some 60) rfl rfl Tryd.func76 (by kernel_rfl) rfl #[.slice A1 l1.length c1, .string (rdOf ByteArray.empty t108 x52_2)] rfl zl ?_; (with_reducible refine (aumbryref05_At.calls k2 _ _ l1 (rdOf ByteArray.empty t108 x52_2) t112 _ ?side1 ?side2 A20.out).mono ?_); (case side1 => exact Kd.C_below HR1.out zb); (case side2 => exact HC1.out); rintro e w' ⟨rfl, ⟨nd, rfl⟩⟩; refine ⟨_, rfl, ?_⟩))
           go_ret2
           exact ⟨_, zw, by first | exact Kd.R_nil _ _ _ _ _ | exact Kd.N_nil _ _ _ _ _ | exact Kd.V_nil _ _ _ _ _ | exact Kd.Q_nil _ _ _ _ _ | exact Kd.S_nil _ _ _ _ _, zb⟩
          ·
           rw [if_neg c21] at H
           have c21b0 : decide (t112 < 0) = false := zR c21
           clear c21
           have H' := zM H
           clear H
           have p111 : 0 ≤ (x52_2 : Int) := zT zv
           have q111 : x52_2 < (t108.length : Int) := zT zv
           obtain ⟨ad111, e111, hx111_0⟩ := Kd.at_string (Kd.R_reads' HO_9.out).2.2 x52_2 p111 q111
           cases e111
           replace p111 := eq_true p111
           replace q111 := eq_true q111
           go_wp2_with (first | ((with_reducible refine gate_callee (f := 76) rfl ?_); refine goesL_ (some 60) rfl rfl Tryd.func76 (by kernel_rfl) rfl #[.slice A1 l1.length c1, .string (rdOf ByteArray.empty t108 x52_2)] rfl zl ?_; (with_reducible refine (aumbryref05_At.calls k2 _ _ l1 (rdOf ByteArray.empty t108 x52_2) t112 _ ?side1 ?side2 A20.out).mono ?_); (case side1 => exact Kd.C_below HR1.out zb); (case side2 => exact HC1.out); rintro e w' ⟨rfl, ⟨nd, rfl⟩⟩; refine ⟨_, rfl, ?_⟩))
           go_roundg k2
           case measure => have := HK1.out; have := HK2.out; omega
           case rel => exact ⟨(wrap64 (x52_2 + 1)), zy, H', ⟨by have := HK1.out; have := HK2.out; omega⟩, ⟨zr HO_9.out⟩, ⟨zb⟩⟩
         ·
          rw [if_neg c19] at H
          exact absurd H (by simp)
        ·
         rw [if_neg c18] at H
         exact absurd H (by simp)
       ·
        rw [if_neg c17] at H
        have c17b0 : decide (x52_2 < (t108.length : Int)) = false := zR c17
        clear c17
        replace H := zB H
        obtain ⟨t113, A220, H⟩ := H
        try dsimp only at H
        have A22 := zM A220
        clear A220
        by_cases c23 : (t113.length : Int) > 64
        ·
         rw [if_pos c23] at H
         have c23b0 : decide (64 < (t113.length : Int)) = true := zQ c23
         have c23b1 : decide (64 < t113.length) = true := zQ (by omega)
         clear c23
         simp only [Option.some.injEq, Prod.mk.injEq] at H
         obtain ⟨rfl, rfl⟩ := H
         go_wp2_with (first | ((with_reducible refine gate_callee (f := 77) rfl ?_); refine goesL_ (some 65) rfl rfl Tryd.func77 (by kernel_rfl) rfl #[.slice A0 l0.length c0, .slice A1 l1.length c1] rfl zl ?_; (with_reducible refine (aumbryref05_Put.calls k2 _ _ l0 _ _ l1 t113 _ ?side1 ?side2 ?side3 ?side4 A22.out).mono ?_); (case side1 => exact Kd.C_below HR0.out zb); (case side2 => exact HC0.out); (case side3 => exact Kd.C_below HR1.out zb); (case side4 => exact HC1.out); rintro e w24 ⟨v114, rfl, ho0, hb⟩; refine ⟨_, rfl, ?_⟩; replace HO_9 := zM (Kd.R_below (zr HO_9.out) hb); have HO115 := zM (Kd.R_lower ho0 (below_size zb)); replace HB := zM (below_step zb hb); (try clear hb); (try clear ho0); obtain ⟨Ao25, co25, eo25⟩ := Kd.R_slice HO115.out; subst eo25))
         go_ret2
         exact ⟨_, zw, by first | exact Kd.R_nil _ _ _ _ _ | exact Kd.N_nil _ _ _ _ _ | exact Kd.V_nil _ _ _ _ _ | exact Kd.Q_nil _ _ _ _ _ | exact Kd.S_nil _ _ _ _ _, zb⟩
        ·
         rw [if_neg c23] at H
         have c23b0 : decide (64 < (t113.length : Int)) = false := zR c23
         have c23b1 : decide (64 < t113.length) = false := zR (by omega)
         clear c23
         simp only [Option.some.injEq, Prod.mk.injEq] at H
         obtain ⟨rfl, rfl⟩ := H
         go_wp2_with (first | ((with_reducible refine gate_callee (f := 77) rfl ?_); refine goesL_ (some 65) rfl rfl Tryd.func77 (by kernel_rfl) rfl #[.slice A0 l0.length c0, .slice A1 l1.length c1] rfl zl ?_; (with_reducible refine (aumbryref05_Put.calls k2 _ _ l0 _ _ l1 t113 _ ?side1 ?side2 ?side3 ?side4 A22.out).mono ?_); (case side1 => exact Kd.C_below HR0.out zb); (case side2 => exact HC0.out); (case side3 => exact Kd.C_below HR1.out zb); (case side4 => exact HC1.out); rintro e w26 ⟨v114, rfl, ho0, hb⟩; refine ⟨_, rfl, ?_⟩; replace HO_9 := zM (Kd.R_below (zr HO_9.out) hb); have HO115 := zM (Kd.R_lower ho0 (below_size zb)); replace HB := zM (below_step zb hb); (try clear hb); (try clear ho0); obtain ⟨Ao27, co27, eo27⟩ := Kd.R_slice HO115.out; subst eo27))
         go_ret2
         exact ⟨_, zw, zr HO115.out, zb⟩
 ·
  rw [if_neg c4] at H
  have c4b0 : (t101 == 0) = false := zE c4
  have c4b1 : (t101 != 0) = true := zF c4
  simp only [Option.some.injEq, Prod.mk.injEq] at H
  obtain ⟨rfl, rfl⟩ := H
  go_enter Tryd.func54, Tryd.ntmps54
  go_wp2_with (first | ((with_reducible refine gate_callee (f := 37) rfl ?_); refine goesL_ (some 13) rfl rfl Tryd.func37 (by kernel_rfl) rfl #[.slice A0 l0.length c0] rfl zl ?_; (with_reducible refine (aumbryref04_Check.calls k _ _ l0 t101 _ ?side1 ?side2 A3.out).mono ?_); (case side1 => exact Kd.C_below HR0.out zg); (case side2 => exact HC0.out); rintro e w' ⟨rfl, ⟨nd, rfl⟩⟩; refine ⟨_, rfl, ?_⟩))
  go_ret2
  exact ⟨_, zw, by first | exact Kd.R_nil _ _ _ _ _ | exact Kd.N_nil _ _ _ _ _ | exact Kd.V_nil _ _ _ _ _ | exact Kd.Q_nil _ _ _ _ _ | exact Kd.S_nil _ _ _ _ _, zb⟩


-- ==== PF24

def aumbryref06_Apply.f (k : Nat) (a0_0 : Int) (l0_1 : List (S33)) (l0_2 : List (S33)) (l1 : List (S33)) : Option ((List (S33)) × Bool × Int) := (aumbryref06_Check.f k a0_0 l0_1 l0_2).bind fun t102 => (if t102 = 0 then ((aumbryref05_Match.f k l0_1 l1).bind fun bt103 => (if bt103.2.2 = 0 then (if bt103.2.1 = true then ((aumbryref05_Fill.f k l0_2 bt103.1).bind fun bt108 => (some (bt108.1, (bt108.2 == 0), bt108.2))) else (some (([] : List (S33)), false, bt103.2.2))) else (some (([] : List (S33)), false, bt103.2.2)))) else (some (([] : List (S33)), false, t102)))
theorem aumbryref06_Apply.mono : ∀ a0 a1 a2 a3 k, LeO (aumbryref06_Apply.f k a0 a1 a2 a3) (aumbryref06_Apply.f (k + 1) a0 a1 a2 a3) := by
 intro a0 a1 a2 a3 k
 unfold aumbryref06_Apply.f
 repeat' first
  | (with_reducible exact aumbryref05_Fill.mono _ _ _)
  | (with_reducible exact aumbryref05_Match.mono _ _ _)
  | (with_reducible exact aumbryref06_Check.mono _ _ _ _)
  | (with_reducible exact LeO.refl _)
  | (with_reducible exact LeO.none _)
  | (with_reducible refine LeO.ite ?_ ?_)
  | (with_reducible refine LeO.bind ?_ (fun _ => ?_))
theorem aumbryref06_Apply.calls (k : Nat) (a0_0 : Int) (A0_1 : Option Addr) (c0_1 : Nat) (l0_1 : List (S33)) (A0_2 : Option Addr) (c0_2 : Nat) (l0_2 : List (S33)) (A1 : Option Addr) (c1 : Nat) (l1 : List (S33)) (r1 : List (S33)) (r2 : Bool) (r3 : Int) (w : World) (hr0_1 : Kd.C k33 w A0_1 l0_1.length l0_1) (hc0_1 : l0_1.length ≤ c0_1) (hr0_2 : Kd.C k33 w A0_2 l0_2.length l0_2) (hc0_2 : l0_2.length ≤ c0_2) (hr1 : Kd.C k33 w A1 l1.length l1) (hc1 : l1.length ≤ c1) (h : aumbryref06_Apply.f k a0_0 l0_1 l0_2 l1 = some (r1, r2, r3)) :
 Calls Tryd.prog 24 #[.agg #[.int .i64 a0_0, .slice A0_1 l0_1.length c0_1, .slice A0_2 l0_2.length c0_2], .slice A1 l1.length c1] w fun e w' => ∃ v0_ : Value, e = .returned (.tuple #[v0_, .bool r2, .int .i64 r3]) ∧ Kd.R k33 33 w' w.heap.size (fun _ => True) v0_ r1 ∧ Below w.heap.size w w' := by
 have hu25 := Tryd.underlying25
 have HR0_1 := zM hr0_1
 have HC0_1 := zM hc0_1
 clear hr0_1 hc0_1
 have HR0_2 := zM hr0_2
 have HC0_2 := zM hc0_2
 clear hr0_2 hc0_2
 have HR1 := zM hr1
 have HC1 := zM hc1
 clear hr1 hc1
 have HB := zM (Below.refl w.heap.size w)
 have H : ((aumbryref06_Check.f k a0_0 l0_1 l0_2).bind fun t102 => (if t102 = 0 then ((aumbryref05_Match.f k l0_1 l1).bind fun bt103 => (if bt103.2.2 = 0 then (if bt103.2.1 = true then ((aumbryref05_Fill.f k l0_2 bt103.1).bind fun bt108 => (some (bt108.1, (bt108.2 == 0), bt108.2))) else (some (([] : List (S33)), false, bt103.2.2))) else (some (([] : List (S33)), false, bt103.2.2)))) else (some (([] : List (S33)), false, t102)))) = some (r1, r2, r3) := h
 clear h
 replace H := zB H
 obtain ⟨t102, A30, H⟩ := H
 try dsimp only at H
 have A3 := zM A30
 clear A30
 by_cases c4 : t102 = 0
 ·
  rw [if_pos c4] at H
  have c4b0 : (t102 == 0) = true := zG c4
  have c4b1 : (t102 != 0) = false := zH c4
  clear c4
  replace H := zB H
  obtain ⟨⟨t103, t104, t105⟩, A50, H⟩ := H
  try dsimp only at H
  have A5 := zM A50
  clear A50
  by_cases c6 : t105 = 0
  ·
   rw [if_pos c6] at H
   have c6b0 : (t105 == 0) = true := zG c6
   have c6b1 : (t105 != 0) = false := zH c6
   clear c6
   by_cases c7 : t104 = true
   ·
    subst c7
    rw [if_pos rfl] at H
    replace H := zB H
    obtain ⟨⟨t108, t109⟩, A80, H⟩ := H
    try dsimp only at H
    have A8 := zM A80
    clear A80
    simp only [Option.some.injEq, Prod.mk.injEq] at H
    obtain ⟨rfl, rfl, rfl⟩ := H
    go_enter Tryd.func24, Tryd.ntmps24
    go_wp2_with (first | ((with_reducible refine gate_dst (N := 2) rfl ?_); refine box_event ?hg (N := 2) ?hd (cs := #[.int .i64 a0_0, .slice A0_1 l0_1.length c0_1, .slice A0_2 l0_2.length c0_2]) (t := 25) ?hr ?_; (case hd => rfl); (case hg => rfl); (case hr => first | (go_simp; done) | (go_simp; rfl)); intro gb101 hg w9 hbox hb; have BK101 := zM (hbox); have GW101 := zM (zh hg : w.heap.size ≤ gb101); have GE101 := zM (zh hg : w.heap.size ≤ gb101); replace HB := zM (below_step zb hb); clear hb hbox hg; have hcz10_0 : w9.cell? ⟨gb101, 0, none⟩ = some (.int .i64 a0_0) := (zX BK101.out 0).trans rfl; have hcz10_1 : w9.cell? ⟨gb101, 1, none⟩ = some (.slice A0_1 l0_1.length c0_1) := (zX BK101.out 1).trans rfl; have hcz10_2 : w9.cell? ⟨gb101, 2, none⟩ = some (.slice A0_2 l0_2.length c0_2) := (zX BK101.out 2).trans rfl; have hfz10_0 := zY BK101.out 0; have hfz10_1 := zY BK101.out 1; have hfz10_2 := zY BK101.out 2) | ((with_reducible refine gate_callee (f := 13) rfl ?_); refine goesL_ (some 14) rfl rfl Tryd.func13 (by kernel_rfl) rfl #[.agg #[.int .i64 a0_0, .slice A0_1 l0_1.length c0_1, .slice A0_2 l0_2.length c0_2]] rfl zl ?_; (with_reducible refine (aumbryref06_Check.calls k a0_0 _ _ l0_1 _ _ l0_2 t102 _ ?side1 ?side2 ?side3 ?side4 A3.out).mono ?_); (case side1 => exact Kd.C_below HR0_1.out zb); (case side2 => exact HC0_1.out); (case side3 => exact Kd.C_below HR0_2.out zb); (case side4 => exact HC0_2.out); rintro e w11 ⟨rfl, hb⟩; refine ⟨_, rfl, ?_⟩; replace BK101 := zM (blk_below (zk BK101.out) hb); replace HB := zM (below_step zb hb); (try clear hb); have hcz12_0 : w11.cell? ⟨gb101, 0, none⟩ = some (.int .i64 a0_0) := (zX BK101.out 0).trans rfl; have hcz12_1 : w11.cell? ⟨gb101, 1, none⟩ = some (.slice A0_1 l0_1.length c0_1) := (zX BK101.out 1).trans rfl; have hcz12_2 : w11.cell? ⟨gb101, 2, none⟩ = some (.slice A0_2 l0_2.length c0_2) := (zX BK101.out 2).trans rfl; have hfz12_0 := zY BK101.out 0; have hfz12_1 := zY BK101.out 1; have hfz12_2 := zY BK101.out 2) | ((with_reducible refine gate_callee (f := 53) rfl ?_); refine goesL_ (some 22) rfl rfl Tryd.func53 (by kernel_rfl) rfl #[.slice A0_1 l0_1.length c0_1, .slice A1 l1.length c1] rfl zl ?_; (with_reducible refine (aumbryref05_Match.calls k _ _ l0_1 _ _ l1 t103 true t105 _ ?side1 ?side2 ?side3 ?side4 A5.out).mono ?_); (case side1 => exact Kd.C_below HR0_1.out zb); (case side2 => exact HC0_1.out); (case side3 => exact Kd.C_below HR1.out zb); (case side4 => exact HC1.out); rintro e w13 ⟨v106, rfl, ho0, hb⟩; refine ⟨_, rfl, ?_⟩; have HO107 := zM (Kd.S_lower ho0 (below_size zb)); replace BK101 := zM (blk_below (zk BK101.out) hb); replace HB := zM (below_step zb hb); (try clear hb); (try clear ho0); have hcz14_0 : w13.cell? ⟨gb101, 0, none⟩ = some (.int .i64 a0_0) := (zX BK101.out 0).trans rfl; have hcz14_1 : w13.cell? ⟨gb101, 1, none⟩ = some (.slice A0_1 l0_1.length c0_1) := (zX BK101.out 1).trans rfl; have hcz14_2 : w13.cell? ⟨gb101, 2, none⟩ = some (.slice A0_2 l0_2.length c0_2) := (zX BK101.out 2).trans rfl; have hfz14_0 := zY BK101.out 0; have hfz14_1 := zY BK101.out 1; have hfz14_2 := zY BK101.out 2; obtain ⟨Ao15, co15, eo15⟩ := Kd.S_slice HO107.out; subst eo15) | ((with_reducible refine gate_callee (f := 54) rfl ?_); refine goesL_ (some 37) rfl rfl Tryd.func54 (by kernel_rfl) rfl #[.slice A0_2 l0_2.length c0_2, .slice Ao15 t103.length co15] rfl zl ?_; (with_reducible refine (aumbryref05_Fill.calls k _ _ l0_2 _ _ t103 t108 t109 _ ?side1 ?side2 ?side3 ?side4 A8.out).mono ?_); (case side1 => exact Kd.C_below HR0_2.out zb); (case side2 => exact HC0_2.out); (case side3 => exact Kd.C_below (Kd.S_reads' HO107.out).2.2 zg); (case side4 => exact (Kd.S_reads' HO107.out).2.1); rintro e w16 ⟨v110, rfl, ho0, hb⟩; refine ⟨_, rfl, ?_⟩; replace HO107 := zM (Kd.S_elder' (Kd.S_below HO107.out zg) (Kd.R_base ho0) hb); have HO111 := zM (Kd.R_lower ho0 (below_size zb)); replace BK101 := zM (blk_below (zk BK101.out) hb); replace HB := zM (below_step zb hb); (try clear hb); (try clear ho0)))
    go_ret3
    exact ⟨_, zw, zr HO111.out, zb⟩
   ·
    replace c7 := zI c7
    subst c7
    rw [if_neg (show ¬ (false = true) by decide)] at H
    simp only [Option.some.injEq, Prod.mk.injEq] at H
    obtain ⟨rfl, rfl, rfl⟩ := H
    go_enter Tryd.func24, Tryd.ntmps24
    go_wp2_with (first | ((with_reducible refine gate_dst (N := 2) rfl ?_); refine box_event ?hg (N := 2) ?hd (cs := #[.int .i64 a0_0, .slice A0_1 l0_1.length c0_1, .slice A0_2 l0_2.length c0_2]) (t := 25) ?hr ?_; (case hd => rfl); (case hg => rfl); (case hr => first | (go_simp; done) | (go_simp; rfl)); intro gb101 hg w17 hbox hb; have BK101 := zM (hbox); have GW101 := zM (zh hg : w.heap.size ≤ gb101); have GE101 := zM (zh hg : w.heap.size ≤ gb101); replace HB := zM (below_step zb hb); clear hb hbox hg; have hcz18_0 : w17.cell? ⟨gb101, 0, none⟩ = some (.int .i64 a0_0) := (zX BK101.out 0).trans rfl; have hcz18_1 : w17.cell? ⟨gb101, 1, none⟩ = some (.slice A0_1 l0_1.length c0_1) := (zX BK101.out 1).trans rfl; have hcz18_2 : w17.cell? ⟨gb101, 2, none⟩ = some (.slice A0_2 l0_2.length c0_2) := (zX BK101.out 2).trans rfl; have hfz18_0 := zY BK101.out 0; have hfz18_1 := zY BK101.out 1; have hfz18_2 := zY BK101.out 2) | ((with_reducible refine gate_callee (f := 13) rfl ?_); refine goesL_ (some 14) rfl rfl Tryd.func13 (by kernel_rfl) rfl #[.agg #[.int .i64 a0_0, .slice A0_1 l0_1.length c0_1, .slice A0_2 l0_2.length c0_2]] rfl zl ?_; (with_reducible refine (aumbryref06_Check.calls k a0_0 _ _ l0_1 _ _ l0_2 t102 _ ?side1 ?side2 ?side3 ?side4 A3.out).mono ?_); (case side1 => exact Kd.C_below HR0_1.out zb); (case side2 => exact HC0_1.out); (case side3 => exact Kd.C_below HR0_2.out zb); (case side4 => exact HC0_2.out); rintro e w19 ⟨rfl, hb⟩; refine ⟨_, rfl, ?_⟩; replace BK101 := zM (blk_below (zk BK101.out) hb); replace HB := zM (below_step zb hb); (try clear hb); have hcz20_0 : w19.cell? ⟨gb101, 0, none⟩ = some (.int .i64 a0_0) := (zX BK101.out 0).trans rfl; have hcz20_1 : w19.cell? ⟨gb101, 1, none⟩ = some (.slice A0_1 l0_1.length c0_1) := (zX BK101.out 1).trans rfl; have hcz20_2 : w19.cell? ⟨gb101, 2, none⟩ = some (.slice A0_2 l0_2.length c0_2) := (zX BK101.out 2).trans rfl; have hfz20_0 := zY BK101.out 0; have hfz20_1 := zY BK101.out 1; have hfz20_2 := zY BK101.out 2) | ((with_reducible refine gate_callee (f := 53) rfl ?_); refine goesL_ (some 22) rfl rfl Tryd.func53 (by kernel_rfl) rfl #[.slice A0_1 l0_1.length c0_1, .slice A1 l1.length c1] rfl zl ?_; (with_reducible refine (aumbryref05_Match.calls k _ _ l0_1 _ _ l1 t103 false t105 _ ?side1 ?side2 ?side3 ?side4 A5.out).mono ?_); (case side1 => exact Kd.C_below HR0_1.out zb); (case side2 => exact HC0_1.out); (case side3 => exact Kd.C_below HR1.out zb); (case side4 => exact HC1.out); rintro e w21 ⟨v106, rfl, ho0, hb⟩; refine ⟨_, rfl, ?_⟩; have HO107 := zM (Kd.S_lower ho0 (below_size zb)); replace BK101 := zM (blk_below (zk BK101.out) hb); replace HB := zM (below_step zb hb); (try clear hb); (try clear ho0)))
    go_ret3
    exact ⟨_, zw, by first | exact Kd.R_nil _ _ _ _ _ | exact Kd.N_nil _ _ _ _ _ | exact Kd.V_nil _ _ _ _ _ | exact Kd.Q_nil _ _ _ _ _ | exact Kd.S_nil _ _ _ _ _, zb⟩
  ·
   rw [if_neg c6] at H
   have c6b0 : (t105 == 0) = false := zE c6
   have c6b1 : (t105 != 0) = true := zF c6
   simp only [Option.some.injEq, Prod.mk.injEq] at H
   obtain ⟨rfl, rfl, rfl⟩ := H
   go_enter Tryd.func24, Tryd.ntmps24
   go_wp2_with (first | ((with_reducible refine gate_dst (N := 2) rfl ?_); refine box_event ?hg (N := 2) ?hd (cs := #[.int .i64 a0_0, .slice A0_1 l0_1.length c0_1, .slice A0_2 l0_2.length c0_2]) (t := 25) ?hr ?_; (case hd => rfl); (case hg => rfl); (case hr => first | (go_simp; done) | (go_simp; rfl)); intro gb101 hg w22 hbox hb; have BK101 := zM (hbox); have GW101 := zM (zh hg : w.heap.size ≤ gb101); have GE101 := zM (zh hg : w.heap.size ≤ gb101); replace HB := zM (below_step zb hb); clear hb hbox hg; have hcz23_0 : w22.cell? ⟨gb101, 0, none⟩ = some (.int .i64 a0_0) := (zX BK101.out 0).trans rfl; have hcz23_1 : w22.cell? ⟨gb101, 1, none⟩ = some (.slice A0_1 l0_1.length c0_1) := (zX BK101.out 1).trans rfl; have hcz23_2 : w22.cell? ⟨gb101, 2, none⟩ = some (.slice A0_2 l0_2.length c0_2) := (zX BK101.out 2).trans rfl; have hfz23_0 := zY BK101.out 0; have hfz23_1 := zY BK101.out 1; have hfz23_2 := zY BK101.out 2) | ((with_reducible refine gate_callee (f := 13) rfl ?_); refine goesL_ (some 14) rfl rfl Tryd.func13 (by kernel_rfl) rfl #[.agg #[.int .i64 a0_0, .slice A0_1 l0_1.length c0_1, .slice A0_2 l0_2.length c0_2]] rfl zl ?_; (with_reducible refine (aumbryref06_Check.calls k a0_0 _ _ l0_1 _ _ l0_2 t102 _ ?side1 ?side2 ?side3 ?side4 A3.out).mono ?_); (case side1 => exact Kd.C_below HR0_1.out zb); (case side2 => exact HC0_1.out); (case side3 => exact Kd.C_below HR0_2.out zb); (case side4 => exact HC0_2.out); rintro e w24 ⟨rfl, hb⟩; refine ⟨_, rfl, ?_⟩; replace BK101 := zM (blk_below (zk BK101.out) hb); replace HB := zM (below_step zb hb); (try clear hb); have hcz25_0 : w24.cell? ⟨gb101, 0, none⟩ = some (.int .i64 a0_0) := (zX BK101.out 0).trans rfl; have hcz25_1 : w24.cell? ⟨gb101, 1, none⟩ = some (.slice A0_1 l0_1.length c0_1) := (zX BK101.out 1).trans rfl; have hcz25_2 : w24.cell? ⟨gb101, 2, none⟩ = some (.slice A0_2 l0_2.length c0_2) := (zX BK101.out 2).trans rfl; have hfz25_0 := zY BK101.out 0; have hfz25_1 := zY BK101.out 1; have hfz25_2 := zY BK101.out 2) | ((with_reducible refine gate_callee (f := 53) rfl ?_); refine goesL_ (some 22) rfl rfl Tryd.func53 (by kernel_rfl) rfl #[.slice A0_1 l0_1.length c0_1, .slice A1 l1.length c1] rfl zl ?_; (with_reducible refine (aumbryref05_Match.calls k _ _ l0_1 _ _ l1 t103 t104 t105 _ ?side1 ?side2 ?side3 ?side4 A5.out).mono ?_); (case side1 => exact Kd.C_below HR0_1.out zb); (case side2 => exact HC0_1.out); (case side3 => exact Kd.C_below HR1.out zb); (case side4 => exact HC1.out); rintro e w26 ⟨v106, rfl, ho0, hb⟩; refine ⟨_, rfl, ?_⟩; have HO107 := zM (Kd.S_lower ho0 (below_size zb)); replace BK101 := zM (blk_below (zk BK101.out) hb); replace HB := zM (below_step zb hb); (try clear hb); (try clear ho0)))
   go_ret3
   exact ⟨_, zw, by first | exact Kd.R_nil _ _ _ _ _ | exact Kd.N_nil _ _ _ _ _ | exact Kd.V_nil _ _ _ _ _ | exact Kd.Q_nil _ _ _ _ _ | exact Kd.S_nil _ _ _ _ _, zb⟩
 ·
  rw [if_neg c4] at H
  have c4b0 : (t102 == 0) = false := zE c4
  have c4b1 : (t102 != 0) = true := zF c4
  simp only [Option.some.injEq, Prod.mk.injEq] at H
  obtain ⟨rfl, rfl, rfl⟩ := H
  go_enter Tryd.func24, Tryd.ntmps24
  go_wp2_with (first | ((with_reducible refine gate_dst (N := 2) rfl ?_); refine box_event ?hg (N := 2) ?hd (cs := #[.int .i64 a0_0, .slice A0_1 l0_1.length c0_1, .slice A0_2 l0_2.length c0_2]) (t := 25) ?hr ?_; (case hd => rfl); (case hg => rfl); (case hr => first | (go_simp; done) | (go_simp; rfl)); intro gb101 hg w27 hbox hb; have BK101 := zM (hbox); have GW101 := zM (zh hg : w.heap.size ≤ gb101); have GE101 := zM (zh hg : w.heap.size ≤ gb101); replace HB := zM (below_step zb hb); clear hb hbox hg; have hcz28_0 : w27.cell? ⟨gb101, 0, none⟩ = some (.int .i64 a0_0) := (zX BK101.out 0).trans rfl; have hcz28_1 : w27.cell? ⟨gb101, 1, none⟩ = some (.slice A0_1 l0_1.length c0_1) := (zX BK101.out 1).trans rfl; have hcz28_2 : w27.cell? ⟨gb101, 2, none⟩ = some (.slice A0_2 l0_2.length c0_2) := (zX BK101.out 2).trans rfl; have hfz28_0 := zY BK101.out 0; have hfz28_1 := zY BK101.out 1; have hfz28_2 := zY BK101.out 2) | ((with_reducible refine gate_callee (f := 13) rfl ?_); refine goesL_ (some 14) rfl rfl Tryd.func13 (by kernel_rfl) rfl #[.agg #[.int .i64 a0_0, .slice A0_1 l0_1.length c0_1, .slice A0_2 l0_2.length c0_2]] rfl zl ?_; (with_reducible refine (aumbryref06_Check.calls k a0_0 _ _ l0_1 _ _ l0_2 t102 _ ?side1 ?side2 ?side3 ?side4 A3.out).mono ?_); (case side1 => exact Kd.C_below HR0_1.out zb); (case side2 => exact HC0_1.out); (case side3 => exact Kd.C_below HR0_2.out zb); (case side4 => exact HC0_2.out); rintro e w29 ⟨rfl, hb⟩; refine ⟨_, rfl, ?_⟩; replace BK101 := zM (blk_below (zk BK101.out) hb); replace HB := zM (below_step zb hb); (try clear hb)))
  go_ret3
  exact ⟨_, zw, by first | exact Kd.R_nil _ _ _ _ _ | exact Kd.N_nil _ _ _ _ _ | exact Kd.V_nil _ _ _ _ _ | exact Kd.Q_nil _ _ _ _ _ | exact Kd.S_nil _ _ _ _ _, zb⟩

end Go.Proofs.YtpnamhplhdaphaaDoor.P

-- ==== OwnH
/- What is written over in rows that a call made: the rows' cells, the blocks that they lie in. -/
namespace Go.Proofs.YtpnamhplhdaphaaDoor.P
open Go.RowKit Go.Proofs.YtpnamhplhdaphaaDoorW.PrintWords Go.Proofs.YtpnamhplhdaphaaDoorW.PrintLast Go.Proofs.YtpnamhplhdaphaaDoorW.PrintMore
abbrev OwC := S33
def WrRow (W : World) (g n : Nat) : Prop := ∃ cs, W.heap[g]? = some (.cells cs 33 (0, 0)) ∧ ∀ j, j < n → ∃ s, cs[j * 2]? = some (.string s)
theorem WrRow.cell {W : World} {g n : Nat} (h : WrRow W g n) {j : Nat} (hj : j < n) : ∃ s, W.cell? ⟨g, j * 2, none⟩ = some (.string s) ∧ W.frozen? ⟨g, j * 2, none⟩ = false := by
 obtain ⟨cs, h1, h2⟩ := h
 obtain ⟨s, hs⟩ := h2 j hj
 exact ⟨s, (blk_cell h1 _).trans hs, blk_frozen h1 _⟩
theorem WrRow.set {W : World} {g n : Nat} (h : WrRow W g n) (g' o : Nat) (x : ByteArray) : WrRow (W.setCell ⟨g', o, none⟩ (.string x)) g n := by
 obtain ⟨cs, h1, h2⟩ := h
 by_cases hg : g' = g
 ·
  subst hg
  refine ⟨_, blk_set h1 o _, fun j hj => ?_⟩
  obtain ⟨s, hs⟩ := h2 j hj
  by_cases ho : o = j * 2
  ·
   subst ho
   refine ⟨x, ?_⟩
   rw [Array.getElem?_setIfInBounds]
   have := (Array.getElem?_eq_some_iff.1 hs).1
   simp [this]
  ·
   refine ⟨s, ?_⟩
   rw [Array.getElem?_setIfInBounds, if_neg ho]
   exact hs
 ·
  exact ⟨cs, blk_far h1 (p := ⟨g', o, none⟩) (fun he => hg he.symm) _, h2⟩
theorem WrRow.alloc {W : World} {g n : Nat} (h : WrRow W g n) (o : Obj) : WrRow (W.alloc o) g n := by
 obtain ⟨cs, h1, h2⟩ := h
 exact ⟨cs, (Below.heap_alloc W o g (blk_lt h1)).trans h1, h2⟩
theorem WrRow.drew {W : World} {g n : Nat} (h : WrRow W g n) : WrRow W.drew g n := h
theorem WrRow.drewN {W : World} {g n : Nat} (h : WrRow W g n) (m : Nat) : WrRow (W.drewN m) g n := h
theorem WrRow.kept {W W' : World} {g n : Nat} {S : Nat → Prop} (h : WrRow W g n) (hk : Kept W W' S) (hg : ¬ S g) : WrRow W' g n := by
 obtain ⟨cs, h1, h2⟩ := h
 exact ⟨cs, blk_kept h1 hk hg, h2⟩
def WrRows (W : World) (S : Nat → Prop) (G : Nat) (lens : List Nat) : Prop :=
 ¬ S G ∧ ∃ cs, W.heap[G]? = some (.cells cs 23 (0, 0)) ∧ ∀ (i n : Nat), lens[i]? = some n → ∃ (B : Option Addr) (c : Nat), cs[i]? = some (Value.slice B n c) ∧ (n ≤ c ∧ n ≤ 9223372036854775807) ∧ (0 < n → ∃ g, B = some ⟨g, 0, none⟩ ∧ S g ∧ WrRow W g n)
theorem WrRows.set {W : World} {S : Nat → Prop} {G : Nat} {lens : List Nat} (h : WrRows W S G lens) {g' : Nat} (hg : S g') (o : Nat) (x : ByteArray) : WrRows (W.setCell ⟨g', o, none⟩ (.string x)) S G lens := by
 obtain ⟨h0, cs, h1, h2⟩ := h
 refine ⟨h0, cs, blk_far h1 (p := ⟨g', o, none⟩) (fun he => h0 (by rw [he]; exact hg)) _, fun i n hi => ?_⟩
 obtain ⟨B, c, a1, a2, a3⟩ := h2 i n hi
 refine ⟨B, c, a1, a2, fun hn => ?_⟩
 obtain ⟨g, b1, b2, b3⟩ := a3 hn
 exact ⟨g, b1, b2, b3.set g' o x⟩
theorem WrRows.alloc {W : World} {S : Nat → Prop} {G : Nat} {lens : List Nat} (h : WrRows W S G lens) (o : Obj) : WrRows (W.alloc o) S G lens := by
 obtain ⟨h0, cs, h1, h2⟩ := h
 refine ⟨h0, cs, (Below.heap_alloc W o G (blk_lt h1)).trans h1, fun i n hi => ?_⟩
 obtain ⟨B, c, a1, a2, a3⟩ := h2 i n hi
 refine ⟨B, c, a1, a2, fun hn => ?_⟩
 obtain ⟨g, b1, b2, b3⟩ := a3 hn
 exact ⟨g, b1, b2, b3.alloc o⟩
theorem WrRows.drewN {W : World} {S : Nat → Prop} {G : Nat} {lens : List Nat} (h : WrRows W S G lens) (m : Nat) : WrRows (W.drewN m) S G lens := h
theorem WrRows.drew {W : World} {S : Nat → Prop} {G : Nat} {lens : List Nat} (h : WrRows W S G lens) : WrRows W.drew S G lens := h
theorem wr_row {W : World} {base g n cap : Nat} {ok : Nat → Prop} {xs : List OwC} (h : Kd.R k33 33 W base ok (.slice (some ⟨g, 0, none⟩) n cap) xs) : WrRow W g n := by
 obtain ⟨cs, hc⟩ := Kd.R_typed h g (by simp [Value.ownBlock])
 refine ⟨cs, hc, fun j hj => ?_⟩
 obtain ⟨c, _, hM, hcc, _⟩ := Kd.R_elem h z33 (j : Int) (by omega) (by omega)
 obtain rfl := k33_openM hM
 have := hcc 0 _ rfl
 rw [blk_cell hc] at this
 exact ⟨_, this⟩
def OwnA (W : World) (S : Nat → Prop) (A : Option Addr) (lens : List Nat) : Prop := lens.length = 0 ∨ ∃ G, A = some ⟨G, 0, none⟩ ∧ WrRows W S G lens
def OwnM (W : World) (lo : Nat) (A : Option Addr) (n : Nat) : Prop := n = 0 ∨ ∃ g, A = some ⟨g, 0, none⟩ ∧ lo ≤ g ∧ WrRow W g n
theorem OwnA.set {W : World} {S : Nat → Prop} {A : Option Addr} {lens : List Nat} (h : OwnA W S A lens) {g' : Nat} (hg : S g') (o : Nat) (x : ByteArray) : OwnA (W.setCell ⟨g', o, none⟩ (.string x)) S A lens := by
 rcases h with h | ⟨G, h1, h2⟩
 ·
  exact .inl h
 ·
  exact .inr ⟨G, h1, h2.set hg o x⟩
theorem OwnM.set {W : World} {lo n : Nat} {A : Option Addr} (h : OwnM W lo A n) (g' o : Nat) (x : ByteArray) : OwnM (W.setCell ⟨g', o, none⟩ (.string x)) lo A n := by
 rcases h with h | ⟨g, h1, h2, h3⟩
 ·
  exact .inl h
 ·
  exact .inr ⟨g, h1, h2, h3.set g' o x⟩
end Go.Proofs.YtpnamhplhdaphaaDoor.P

-- ==== OwnW
/- What is written over in rows of things that hold rows of cells. -/
namespace Go.Proofs.YtpnamhplhdaphaaDoor.P
open Go.RowKit Go.Proofs.YtpnamhplhdaphaaDoorW.PrintWords Go.Proofs.YtpnamhplhdaphaaDoorW.PrintLast Go.Proofs.YtpnamhplhdaphaaDoorW.PrintMore
def WrG (W : World) (S : Nat → Prop) (T st off G : Nat) (lens : List Nat) : Prop :=
 ¬ S G ∧ ∃ cs, W.heap[G]? = some (.cells cs T (0, 0)) ∧ ∀ (i n : Nat), lens[i]? = some n → (∃ v, cs[i * st]? = some v) ∧ ∃ (B : Option Addr) (c : Nat), cs[i * st + off]? = some (Value.slice B n c) ∧ (n ≤ c ∧ n ≤ 9223372036854775807) ∧ (0 < n → ∃ g, B = some ⟨g, 0, none⟩ ∧ S g ∧ WrRow W g n)
theorem WrRow.off {W : World} {g n : Nat} (h : WrRow W g n) {b : Nat} (hb : b ≠ g) (o : Nat) (v : Value) : WrRow (W.setCell ⟨b, o, none⟩ v) g n := by
 obtain ⟨cs, h1, h2⟩ := h
 exact ⟨cs, blk_far h1 (p := ⟨b, o, none⟩) (fun he => hb he.symm) _, h2⟩
theorem WrG.set {W : World} {S : Nat → Prop} {T st off G : Nat} {lens : List Nat} (h : WrG W S T st off G lens) {g' : Nat} (hg : S g') (o : Nat) (x : ByteArray) : WrG (W.setCell ⟨g', o, none⟩ (.string x)) S T st off G lens := by
 obtain ⟨h0, cs, h1, h2⟩ := h
 refine ⟨h0, cs, blk_far h1 (p := ⟨g', o, none⟩) (fun he => h0 (by rw [he]; exact hg)) _, fun i n hi => ?_⟩
 obtain ⟨a0, B, c, a1, a2, a3⟩ := h2 i n hi
 refine ⟨a0, B, c, a1, a2, fun hn => ?_⟩
 obtain ⟨g, b1, b2, b3⟩ := a3 hn
 exact ⟨g, b1, b2, b3.set g' o x⟩
theorem WrG.off {W : World} {S : Nat → Prop} {T st off G : Nat} {lens : List Nat} (h : WrG W S T st off G lens) {b : Nat} (hb : ¬ S b) (hG : b ≠ G) (o : Nat) (v : Value) : WrG (W.setCell ⟨b, o, none⟩ v) S T st off G lens := by
 obtain ⟨h0, cs, h1, h2⟩ := h
 refine ⟨h0, cs, blk_far h1 (p := ⟨b, o, none⟩) (fun he => hG he.symm) _, fun i n hi => ?_⟩
 obtain ⟨a0, B, c, a1, a2, a3⟩ := h2 i n hi
 refine ⟨a0, B, c, a1, a2, fun hn => ?_⟩
 obtain ⟨g, b1, b2, b3⟩ := a3 hn
 exact ⟨g, b1, b2, b3.off (fun he => hb (by rw [he]; exact b2)) o v⟩
theorem WrG.own {W : World} {S : Nat → Prop} {T st off G : Nat} {lens : List Nat} (h : WrG W S T st off G lens) (hf : 0 < off ∧ off < st) (j : Nat) (v : Value) : WrG (W.setCell ⟨G, j * st, none⟩ v) S T st off G lens := by
 obtain ⟨h0, cs, h1, h2⟩ := h
 refine ⟨h0, _, blk_set h1 (j * st) v, fun i n hi => ?_⟩
 obtain ⟨⟨v0, a0⟩, B, c, a1, a2, a3⟩ := h2 i n hi
 have hne : j * st ≠ i * st + off := fun he => by
  have h1 : (j * st) % st = 0 := Nat.mul_mod_left j st
  have h2 : (i * st + off) % st = off := by rw [Nat.add_comm, Nat.add_mul_mod_self_right, Nat.mod_eq_of_lt hf.2]
  rw [he, h2] at h1
  omega
 refine ⟨?_, B, c, by rw [Array.getElem?_setIfInBounds, if_neg hne]; exact a1, a2, fun hn => ?_⟩
 ·
  rw [Array.getElem?_setIfInBounds]
  by_cases e : j * st = i * st
  ·
   have := (Array.getElem?_eq_some_iff.1 a0).1
   exact ⟨v, by rw [if_pos e, if_pos (by omega)]⟩
  ·
   exact ⟨v0, by rw [if_neg e]; exact a0⟩
 ·
  obtain ⟨g, b1, b2, b3⟩ := a3 hn
  exact ⟨g, b1, b2, b3.off (fun he => h0 (by rw [he]; exact b2)) _ _⟩
theorem WrG.head {W : World} {S : Nat → Prop} {T st off G : Nat} {lens : List Nat} (h : WrG W S T st off G lens) {i : Nat} (hi : i < lens.length) : (∃ v, W.cell? ⟨G, i * st, none⟩ = some v) ∧ W.frozen? ⟨G, i * st, none⟩ = false := by
 obtain ⟨h0, cs, h1, h2⟩ := h
 have he : lens[i]? = some (lens.getD i 0) := by rw [List.getD_eq_getElem?_getD, List.getElem?_eq_getElem hi]; rfl
 obtain ⟨⟨v, a0⟩, _⟩ := h2 i _ he
 exact ⟨⟨v, (blk_cell h1 _).trans a0⟩, blk_frozen h1 _⟩
def OwnG (W : World) (S : Nat → Prop) (base T st off : Nat) (A : Option Addr) (lens : List Nat) : Prop := lens.length = 0 ∨ ∃ G, A = some ⟨G, 0, none⟩ ∧ base ≤ G ∧ WrG W S T st off G lens
theorem OwnG.set {W : World} {S : Nat → Prop} {base T st off : Nat} {A : Option Addr} {lens : List Nat} (h : OwnG W S base T st off A lens) {g' : Nat} (hg : S g') (o : Nat) (x : ByteArray) : OwnG (W.setCell ⟨g', o, none⟩ (.string x)) S base T st off A lens := by
 rcases h with h | ⟨G, h1, h2, h3⟩
 ·
  exact .inl h
 ·
  exact .inr ⟨G, h1, h2, h3.set hg o x⟩
def SCof (w : World) (base : Nat) (k : Nat) : Prop := base ≤ k ∧ ∃ cells, w.heap[k]? = some (.cells cells 33 (0, 0))
theorem sC_not {w : World} {base G T : Nat} {cells : Array Value} (h : w.heap[G]? = some (.cells cells T (0, 0))) (hT : T ≠ 33) : ¬ SCof w base G := fun hs => by
 obtain ⟨_, c2, hc⟩ := hs
 rw [h] at hc
 injection hc with hc
 injection hc with _ hc
 exact hT hc
theorem wr_ofC {W : World} {base n cap : Nat} {A : Option Addr} {xs : List OwC} (h : Kd.R k33 33 W base (fun _ => True) (.slice A n cap) xs) : n = xs.length ∧ n ≤ cap ∧ n ≤ 9223372036854775807 ∧ (0 < n → ∃ g, A = some ⟨g, 0, none⟩ ∧ SCof W base g ∧ WrRow W g n) := by
 obtain ⟨h1, h2, _⟩ := Kd.R_reads' h
 refine ⟨h1, h2, by have := (Kd.R_reads' h).2.2.2.1; omega, fun hp => ?_⟩
 obtain ⟨g, cap', he, hb, _, hcells⟩ := Kd.R_form h (by omega)
 injection he with he _ _
 subst he
 exact ⟨g, rfl, ⟨hb, hcells⟩, wr_row h⟩
end Go.Proofs.YtpnamhplhdaphaaDoor.P

-- ==== PM
/- A map from strings to ints that the call makes, read as a list of its stores, the latest first: what the walk asks of it. -/
namespace Go.Proofs.YtpnamhplhdaphaaDoor.P
open Go.RowKit Go.WideMaps Go.Maps Go.Proofs.YtpnamhplhdaphaaDoorW.PrintWords

def mapHas (m : List S33) (s : ByteArray) : Bool := m.any (fun x => x.f0.data.toList == s.data.toList)
def mapAt (m : List S33) (s : ByteArray) : Int := match m.find? (fun x => x.f0.data.toList == s.data.toList) with
 | some x => x.f1
 | none => 0
def mapPut (m : List S33) (s : ByteArray) (a : Int) : List S33 := ⟨s, a⟩ :: m

def Mapped (base : Nat) (W w1 : World) : Prop := ∃ b es clock, base ≤ b ∧ W.heap[b]? = some (.map es clock) ∧ W.grownBy w1 (some b)

theorem below_mapped {w W w1 : World} {base : Nat} (h : Below base w W) (hm : Mapped base W w1) : Below base w w1 := by
 obtain ⟨b, es, clock, hb, hh, hg⟩ := hm
 refine ⟨hg.os.trans h.os, hg.tape.trans h.tape, hg.output.trans h.output, Nat.le_trans h.size hg.size, fun i hi => ?_⟩
 have := blk_lt hh
 exact (hg.block i (by omega) (by intro e; injection e with e; omega)).trans (h.block i hi)
theorem blk_mapped {W w1 : World} {base g : Nat} {o : Obj} (h : W.heap[g]? = some o) (hm : Mapped base W w1) (hne : ∀ es clock, o ≠ .map es clock := by intro _ _ h_; cases h_) : w1.heap[g]? = some o := by
 obtain ⟨b, es, clock, hb, hh, hg⟩ := hm
 refine (hg.block g (blk_lt h) (fun e => ?_)).trans h
 injection e with e
 subst e
 rw [h] at hh
 injection hh with hh
 exact hne _ _ hh

namespace Kd
section
variable {α : Type} {d : Kd α} {e base base' : Nat} {ok : Nat → Prop} {W w1 : World} {v : Value} {xs : List α}
theorem R_mapped (h : d.R e W base ok v xs) (hm : Mapped base' W w1) : d.R e w1 base ok v xs := by
 obtain ⟨b, es, clock, hb, hh, hg⟩ := hm
 refine Kd.R_mono (Kd.R_move (Kd.R_bound h) (fun k hk => hg.block k hk.2.2.1 (fun he => ?_))) (fun _ hk => hk.1)
 obtain ⟨_, _, _, q, hq, cells, hc⟩ := hk
 injection he with he
 subst he
 rw [hc] at hh
 cases hh
theorem S_mapped (h : Kd.S d e W base ok v xs) (hm : Mapped base' W w1) : Kd.S d e w1 base ok v xs := by
 obtain ⟨f, h⟩ := h
 exact ⟨f, R_mapped h hm⟩
end

def P (d : Kd S33) (e : Nat) (w : World) (base : Nat) (ok : Nat → Prop) (v : Value) (m : List S33) : Prop :=
 ∃ b, ∃ D : DataW Unit, v = .map (some b) ∧ ok b ∧ base ≤ b ∧ w.ownsMap Tryd.prog 9 (plainElem Tryd.prog 3) b m.length D ∧ IsMap D ∧
  ∀ s : ByteArray, Maps.has D (.string s.data.toList) = mapHas m s ∧ D.atKey (.string s.data.toList) (.lit (.int .i64 0)) = .lit (.int .i64 (mapAt m s))
section
variable {d : Kd S33} {e e' base base' : Nat} {ok ok' : Nat → Prop} {w w1 W : World} {v u : Value} {m : List S33}
theorem P_step (h : Kd.P d e w base ok v m) (hm : ∀ b es clock, ok b → w.heap[b]? = some (.map es clock) → w1.heap[b]? = w.heap[b]?) : Kd.P d e w1 base ok v m := by
 obtain ⟨b, D, rfl, ho, hb, ⟨es, clock, hh, hf⟩, hD, hs⟩ := h
 exact ⟨b, D, rfl, ho, hb, ⟨es, clock, (hm b es clock ho hh).trans hh, hf⟩, hD, hs⟩
theorem P_mono (h : Kd.P d e w base ok v m) (hk : ∀ k, ok k → ok' k) : Kd.P d e w base ok' v m := by
 obtain ⟨b, D, rfl, ho, r⟩ := h
 exact ⟨b, D, rfl, hk _ ho, r⟩
theorem P_lower (h : Kd.P d e w base ok v m) (hb : base' ≤ base) : Kd.P d e w base' ok v m := by
 obtain ⟨b, D, rfl, ho, h1, r⟩ := h
 exact ⟨b, D, rfl, ho, Nat.le_trans hb h1, r⟩
theorem P_below (h : Kd.P d e w base ok v m) (hb : Below w.heap.size w w1) : Kd.P d e w1 base ok v m := P_step h (fun b es clock _ hh => hb.block b (blk_lt hh))
theorem P_drew (h : Kd.P d e w base ok v m) : Kd.P d e w.drew base ok v m := P_below h (below_drew (Below.refl _ _))
theorem P_drewN (h : Kd.P d e w base ok v m) (n : Nat) : Kd.P d e (w.drewN n) base ok v m := P_below h (pw_below_drewN (Below.refl _ _) n)
theorem P_far (h : Kd.P d e w base ok v m) {p : Addr} (hok : ∀ k, ok k → k ≠ p.block) (x : Value) : Kd.P d e (w.setCell p x) base ok v m := P_step h (fun b _ _ ho _ => Below.heap_setCell w p x b (hok b ho))
theorem P_types (h : Kd.P d e w base ok v m) {g t : Nat} {cells : Array Value} (hb : w.heap[g]? = some (.cells cells t (0, 0))) (_ht : ∀ q, q ∈ e :: d.E → q ≠ t) : Kd.P d e w base (fun k => ok k ∧ k ≠ g) v m := by
 obtain ⟨b, D, rfl, ho, h1, ⟨es, clock, hh, hf⟩, r⟩ := h
 refine ⟨b, D, rfl, ⟨ho, fun he => ?_⟩, h1, ⟨es, clock, hh, hf⟩, r⟩
 subst he
 rw [hb] at hh
 cases hh
theorem P_over' (h : Kd.P d e W base ok u m) (hty : ∀ k, v.ownBlock = some k → ∃ cells, W.heap[k]? = some (.cells cells e' (0, 0))) (_ht : ∀ q, q ∈ e :: d.E → q ≠ e') (hg : W.grownBy w1 v.ownBlock) : Kd.P d e w1 base ok u m :=
 P_step h (fun b es clock _ hh => hg.block b (blk_lt hh) (fun he => by
  obtain ⟨cells, hc⟩ := hty b he.symm
  rw [hc] at hh
  cases hh))
end

section
variable {ops : Array Oper} {rest : List Oper} {o : Oper} {a : Act} {Q : Exit → Act → World → Prop} {W : World}
theorem P_make (d : Kd S33) {N : Tmp} (hg : o.guard = none) (hop : o.op = Op.makeMap 105 none) (_hN : o.dst = some N)
 (h : ∀ v w1, Kd.P d 105 w1 W.heap.size (fun _ => True) v [] → Below W.heap.size W w1 → wpList Tryd.prog ops Q rest (a.put o.dst v) w1) : wpList Tryd.prog ops Q (o :: rest) a W := by
 refine wpList_plain hg fun K hK => ?_
 unfold Oper.wp
 simp only [execOp, hop, Sem.run_bind, Sem.run_pure, Result.andThen]
 refine hK _ _ (h _ _ ⟨W.heap.size, .map [], rfl, trivial, Nat.le_refl _, World.ownsMap_made _ _ _ _, isMap_empty, fun s => ⟨rfl, rfl⟩⟩ (below_alloc (Below.refl _ _) _))
theorem P_look {d : Kd S33} {e base : Nat} {ok : Nat → Prop} {v : Value} {m : List S33} {s : ByteArray} {x y : Operand} (hg : o.guard = none) (hop : o.op = Op.lookup 105 x y true) (hm : a.eval x = v) (hx : a.eval y = .string s)
 (hs : s.size ≤ 9223372036854775807) (h : Kd.P d e W base ok v m) (hK : wpList Tryd.prog ops Q rest (a.put o.dst (.tuple #[.int .i64 (mapAt m s), .bool (mapHas m s)])) W) : wpList Tryd.prog ops Q (o :: rest) a W := by
 obtain ⟨b, D, rfl, _, _, hown, hD, hsp⟩ := h
 have hml : maxLen = 9223372036854775807 := by decide
 have zr : (zeroValue 3).run Tryd.prog W = .ok (.int .i64 0) W := by kernel_rfl
 refine wpList_lookup_own_ok_int (H := Unit) W hg x y 105 hop 9 3 .i64 (string_keyed Tryd.underlying9) Tryd.underlying105 Tryd.underlying3 zr b _ D hm hown (.string s) _ hx (keyOf_string_mk Tryd.underlying9 (by rw [hml]; exact hs)) ?_
 intro c hc _
 rw [(hsp s).2] at hc
 rw [(hsp s).1]
 have hc' : mapAt m s = c := (Lit.int.inj (DataW.lit.inj hc)).2
 rw [← hc']
 exact hK
theorem P_put {d : Kd S33} {e base : Nat} {ok : Nat → Prop} {v : Value} {m : List S33} {s : ByteArray} {n : Int} {x y z : Operand} (hg : o.guard = none) (hop : o.op = Op.mapUpdate 105 x y z) (hm : a.eval x = v) (hx : a.eval y = .string s) (hz : a.eval z = .int .i64 n)
 (hl : m.length < 9223372036854775807 ∧ s.size ≤ 9223372036854775807 ∧ 0 ≤ n ∧ n ≤ 9223372036854775807) (h : Kd.P d e W base ok v m)
 (hK : ∀ w1, Kd.P d e w1 base ok v (mapPut m s n) → Mapped base W w1 → wpList Tryd.prog ops Q rest (a.put o.dst undef) w1) : wpList Tryd.prog ops Q (o :: rest) a W := by
 obtain ⟨b, D, rfl, ho, hb, hown, hD, hsp⟩ := h
 have hml : maxLen = 9223372036854775807 := by decide
 refine wpList_mapUpdate_own (H := Unit) W hg x y z 105 hop 9 3 (string_keyed Tryd.underlying9) Tryd.underlying105 _ b _ D hm hown (by rw [hml]; exact hl.1) (.string s) (.int .i64 n) (.string s.data.toList) hx hz (keyOf_string_mk Tryd.underlying9 (by rw [hml]; exact hl.2.1)) _ [] (plainElem_int Tryd.underlying3 (WalkArith.wf_i64 (by omega))) ?_
 intro w1 h1 hgw
 obtain ⟨es, clock, hh, _⟩ := hown
 refine hK w1 ⟨b, _, rfl, ho, hb, h1, hD.put _ _, fun t => ?_⟩ ⟨b, es, clock, hb, hh, hgw⟩
 by_cases ht : s.data.toList = t.data.toList
 ·
  rw [← ht]
  refine ⟨?_, ?_⟩
  ·
   rw [has_put_same (k := .string s.data.toList) hD trivial]
   simp only [mapHas, mapPut, List.any_cons, ht, beq_self_eq_true, Bool.true_or]
  ·
   rw [atKey_put_same (k := .string s.data.toList) hD trivial]
   simp only [mapAt, mapPut, List.find?_cons, ht, beq_self_eq_true]
 ·
  have hne : (Lit.string t.data.toList) ≠ .string s.data.toList := fun he => ht (by injection he with he; exact he.symm)
  have hb' : (s.data.toList == t.data.toList) = false := by simpa using ht
  refine ⟨?_, ?_⟩
  ·
   rw [has_put_other hne, (hsp t).1]
   simp only [mapHas, mapPut, List.any_cons, hb', Bool.false_or]
  ·
   rw [atKey_put_other hne, (hsp t).2]
   simp only [mapAt, mapPut, List.find?_cons, hb']
end
end Kd
end Go.Proofs.YtpnamhplhdaphaaDoor.P

-- ==== Open
/- What came in and can be read as data, read as the print's kinds: for each kind one fact, put together by the types' shapes. -/
namespace Go.Proofs.YtpnamhplhdaphaaDoor.Open
open Go.RowKit Go.Proofs.YtpnamhplhdaphaaDoorW.PrintWords Go.Proofs.YtpnamhplhdaphaaDoor.Rows

structure Opens {α : Type} (P : Program) (t : TypeId) (d : Kd α) (Sz : α → Prop) (Bk : α → Nat) : Prop where
 cells : P.cellsOf t = d.sz
 go : ∀ {H : Type} {enc : TypeId × Value → H} {w : World} {base : Nat} {spare : Nat → Bool} {held : Bool} {n : Nat} {cs : List Value} {x : DataW H × List MemPlace},
  DataW.trod enc P w base spare held n t cs = some x → (∀ m ∈ x.1.weights P t, m ≤ reachBytes) → ∃ v : α, d.K w v cs ∧ Sz v ∧ Bk v ≤ uptoBulk x.1

theorem opens_int {P : Program} {t : TypeId} {k : IntKind} (ht : P.underlying t = some (.int k)) (hc : P.cellsOf t = 1) : Opens P t (Kd.int k) (fun a => (Lit.int k a).wf = true) (fun _ => 1) := by
 refine ⟨hc, fun h _ => ?_⟩
 obtain ⟨a, rfl, rfl, hw⟩ := DataW.trod_int ht h
 exact ⟨a, rfl, hw, by simp [uptoBulk]⟩

theorem opens_string {P : Program} {t : TypeId} (ht : P.underlying t = some .string) (hc : P.cellsOf t = 1) : Opens P t Kd.string (fun s => s.size ≤ 140737488351232) (fun s => s.size + 1) := by
 refine ⟨hc, fun h hw => ?_⟩
 obtain ⟨a, rfl, rfl, hs⟩ := DataW.trod_string ht h
 have hl : a.data.toList.length = a.size := data_length a
 refine ⟨a, rfl, ?_, ?_⟩
 ·
  have := hw a.data.toList.length (by simp [DataW.weights])
  rw [hl] at this
  exact this
 ·
  simp only [uptoBulk]
  omega

theorem mem_weightsAll {H : Type} {P : Program} {e : TypeId} {d : DataW H} : ∀ {l : List (DataW H)}, d ∈ l → ∀ {m : Nat}, m ∈ d.weights P e → m ∈ DataW.weightsAll P e l
 | a :: l, h, m, hm => by
  simp only [DataW.weightsAll, List.mem_append]
  rcases List.mem_cons.1 h with rfl | h
  ·
   exact .inl hm
  ·
   exact .inr (mem_weightsAll h hm)
 | [], h, _, _ => by cases h

def bulkAll {α : Type} (Bk : α → Nat) (l : List α) : Nat := (l.map Bk).sum

theorem bulk_all_le {H α : Type} (Bk : α → Nat) : ∀ (xs : List α) (ds : List (DataW H)), xs.length = ds.length → (∀ (i : Nat) x d, xs[i]? = some x → ds[i]? = some d → Bk x ≤ uptoBulk d) → bulkAll Bk xs ≤ uptoBulkAll ds
 | [], [], _, _ => by simp [bulkAll, uptoBulkAll]
 | x :: xs, d :: ds, hl, h => by
  have h0 := h 0 x d rfl rfl
  have h1 := bulk_all_le Bk xs ds (by simpa using hl) (fun i x' d' hx hd => h (i + 1) x' d' (by simpa using hx) (by simpa using hd))
  simp only [bulkAll, uptoBulkAll, List.map_cons, List.sum_cons] at h1 ⊢
  omega
 | [], _ :: _, hl, _ => by simp at hl
 | _ :: _, [], hl, _ => by simp at hl

theorem opens_slice {α : Type} {P : Program} {t e : TypeId} {d : Kd α} {Sz : α → Prop} {Bk : α → Nat} {b : Nat} (ht : P.underlying t = some (.slice e)) (hc : P.cellsOf t = 1) (hb : P.bytesOf e = b) (ho : Opens P e d Sz Bk) :
 Opens P t (Kd.slice e d) (fun l => l.length * b ≤ 140737488351232 ∧ ∀ x ∈ l, Sz x) (fun l => bulkAll Bk l + 1) := by
 refine ⟨hc, ?_⟩
 intro H enc w base spare held n cs x h hw
 rcases Go.Deep.open_slice ht h with ⟨rfl, rfl⟩ | ⟨a, len, cap, m, n', D, Pl, rfl, _, hl, hm, hmm, rfl, hx⟩
 ·
  exact ⟨[], ⟨none, 0, rfl, Nat.le_refl _, Kd.C_nil d w⟩, ⟨by simp, by simp⟩, by simp [bulkAll, uptoBulk]⟩
 ·
  have hlm : len ≤ m := by rw [hmm]; split <;> omega
  have hel : ∀ i, i < len → ∃ v : α, (∃ cs', w.cells? base (a.add (i * P.cellsOf e)) (P.cellsOf e) = some cs' ∧ d.K w v cs') ∧ Sz v ∧ Bk v ≤ uptoBulk (D i) := by
   intro i hi
   obtain ⟨cs', h1, h2⟩ := hx i (by omega)
   obtain ⟨v, hv, hs, hbk⟩ := ho.go h2 (fun m' hm' => hw m' (by
    simp only [DataW.weights, ht, List.mem_cons, List.mem_append]
    exact .inr (.inl (mem_weightsAll (List.mem_map.2 ⟨i, List.mem_range.2 hi, rfl⟩) hm'))))
   exact ⟨v, ⟨cs', h1, hv⟩, hs, hbk⟩
  have hex : ∃ l : List α, l.length = len ∧ ∀ (i : Nat) v, l[i]? = some v → (∃ cs', w.cells? base (a.add (i * P.cellsOf e)) (P.cellsOf e) = some cs' ∧ d.K w v cs') ∧ Sz v ∧ Bk v ≤ uptoBulk (D i) := by
   clear hx hw h hmm hlm hl hm
   induction len with
   | zero => exact ⟨[], rfl, fun i v hv => by simp at hv⟩
   | succ k ih =>
    obtain ⟨l, h1, h2⟩ := ih (fun i hi => hel i (by omega))
    obtain ⟨v, hv⟩ := hel k (by omega)
    refine ⟨l ++ [v], by simp [h1], fun i u hu => ?_⟩
    by_cases hi : i < l.length
    ·
     rw [List.getElem?_append_left hi] at hu
     exact h2 i u hu
    ·
     have hik : i = l.length := by
      have := (List.getElem?_eq_some_iff.1 hu).1
      simp at this
      omega
     subst hik
     simp at hu
     subst hu
     rw [h1]
     exact hv
  obtain ⟨l, hll, hlv⟩ := hex
  subst hll
  refine ⟨l, ⟨some a, cap, rfl, hl, rfl, ?_, fun hp => ⟨a, rfl, fun j v hj => ?_⟩⟩, ⟨?_, ?_⟩, ?_⟩
  ·
   have : maxLen ≤ 9223372036854775807 := by decide
   omega
  ·
   obtain ⟨⟨cs', h1, h2⟩, _, _⟩ := hlv j v hj
   refine ⟨cs', d.K_len h2, h2, fun i u hu => ?_⟩
   obtain ⟨_, hlen, hcell⟩ := World.cells?_some h1
   have hi : i < cs'.length := (List.getElem?_eq_some_iff.1 hu).1
   have hsz := d.K_len h2
   rw [ho.cells] at hcell hlen
   have := hcell i (by omega)
   rw [hu] at this
   rw [← this, add_add]
  ·
   have := hw ((((List.range l.length).map D).length + ((List.range (m - l.length)).map fun j => D (l.length + j)).length) * P.bytesOf e) (by simp [DataW.weights, ht])
   simp only [List.length_map, List.length_range] at this
   rw [hb] at this
   have h3 : reachBytes = 140737488351232 := by decide
   rw [h3] at this
   have h4 : l.length * b ≤ (l.length + (m - l.length)) * b := Nat.mul_le_mul_right _ (by omega)
   omega
  ·
   intro v hv
   obtain ⟨i, hi, rfl⟩ := List.mem_iff_getElem.1 hv
   exact (hlv i _ (List.getElem?_eq_getElem hi)).2.1
  ·
   have := bulk_all_le Bk l ((List.range l.length).map D) (by simp) (fun i v dd hv hd => by
    have hi : i < l.length := (List.getElem?_eq_some_iff.1 hv).1
    simp [hi] at hd
    rw [← hd]
    exact (hlv i v hv).2.2)
   simp only [uptoBulk]
   omega

def offs (P : Program) : List TypeId → Nat → Nat
 | [], _ => 0
 | _, 0 => 0
 | t :: ts, i + 1 => P.cellsOf t + offs P ts i

structure OpensF {α : Type} (P : Program) (ts : List TypeId) (d : Kd α) (Sz : α → Prop) (Bk : α → Nat) : Prop where
 cells : (ts.map P.cellsOf).sum = d.sz
 go : ∀ {H : Type} {enc : TypeId × Value → H} {w : World} {base : Nat} {spare : Nat → Bool} {held : Bool} {n : Nat} {cs : List Value} {xs : List (DataW H × List MemPlace)},
  cs.length = d.sz → xs.length = ts.length → (∀ (i : Nat) t, ts[i]? = some t → DataW.trod enc P w base spare held n t ((cs.drop (offs P ts i)).take (P.cellsOf t)) = xs[i]?) →
  (∀ m ∈ DataW.weightsEach P ts (xs.map (·.1)), m ≤ reachBytes) → ∃ v : α, d.K w v cs ∧ Sz v ∧ Bk v ≤ uptoBulkAll (xs.map (·.1))

theorem opensF_one {α : Type} {P : Program} {t : TypeId} {d : Kd α} {Sz : α → Prop} {Bk : α → Nat} (ho : Opens P t d Sz Bk) : OpensF P [t] d Sz Bk := by
 refine ⟨by simp [ho.cells], fun {H enc w base spare held n cs xs} hl hx h hw => ?_⟩
 match xs, hx with
 | [y], _ =>
  have h0 := h 0 t rfl
  rw [show offs P [t] 0 = 0 from rfl, List.drop_zero, List.take_of_length_le (by rw [ho.cells]; omega)] at h0
  obtain ⟨v, h1, h2, h3⟩ := ho.go h0 (fun m hm => hw m (by simp [DataW.weightsEach, hm]))
  exact ⟨v, h1, h2, by simpa [uptoBulkAll] using h3⟩

theorem opensF_cons {α β : Type} {P : Program} {t : TypeId} {ts : List TypeId} {d : Kd α} {ds : Kd β} {Sz : α → Prop} {Bk : α → Nat} {Szs : β → Prop} {Bks : β → Nat} (ho : Opens P t d Sz Bk) (hs : OpensF P ts ds Szs Bks) :
 OpensF P (t :: ts) (Kd.pair d ds) (fun x => Sz x.1 ∧ Szs x.2) (fun x => Bk x.1 + Bks x.2) := by
 refine ⟨by simp [ho.cells, hs.cells, Kd.pair], fun {H enc w base spare held n cs xs} hl hx h hw => ?_⟩
 match xs, hx with
 | y :: ys, hx =>
  have hl' : cs.length = d.sz + ds.sz := hl
  have h0 := h 0 t rfl
  rw [show offs P (t :: ts) 0 = 0 from rfl, List.drop_zero, ho.cells] at h0
  obtain ⟨v, h1, h2, h3⟩ := ho.go h0 (fun m hm => hw m (by simp [DataW.weightsEach, hm]))
  obtain ⟨u, g1, g2, g3⟩ := hs.go (cs := cs.drop d.sz) (xs := ys) (enc := enc) (w := w) (base := base) (spare := spare) (held := held) (n := n) (by rw [List.length_drop]; omega) (by simpa using hx) (fun i t' ht' => by
   have := h (i + 1) t' (by simpa using ht')
   rw [show offs P (t :: ts) (i + 1) = P.cellsOf t + offs P ts i from rfl, ho.cells] at this
   rw [List.drop_drop]
   simpa using this) (fun m hm => hw m (by simp only [List.map_cons, DataW.weightsEach, List.mem_append]; exact .inr hm))
  refine ⟨(v, u), ⟨cs.take d.sz, cs.drop d.sz, (List.take_append_drop _ _).symm, h1, g1⟩, ⟨h2, g2⟩, ?_⟩
  simp only [List.map_cons, uptoBulkAll]
  omega

theorem opens_struct {α β : Type} {P : Program} {t : TypeId} {fs : Array Field} {ts : List TypeId} {d : Kd α} {f : β → α} {Sz : α → Prop} {Bk : α → Nat} (ht : P.underlying t = some (.struct fs)) (hts : fs.toList.map (·.type) = ts)
 (hoff : ∀ (i : Nat) fl, fs[i]? = some fl → fl.offset = offs P ts i) (hc : P.cellsOf t = d.sz) (ho : OpensF P ts d Sz Bk) (g : α → β) (hg : ∀ v, f (g v) = v) :
 Opens P t (Kd.iso d f) (fun x => Sz (f x)) (fun x => Bk (f x) + 1) := by
 refine ⟨hc, fun {H enc w base spare held n cs x} h hw => ?_⟩
 obtain ⟨xs, n', _, rfl, hl, hlen, hf⟩ := DataW.trod_struct ht h
 have hlt : ts.length = fs.size := by rw [← hts]; simp
 obtain ⟨v, h1, h2, h3⟩ := ho.go (cs := cs) (xs := xs) (enc := enc) (w := w) (base := base) (spare := spare) (held := held) (n := n') (by rw [hl, hc]) (by omega) (fun i t' ht' => by
  have hi : i < fs.size := by rw [← hlt]; exact (List.getElem?_eq_some_iff.1 ht').1
  have hfi : fs[i]? = some fs[i] := Array.getElem?_eq_getElem hi
  have := hf i fs[i] hfi
  rw [hoff i _ hfi] at this
  have he : fs[i].type = t' := by
   rw [← hts, List.getElem?_map, Array.getElem?_toList, hfi] at ht'
   simpa using ht'
  rw [he] at this
  exact this) (fun m hm => hw m (by simp only [DataW.weights, ht, hts]; exact hm))
 exact ⟨g v, by show d.K w (f (g v)) cs; rw [hg]; exact h1, by rw [hg]; exact h2, by rw [hg]; simp only [uptoBulk]; omega⟩

end Go.Proofs.YtpnamhplhdaphaaDoor.Open

-- ==== PLa
/- Plain laws, part a: what kind a text is: the program's way and the document's way come to one function. -/
namespace Go.Proofs.YtpnamhplhdaphaaDoor.P
open Go.RowKit Go.Proofs.YtpnamhplhdaphaaDoorW.PrintWords

theorem wrap_up {i : Int} (h0 : 0 ≤ i) (h : i < 9223372036854775807) : wrap64 (i + 1) = i + 1 := by
 unfold wrap64
 omega
theorem wrap_id {i : Int} (h0 : -9223372036854775808 ≤ i) (h : i ≤ 9223372036854775807) : wrap64 i = i := by
 unfold wrap64
 omega

theorem evIfp {α : Type} {c : Prop} [Decidable c] {f g : Nat → Option α} {r : α} (h : c) (hf : Ev f r) : Ev (fun k => if c then f k else g k) r :=
 Ev.congr (fun _ => if_pos h) hf
theorem evIfn {α : Type} {c : Prop} [Decidable c] {f g : Nat → Option α} {r : α} (h : ¬ c) (hf : Ev g r) : Ev (fun k => if c then f k else g k) r :=
 Ev.congr (fun _ => if_neg h) hf
theorem evIs {α : Type} {x : Option α} {a : α} (h : x = some a) : Ev (fun _ => x) a := ⟨0, fun _ _ => h⟩

def lowB (s : ByteArray) (i : Int) : Bool := (decide (97 ≤ bt s i) && decide (bt s i ≤ 122)) || (decide (48 ≤ bt s i) && decide (bt s i ≤ 57) && decide (0 < i))
def upB (s : ByteArray) (i : Int) : Bool := (decide (65 ≤ bt s i) && decide (bt s i ≤ 90)) || (decide (48 ≤ bt s i) && decide (bt s i ≤ 57) && decide (0 < i))
def allN (p : Int → Bool) : Nat → Int → Bool
 | 0, _ => true
 | d + 1, i => p i && allN p d (i + 1)
theorem allN_congr {p q : Int → Bool} : ∀ (d : Nat) (i : Int), (∀ j, i ≤ j → j < i + d → p j = q j) → allN p d i = allN q d i
 | 0, _, _ => rfl
 | d + 1, i, h => by
  simp only [allN]
  rw [h i (Int.le_refl _) (by omega), allN_congr d (i + 1) (fun j h1 h2 => h j (by omega) (by omega))]
def kindS (s : ByteArray) : Int :=
 if s.size < 1 ∨ 8 < s.size then 0 else if allN (lowB s) s.size 0 = true then 1 else if allN (upB s) s.size 0 = true then 2 else 0

theorem kindS_bad {s : ByteArray} (h : s.size < 1 ∨ 8 < s.size) : kindS s = 0 := by
 unfold kindS
 exact if_pos h
theorem kindS_good {s : ByteArray} (h1 : 1 ≤ s.size) (h8 : s.size ≤ 8) : kindS s = (if allN (lowB s) s.size 0 = true then 1 else if allN (upB s) s.size 0 = true then 2 else 0) := by
 unfold kindS
 exact if_neg (by omega)
theorem kindS_size {s : ByteArray} (h : kindS s ≠ 0) : 1 ≤ s.size ∧ s.size ≤ 8 := by
 unfold kindS at h
 split at h
 ·
  exact absurd rfl h
 ·
  omega

def signS (c : Int) : Int × Int := if 97 ≤ c ∧ c ≤ 122 then (1, 1) else if 65 ≤ c ∧ c ≤ 90 then (2, 2) else if 48 ≤ c ∧ c ≤ 57 then (0, 3) else (0, 0)
theorem sign_at (c : Int) (k : Nat) (hk : 2 ≤ k) : name_sign.f k c = some (signS c) := by
 obtain ⟨k, rfl⟩ : ∃ m, k = m + 2 := ⟨k - 2, by omega⟩
 unfold name_sign.f signS
 by_cases c1 : c ≥ 48 <;> by_cases c2 : c ≤ 57 <;> by_cases c3 : c ≥ 97 <;> by_cases c4 : c ≤ 122 <;> by_cases c5 : c ≥ 65 <;> by_cases c6 : c ≤ 90 <;> first | (exfalso; omega) | (simp [name_sign.j0, name_sign.j1, c1, c2, c3, c4, c5, c6])
theorem bits_and_ (a b : Int) (ha : a = 0 ∨ a = 1 ∨ a = 2 ∨ a = 3) (hb : b = 0 ∨ b = 1 ∨ b = 2) : (Go.bits .and .i64 a b = 0) ↔ (b = 0 ∨ (b = 1 ∧ (a = 0 ∨ a = 2)) ∨ (b = 2 ∧ (a = 0 ∨ a = 1))) := by
 rcases ha with rfl | rfl | rfl | rfl <;> rcases hb with rfl | rfl | rfl <;> decide
def goesB (s : ByteArray) (b : Int) (i : Int) : Bool := decide (¬ (Go.bits .and .i64 (signS (bt s i)).2 b = 0))
theorem kind_loop (s : ByteArray) (b : Int) (hs : s.size ≤ 8) : ∀ (d : Nat) (k : Nat) (i : Int), 0 ≤ i → (s.size : Int) - i = d → d + 2 < k →
 name_Kind.l0 k s b (s.size : Int) i = some (if allN (goesB s b) d i = true then b else 0)
 | 0, k, i, h0, hd, hk => by
  obtain ⟨k, rfl⟩ : ∃ m, k = m + 1 := ⟨k - 1, by omega⟩
  simp only [name_Kind.l0]
  rw [if_neg (by omega)]
  simp [allN]
 | d + 1, k, i, h0, hd, hk => by
  obtain ⟨k, rfl⟩ : ∃ m, k = m + 1 := ⟨k - 1, by omega⟩
  simp only [name_Kind.l0]
  rw [if_pos (by omega), if_pos h0, if_pos (by omega), sign_at _ _ (by omega)]
  simp only [Option.bind_some]
  by_cases hg : Go.bits .and .i64 (signS (bt s i)).2 b = 0
  ·
   rw [if_pos hg]
   simp [allN, goesB, hg]
  ·
   rw [if_neg hg, wrap_up h0 (by omega), kind_loop s b hs d k (i + 1) (by omega) (by omega) (by omega)]
   simp [allN, goesB, hg]
theorem signS_two (c : Int) : (signS c).2 = 0 ∨ (signS c).2 = 1 ∨ (signS c).2 = 2 ∨ (signS c).2 = 3 := by
 unfold signS
 repeat' split
 all_goals simp
theorem goes_one (s : ByteArray) (i : Int) (hi : 0 < i) : goesB s 1 i = lowB s i := by
 have h := bits_and_ (signS (bt s i)).2 1 (signS_two _) (by simp)
 unfold goesB lowB
 rw [Bool.eq_iff_iff]
 simp only [decide_eq_true_eq, h, Bool.or_eq_true, Bool.and_eq_true]
 unfold signS
 repeat' split
 all_goals simp
 all_goals omega
theorem goes_two (s : ByteArray) (i : Int) (hi : 0 < i) : goesB s 2 i = upB s i := by
 have h := bits_and_ (signS (bt s i)).2 2 (signS_two _) (by simp)
 unfold goesB upB
 rw [Bool.eq_iff_iff]
 simp only [decide_eq_true_eq, h, Bool.or_eq_true, Bool.and_eq_true]
 unfold signS
 repeat' split
 all_goals simp
 all_goals omega
theorem kind_eq (s : ByteArray) (h1 : 1 ≤ s.size) (h8 : s.size ≤ 8) : (if allN (goesB s (signS (bt s 0)).1) s.size 0 = true then (signS (bt s 0)).1 else 0) = kindS s := by
 rw [kindS_good h1 h8]
 obtain ⟨n, hn⟩ : ∃ n, s.size = n + 1 := ⟨s.size - 1, by omega⟩
 have e1 : allN (goesB s 1) n (0 + 1) = allN (lowB s) n (0 + 1) := allN_congr _ _ (fun j h1 _ => goes_one s j (by omega))
 have e2 : allN (goesB s 2) n (0 + 1) = allN (upB s) n (0 + 1) := allN_congr _ _ (fun j h1 _ => goes_two s j (by omega))
 by_cases hl : 97 ≤ bt s 0 ∧ bt s 0 ≤ 122
 ·
  have hs : signS (bt s 0) = (1, 1) := by unfold signS; rw [if_pos hl]
  have g0 : goesB s 1 0 = true := by unfold goesB; rw [hs]; decide
  have l0 : lowB s 0 = true := by unfold lowB; simp [hl]
  have u0 : upB s 0 = false := by unfold upB; simp; omega
  simp only [hn, hs, allN, e1, g0, l0, u0, Bool.true_and, Bool.false_and]
  split <;> simp
 ·
  by_cases hu : 65 ≤ bt s 0 ∧ bt s 0 ≤ 90
  ·
   have hs : signS (bt s 0) = (2, 2) := by unfold signS; rw [if_neg hl, if_pos hu]
   have g0 : goesB s 2 0 = true := by unfold goesB; rw [hs]; decide
   have l0 : lowB s 0 = false := by unfold lowB; simp; omega
   have u0 : upB s 0 = true := by unfold upB; simp [hu]
   simp only [hn, hs, allN, e2, g0, l0, u0, Bool.true_and, Bool.false_and]
   simp
  ·
   have hs : (signS (bt s 0)).1 = 0 := by unfold signS; rw [if_neg hl, if_neg hu]; split <;> rfl
   have l0 : lowB s 0 = false := by unfold lowB; simp; omega
   have u0 : upB s 0 = false := by unfold upB; simp; omega
   simp only [hn, hs, allN, l0, u0, Bool.true_and, Bool.false_and]
   simp
theorem toList_nil (s : ByteArray) : s.toList = ([] : List UInt8) ↔ s.size = 0 := by
 rw [ByteArray.toList_eq]
 constructor
 ·
  intro h
  have := congrArg List.length h
  simpa [data_length] using this
 ·
  intro h
  apply List.eq_nil_of_length_eq_zero
  rw [data_length]
  exact h
theorem ev_kind (s : ByteArray) : Ev (fun k => name_Kind.f k s) (kindS s) := by
 refine ⟨16, fun k hk => ?_⟩
 show name_Kind.f k s = _
 unfold name_Kind.f
 obtain ⟨k, rfl⟩ : ∃ m, k = m + 1 := ⟨k - 1, by omega⟩
 by_cases h1 : s.toList = ([] : List UInt8)
 ·
  rw [if_pos h1]
  have := (toList_nil s).1 h1
  simp [name_Kind.j0, kindS_bad (s := s) (.inl (by omega))]
 ·
  have h1' : s.size ≠ 0 := fun h => h1 ((toList_nil s).2 h)
  rw [if_neg h1]
  simp only [name_Kind.j0]
  by_cases h2 : (s.size : Int) > 8
  ·
   rw [if_pos (by simpa using h2), kindS_bad (s := s) (.inr (by omega))]
  ·
   rw [if_neg (by simpa using h2), if_pos (by omega), sign_at _ _ (by omega)]
   simp only [Option.bind_some]
   rw [kind_loop s _ (by omega) s.size k 0 (by omega) (by omega) (by omega), kind_eq s (by omega) (by omega)]
end Go.Proofs.YtpnamhplhdaphaaDoor.P

-- ==== PLb
/- Plain laws, part b: a list of cells as terms one behind the other; whether it is a term (both ways come to one function). -/
namespace Go.Proofs.YtpnamhplhdaphaaDoor.P
open Go.RowKit Go.Proofs.YtpnamhplhdaphaaDoorW.PrintWords

abbrev Cel := S33
instance celEq : DecidableEq Cel := fun a b =>
 if h : a.f0 = b.f0 ∧ a.f1 = b.f1 then isTrue (by cases a; cases b; simp only at h; rw [h.1, h.2]) else isFalse (fun e => h (by rw [e]; exact ⟨rfl, rfl⟩))
theorem drop_cons {α : Type} {t : List α} {n : Nat} {c : α} {s : List α} (h : t.drop n = c :: s) : n < t.length ∧ (∀ d, t.getD n d = c) ∧ t.drop (n + 1) = s := by
 have h1 : n < t.length := by
  rcases Nat.lt_or_ge n t.length with h1 | h1
  ·
   exact h1
  ·
   rw [List.drop_eq_nil_of_le h1] at h
   cases h
 rw [List.drop_eq_getElem_cons h1] at h
 injection h with h2 h3
 exact ⟨h1, fun d => by rw [List.getD_eq_getElem?_getD, List.getElem?_eq_getElem h1]; exact h2, h3⟩
theorem drop_nil_len {α : Type} {t : List α} {n : Nat} (hn : n ≤ t.length) (h : t.drop n = []) : n = t.length := by
 have := congrArg List.length h
 simp at this
 omega
theorem rd_cel {t : List Cel} {n : Nat} {c : Cel} {s : List Cel} (h : t.drop n = c :: s) : rd_T33 t (n : Int) = c := by
 unfold rd_T33
 exact (drop_cons h).2.1 _

def ar (c : Cel) : Nat := c.f1.toNat
def cellErr (c : Cel) : Int := if kindS c.f0 = 0 then 4 else if c.f1 < 0 then 5 else if c.f1 > 4 then 5 else if kindS c.f0 = 2 then (if c.f1 > 0 then 5 else 0) else 0
def errs : List Cel → Int
 | [] => 0
 | c :: l => if cellErr c = 0 then errs l else cellErr c
def segN : List Cel → Nat → Option (List Cel)
 | l, 0 => some l
 | [], _ + 1 => none
 | c :: l, n + 1 => segN l (n + ar c)
def checkS (t : List Cel) : Int := if t.length > 64 then 6 else if errs t = 0 then (if segN t 1 = some [] then 0 else 3) else errs t

theorem segN_zero (l : List Cel) : segN l 0 = some l := by cases l <;> rfl
theorem segN_add : ∀ (l : List Cel) (a b : Nat), segN l (a + b) = (segN l a).bind fun r => segN r b
 | l, 0, b => by rw [segN_zero]; simp
 | [], a + 1, b => by rw [show a + 1 + b = (a + b) + 1 by omega]; rfl
 | c :: l, a + 1, b => by
  rw [show a + 1 + b = (a + b) + 1 by omega]
  show segN l (a + b + ar c) = (segN l (a + ar c)).bind _
  rw [show a + b + ar c = (a + ar c) + b by omega]
  exact segN_add l (a + ar c) b
theorem segN_len : ∀ {l r : List Cel} {n : Nat}, segN l n = some r → r.length ≤ l.length ∧ (0 < n → r.length < l.length)
 | l, r, 0, h => by
  rw [segN_zero] at h
  injection h with h
  subst h
  exact ⟨Nat.le_refl _, fun h => absurd h (by omega)⟩
 | [], r, n + 1, h => by cases h
 | c :: l, r, n + 1, h => by
  have := (segN_len (l := l) (r := r) (n := n + ar c) h).1
  simp only [List.length_cons]
  exact ⟨by omega, fun _ => by omega⟩
theorem segN_suffix : ∀ {l r : List Cel} {n : Nat}, segN l n = some r → ∃ m, m ≤ l.length ∧ l.drop m = r
 | l, r, 0, h => by
  rw [segN_zero] at h
  injection h with h
  exact ⟨0, by omega, h⟩
 | [], r, n + 1, h => by cases h
 | c :: l, r, n + 1, h => by
  obtain ⟨m, h1, h2⟩ := segN_suffix (l := l) (r := r) (n := n + ar c) h
  exact ⟨m + 1, by simp; omega, h2⟩

structure Okc (c : Cel) : Prop where
 kind : kindS c.f0 ≠ 0
 lo : 0 ≤ c.f1
 hi : c.f1 ≤ 4
 var : kindS c.f0 = 2 → c.f1 = 0
theorem okc_of {c : Cel} (h : cellErr c = 0) : Okc c := by
 unfold cellErr at h
 by_cases h1 : kindS c.f0 = 0
 ·
  rw [if_pos h1] at h; cases h
 ·
  rw [if_neg h1] at h
  by_cases h2 : c.f1 < 0
  ·
   rw [if_pos h2] at h; cases h
  ·
   rw [if_neg h2] at h
   by_cases h3 : c.f1 > 4
   ·
    rw [if_pos h3] at h; cases h
   ·
    rw [if_neg h3] at h
    refine ⟨h1, by omega, by omega, fun hk => ?_⟩
    rw [if_pos hk] at h
    by_cases h4 : c.f1 > 0
    ·
     rw [if_pos h4] at h; cases h
    ·
     omega
theorem errs_ok : ∀ {l : List Cel}, errs l = 0 → ∀ c ∈ l, Okc c
 | [], _, _, h => by cases h
 | a :: l, h, c, hc => by
  unfold errs at h
  by_cases h1 : cellErr a = 0
  ·
   rw [if_pos h1] at h
   rcases List.mem_cons.1 hc with rfl | hc
   ·
    exact okc_of h1
   ·
    exact errs_ok h c hc
  ·
   rw [if_neg h1] at h
   exact absurd h h1
theorem ev_cell (c : Cel) : Ev (fun k => term_cell.f k c.f0 c.f1) (cellErr c) := by
 unfold term_cell.f
 refine Ev.bind (ev_kind c.f0) ?_
 refine Ev.congr (f := fun _ => some (cellErr c)) (fun k => ?_) (Ev.now _)
 unfold cellErr
 simp only [apply_ite some]
def behS (t : List Cel) (a n : Nat) : Int := match segN (t.drop a) n with
 | none => -1
 | some r => ((t.length - r.length : Nat) : Int)
theorem ev_behind_loop (t : List Cel) (ht : t.length ≤ 64) (hok : ∀ c ∈ t, Okc c) : ∀ (s : List Cel) (a n : Nat), a ≤ t.length → t.drop a = s → n ≤ 1 + 4 * a →
 Ev (fun k => term_behind.l0 k t (a : Int) (n : Int)) (behS t a n)
 | s, a, 0, ha, hs, hn => by
  refine Ev.step (f := fun _ => some (a : Int)) (fun k => by simp only [term_behind.l0]; rw [if_neg (by omega)]) ?_
  have : behS t a 0 = (a : Int) := by
   unfold behS
   rw [segN_zero]
   simp only [List.length_drop]
   omega
  rw [this]
  exact Ev.now _
 | [], a, n + 1, ha, hs, hn => by
  have hl := drop_nil_len ha hs
  refine Ev.step (f := fun _ => some (-1 : Int)) (fun k => by simp only [term_behind.l0]; rw [if_pos (by omega), if_pos (by omega)]) ?_
  have : behS t a (n + 1) = -1 := by
   unfold behS
   rw [hs]
   rfl
  rw [this]
  exact Ev.now _
 | c :: s, a, n + 1, ha, hs, hn => by
  obtain ⟨h1, h2, h3⟩ := drop_cons hs
  have hc : Okc c := hok c (List.mem_of_mem_drop (hs ▸ List.mem_cons_self ..))
  have har : (ar c : Int) = c.f1 := by unfold ar; have := hc.lo; omega
  have hh := hc.hi
  have hl0 := hc.lo
  refine Ev.step (f := fun k => term_behind.l0 k t ((a + 1 : Nat) : Int) ((n + ar c : Nat) : Int)) (fun k => ?_) ?_
  ·
   simp only [term_behind.l0]
   rw [if_pos (by omega), if_neg (by omega), if_pos (by omega), if_pos (by omega), rd_cel hs, wrap_up (by omega) (by omega)]
   have e : wrap64 (((n + 1 : Nat) : Int) + wrap64 (c.f1 - 1)) = ((n + ar c : Nat) : Int) := by
    rw [wrap_id (i := c.f1 - 1) (by omega) (by omega), wrap_id (by omega) (by omega)]
    omega
   rw [e]
   rfl
  ·
   have : behS t a (n + 1) = behS t (a + 1) (n + ar c) := by
    unfold behS
    rw [hs, h3]
    rfl
   rw [this]
   exact ev_behind_loop t ht hok s (a + 1) (n + ar c) (by omega) h3 (by omega)
theorem ev_behind (t : List Cel) (ht : t.length ≤ 64) (hok : ∀ c ∈ t, Okc c) (a : Nat) (ha : a ≤ t.length) : Ev (fun k => term_behind.f k t (a : Int)) (behS t a 1) := by
 unfold term_behind.f
 exact ev_behind_loop t ht hok _ a 1 ha rfl (by omega)
theorem behS_whole (t : List Cel) : (behS t 0 1 = (t.length : Int)) ↔ segN t 1 = some [] := by
 unfold behS
 rw [List.drop_zero]
 cases h : segN t 1 with
 | none => simp
 | some r =>
  have := segN_len h
  simp only [Option.some.injEq]
  constructor
  ·
   intro h1
   apply List.eq_nil_of_length_eq_zero
   omega
  ·
   rintro rfl
   simp
theorem ev_check_loop (t : List Cel) (ht : t.length ≤ 64) : ∀ (s : List Cel) (a : Nat), a ≤ t.length → t.drop a = s → (∀ c ∈ t.take a, Okc c) →
 Ev (fun k => term_Check.l0 k t t (t.length : Int) (a : Int)) (if errs s = 0 then (if segN t 1 = some [] then 0 else 3) else errs s)
 | [], a, ha, hs, hok => by
  have hl := drop_nil_len ha hs
  rw [hl, List.take_length] at hok
  refine Ev.step (f := fun k => (term_behind.f k t 0).bind fun r => (if r = (t.length : Int) then (some 0) else (some 3))) (fun k => by simp only [term_Check.l0]; rw [if_neg (by omega)]) ?_
  refine Ev.bind (ev_behind t ht hok 0 (by omega)) ?_
  refine Ev.congr (f := fun _ => some (if segN t 1 = some [] then 0 else 3)) (fun k => ?_) (Ev.now _)
  by_cases h : segN t 1 = some []
  ·
   rw [if_pos ((behS_whole t).2 h), if_pos h]
  ·
   rw [if_neg (fun h' => h ((behS_whole t).1 h')), if_neg h]
 | c :: s, a, ha, hs, hok => by
  obtain ⟨h1, h2, h3⟩ := drop_cons hs
  refine Ev.step (f := fun k => (term_cell.f k c.f0 c.f1).bind fun e => (if e = 0 then (term_Check.l0 k t t (t.length : Int) ((a + 1 : Nat) : Int)) else (some e))) (fun k => ?_) ?_
  ·
   simp only [term_Check.l0]
   rw [if_pos (by omega), if_pos (by omega), if_pos (by omega), rd_cel hs, wrap_up (by omega) (by omega)]
   rfl
  ·
   refine Ev.bind (ev_cell c) ?_
   by_cases he : cellErr c = 0
   ·
    refine Ev.congr (f := fun k => term_Check.l0 k t t (t.length : Int) ((a + 1 : Nat) : Int)) (fun k => by rw [if_pos he]) ?_
    have : errs (c :: s) = errs s := by simp only [errs]; rw [if_pos he]
    rw [this]
    refine ev_check_loop t ht s (a + 1) (by omega) h3 (fun x hx => ?_)
    rw [List.take_succ_eq_append_getElem h1] at hx
    rcases List.mem_append.1 hx with hx | hx
    ·
     exact hok x hx
    ·
     have hce : t[a] = c := by have := h2 c; rw [List.getD_eq_getElem?_getD, List.getElem?_eq_getElem h1] at this; exact this
     rw [List.mem_singleton.1 hx, hce]
     exact okc_of he
   ·
    refine Ev.congr (f := fun _ => some (cellErr c)) (fun k => by rw [if_neg he]) ?_
    have : errs (c :: s) = cellErr c := by simp only [errs]; rw [if_neg he]
    rw [this, if_neg he]
    exact Ev.now _
theorem ev_check (t : List Cel) : Ev (fun k => term_Check.f k t) (checkS t) := by
 unfold term_Check.f checkS
 by_cases h : t.length > 64
 ·
  rw [if_pos h]
  exact Ev.congr (f := fun _ => some 6) (fun k => if_pos (by omega)) (Ev.now _)
 ·
  rw [if_neg h]
  exact Ev.congr (f := fun k => term_Check.l0 k t t (t.length : Int) ((0 : Nat) : Int)) (fun k => if_neg (by omega)) (ev_check_loop t (by omega) t 0 (by omega) rfl (by simp))

end Go.Proofs.YtpnamhplhdaphaaDoor.P

-- ==== PLs
/- Plain laws: lists of cells as terms, taken apart (for chapters without match). -/
namespace Go.Proofs.YtpnamhplhdaphaaDoor.P
open Go.RowKit Go.Proofs.YtpnamhplhdaphaaDoorW.PrintWords

def fstT (t r : List Cel) : List Cel := t.take (t.length - r.length)
theorem segN_nil_pos {n : Nat} (h : segN [] n = some []) : n = 0 := by
 cases n with
 | zero => rfl
 | succ n => cases h
theorem segN_fst {t r : List Cel} {n : Nat} (h : segN t n = some r) : t = fstT t r ++ r ∧ segN (fstT t r) n = some [] := by
 obtain ⟨m, hm, hd⟩ := segN_suffix h
 have hl : r.length = t.length - m := by rw [← hd, List.length_drop]
 have he : fstT t r = t.take m := by unfold fstT; rw [show t.length - r.length = m by omega]
 rw [he]
 refine ⟨by rw [← hd]; exact (List.take_append_drop m t).symm, ?_⟩
 have : ∀ (l : List Cel) (n m : Nat), m ≤ l.length → segN l n = some (l.drop m) → segN (l.take m) n = some [] := by
  intro l
  induction l with
  | nil =>
   intro n m hm h
   have hm0 : m = 0 := by simpa using hm
   subst hm0
   simpa using h
  | cons c l ih =>
   intro n m hm h
   cases n with
   | zero =>
    rw [segN_zero] at h ⊢
    injection h with h
    have := congrArg List.length h
    simp only [List.length_cons, List.length_drop] at this
    have hm0 : m = 0 := by simp at hm; omega
    rw [hm0]
    rfl
   | succ n =>
    cases m with
    | zero =>
     have := segN_len h
     simp at this
    | succ m =>
     simp only [List.drop_succ_cons] at h
     exact ih (n + ar c) m (by simpa using hm) h
 rw [← hd] at h
 exact this t n m hm h

theorem bytes_eq (a b : ByteArray) : a.toList = b.toList ↔ a = b := by
 rw [ByteArray.toList_eq, ByteArray.toList_eq]
 constructor
 ·
  intro h
  cases a; cases b
  simp only [ByteArray.mk.injEq]
  exact Array.toList_inj.1 h
 ·
  intro h
  rw [h]
theorem cel_ne (c d : Cel) : ((!((c.f0.toList) == (d.f0.toList)) || (!(c.f1 == d.f1))) = true) ↔ c ≠ d := by
 cases c with | mk a b => cases d with | mk a' b' =>
 simp only [Bool.or_eq_true, Bool.not_eq_true', beq_eq_false_iff_ne, ne_eq, bytes_eq, S33.mk.injEq]
 by_cases h : a = a' <;> simp [h]
theorem ev_cels_loop (F : Nat → List Cel → List Cel → Int → Int → Option Bool)
 (hF : ∀ k x y n i, F (k + 1) x y n i = if i < n then (if 0 ≤ i then (if i < (x.length : Int) then (if i < (y.length : Int) then (if (!((((rd_T33 x i).f0).toList) == (((rd_T33 y i).f0).toList)) || (!(((rd_T33 x i).f1) == ((rd_T33 y i).f1)))) = true then (some false) else (F k x y n (wrap64 (i + 1)))) else (none)) else (none)) else (none)) else (some true))
 (x y : List Cel) (hl : x.length = y.length) (hb : x.length ≤ 9223372036854775806) : ∀ (s u : List Cel) (a : Nat), a ≤ x.length → x.drop a = s → y.drop a = u → Ev (fun k => F k x y (x.length : Int) (a : Int)) (decide (s = u))
 | [], u, a, ha, hs, hu => by
  have h1 := drop_nil_len ha hs
  have h2 : u = [] := by rw [← hu]; exact List.drop_eq_nil_of_le (by omega)
  refine Ev.step (f := fun _ => some true) (fun k => by rw [hF, if_neg (by omega)]) ?_
  rw [h2]
  exact Ev.now _
 | c :: s, u, a, ha, hs, hu => by
  obtain ⟨h1, _, h3⟩ := drop_cons hs
  rcases u with _ | ⟨d, u⟩
  ·
   have := drop_nil_len (by omega) hu
   omega
  obtain ⟨_, _, h4⟩ := drop_cons hu
  by_cases hcd : c = d
  ·
   refine Ev.step (f := fun k => F k x y (x.length : Int) ((a + 1 : Nat) : Int)) (fun k => by
    rw [hF, if_pos (by omega), if_pos (by omega), if_pos (by omega), if_pos (by omega), rd_cel hs, rd_cel hu, if_neg (fun h => (cel_ne c d).1 h hcd), wrap_up (by omega) (by omega)]
    rfl) ?_
   have : decide (c :: s = d :: u) = decide (s = u) := by subst hcd; simp
   rw [this]
   exact ev_cels_loop F hF x y hl hb s u (a + 1) (by omega) h3 h4
  ·
   refine Ev.step (f := fun _ => some false) (fun k => by
    rw [hF, if_pos (by omega), if_pos (by omega), if_pos (by omega), if_pos (by omega), rd_cel hs, rd_cel hu, if_pos ((cel_ne c d).2 hcd)]) ?_
   have : decide (c :: s = d :: u) = false := by simp [hcd]
   rw [this]
   exact Ev.now _
theorem ev_refSame4 (x y : List Cel) (hb : x.length ≤ 9223372036854775806 ∨ y.length ≤ 9223372036854775806) : Ev (fun k => aumbryref04_Same.f k x y) (decide (x = y)) := by
 unfold aumbryref04_Same.f
 by_cases h : (x.length : Int) = (y.length : Int)
 ·
  exact Ev.congr (f := fun k => aumbryref04_Same.l0 k x y (x.length : Int) ((0 : Nat) : Int)) (fun k => by rw [if_pos h]; rfl) (ev_cels_loop _ (fun k x y n i => rfl) x y (by omega) (by omega) x y 0 (by omega) rfl rfl)
 ·
  refine Ev.congr (f := fun _ => some (decide (x = y))) (fun k => ?_) (Ev.now _)
  rw [if_neg h]
  congr 1
  rw [Eq.comm, decide_eq_false_iff_not]
  rintro rfl
  exact h rfl
theorem clone_at (x : List Cel) (h : x.length < 5864062014805) : api_Cell_46.f x = some x := by
 unfold api_Cell_46.f
 rw [if_pos (by simpa using h)]
 rfl
theorem copy_at (x : List Cel) (h : x.length < 5864062014805) : aumbryref04_Copy.f x = some x := by
 unfold aumbryref04_Copy.f
 rw [if_pos (by simpa using h)]
 rfl

theorem checkS_ok {t : List Cel} (h : checkS t = 0) : t.length ≤ 64 ∧ (∀ c ∈ t, Okc c) ∧ segN t 1 = some [] := by
 unfold checkS at h
 by_cases h1 : t.length > 64
 ·
  rw [if_pos h1] at h
  cases h
 ·
  rw [if_neg h1] at h
  by_cases h2 : errs t = 0
  ·
   rw [if_pos h2] at h
   by_cases h3 : segN t 1 = some []
   ·
    exact ⟨by omega, errs_ok h2, h3⟩
   ·
    rw [if_neg h3] at h
    cases h
  ·
   rw [if_neg h2] at h
   exact absurd h h2
end Go.Proofs.YtpnamhplhdaphaaDoor.P

-- ==== PF51
namespace Go.Proofs.YtpnamhplhdaphaaDoor.P
open Go.RowKit Go.Proofs.YtpnamhplhdaphaaDoorW.PrintWords Go.Proofs.YtpnamhplhdaphaaDoorW.PrintLast Go.Proofs.YtpnamhplhdaphaaDoorW.PrintMore
attribute [local go_sem] max2_int min2_int max_two min_two max_three min_three max_four min_four

attribute [local go_sem high] eqA33
def match_Match.l0 : Nat → List (S33) → List (S109) → List (S33) → Int → List (S33) → Int → Int → Option ((List (S109)) × Bool × Int)
 | 0, _, _, _, _, _, _, _ => none
 | k + 1, x1, x10, x11, x12, x33, x34, x35 => if x35 < x34 then (if 0 ≤ x35 then (if x35 < (x33.length : Int) then ((match_variable.f k ((rd_T33 x33 x35).f0) ((rd_T33 x33 x35).f1)).bind fun t106 => (if t106 = true then ((match_end.f k x1 x12).bind fun t108 => (if 0 ≤ x12 then (if x12 ≤ t108 then (if t108 ≤ (x1.length : Int) then ((some ((x1.take (t108 : Int).toNat).drop (x12 : Int).toNat : List (S33))).bind fun y109 => (if ((rd_T33 x33 x35).f0).size ≤ 9223372036854775807 then (if (mapHas x11 ((rd_T33 x33 x35).f0) = true) then (if 0 ≤ (mapAt x11 ((rd_T33 x33 x35).f0)) then (if (mapAt x11 ((rd_T33 x33 x35).f0)) < (x10.length : Int) then ((api_Cell_74.f k ((rd_T109 x10 (mapAt x11 ((rd_T33 x33 x35).f0))).f1) y109).bind fun t114 => (if t114 = true then (match_Match.l0 k x1 x10 x11 (wrap64 (x12 + (y109.length : Int))) x33 x34 (wrap64 (x35 + 1))) else (some (([] : List (S109)), false, 0)))) else (none)) else (none)) else (if x11.length < 9223372036854775807 ∧ ((rd_T33 x33 x35).f0).size ≤ 9223372036854775807 ∧ 0 ≤ (x10.length : Int) ∧ (x10.length : Int) ≤ 9223372036854775807 then ((api_Cell_46.f y109).bind fun t118 => (if x10.length < 3518437208883 then (match_Match.l0 k x1 (x10 ++ [(⟨(rd_T33 x33 x35).f0, t118⟩ : S109)]) (mapPut x11 ((rd_T33 x33 x35).f0) (x10.length : Int)) (wrap64 (x12 + (y109.length : Int))) x33 x34 (wrap64 (x35 + 1))) else (none))) else (none))) else (none))) else (none)) else (none)) else (none))) else (if 0 ≤ x12 then (if x12 < (x1.length : Int) then (if (!((((rd_T33 x1 x12).f0).toList) == (((rd_T33 x33 x35).f0).toList)) || (!(((rd_T33 x1 x12).f1) == ((rd_T33 x33 x35).f1)))) = true then (some (([] : List (S109)), false, 0)) else (match_Match.l0 k x1 x10 x11 (wrap64 (x12 + 1)) x33 x34 (wrap64 (x35 + 1)))) else (none)) else (none)))) else (none)) else (none)) else (some (x10, true, 0))
def match_Match.g (k : Nat) (l0 : List (S33)) (l1 : List (S33)) : Option ((List (S109)) × Bool × Int) := match_Match.l0 k l1 ([] : List (S109)) (([] : List (S33))) 0 l0 (l0.length : Int) 0
def match_Match.f (k : Nat) (l0 : List (S33)) (l1 : List (S33)) : Option ((List (S109)) × Bool × Int) := (term_Check.f k l0).bind fun ta => (if ta = 0 then ((term_Check.f k l1).bind fun tb => (if tb = 0 then (match_Match.g k l0 l1) else (some (([] : List (S109)), false, tb)))) else (some (([] : List (S109)), false, ta)))
theorem match_Match.mono_l : ∀ k, (∀ y0 y1 y2 y3 y4 y5 y6, LeO (match_Match.l0 k y0 y1 y2 y3 y4 y5 y6) (match_Match.l0 (k + 1) y0 y1 y2 y3 y4 y5 y6))
 | 0 => fun _ _ _ _ _ _ _ r h => by simp [match_Match.l0] at h
 | k + 1 => by
  have ih0 := match_Match.mono_l k
  ·
   intro y0 y1 y2 y3 y4 y5 y6
   unfold match_Match.l0
   repeat' first
   | (with_reducible exact ih0 _ _ _ _ _ _ _)
   | (with_reducible exact api_Cell_74.mono _ _ _)
   | (with_reducible exact match_end.mono _ _ _)
   | (with_reducible exact match_variable.mono _ _ _)
   | (with_reducible exact LeO.refl _)
   | (with_reducible exact LeO.none _)
   | (with_reducible refine LeO.ite ?_ ?_)
   | (with_reducible refine LeO.bind ?_ (fun _ => ?_))
theorem match_Match.mono_g : ∀ a0 a1 k, LeO (match_Match.g k a0 a1) (match_Match.g (k + 1) a0 a1) := by
 intro a0 a1 k
 have ih0 := match_Match.mono_l k
 unfold match_Match.g
 repeat' first
  | (with_reducible exact ih0 _ _ _ _ _ _ _)
  | (with_reducible exact api_Cell_74.mono _ _ _)
  | (with_reducible exact match_end.mono _ _ _)
  | (with_reducible exact match_variable.mono _ _ _)
  | (with_reducible exact LeO.refl _)
  | (with_reducible exact LeO.none _)
  | (with_reducible refine LeO.ite ?_ ?_)
  | (with_reducible refine LeO.bind ?_ (fun _ => ?_))
theorem match_Match.mono : ∀ a0 a1 k, LeO (match_Match.f k a0 a1) (match_Match.f (k + 1) a0 a1) := by
 intro a0 a1 k
 unfold match_Match.f
 refine LeO.bind (term_Check.mono _ _) (fun _ => LeO.ite (LeO.bind (term_Check.mono _ _) (fun _ => LeO.ite (match_Match.mono_g _ _ _) (LeO.refl _))) (LeO.refl _))
def match_Match.T23 : Bool × List (List Nat × List Nat) := (true, [([], []), ([], []), ([1], [1]), ([], []), ([3], [3]), ([2, 4], [2, 4]), ([5], [5]), ([0, 6, 4], [0, 6]), ([7, 7, 0, 1, 2, 3, 4, 5, 6, 7], [0, 7])])
def match_Match.B23 : List Nat := [0, 0, 2, 0, 8, 30, 62, 127, 255]
theorem match_Match.tab23 : rtab .any (opsOf Tryd.f51 23) = match_Match.T23 := by kernel_rfl
theorem match_Match.bits23 : waitsOk match_Match.T23.2 match_Match.B23 = true := by kernel_rfl
theorem match_Match.calls (k : Nat) (A0 : Option Addr) (c0 : Nat) (l0 : List (S33)) (A1 : Option Addr) (c1 : Nat) (l1 : List (S33)) (r1 : List (S109)) (r2 : Bool) (r3 : Int) (w : World) (hr0 : Kd.C k33 w A0 l0.length l0) (hc0 : l0.length ≤ c0) (hr1 : Kd.C k33 w A1 l1.length l1) (hc1 : l1.length ≤ c1) (h : match_Match.f k l0 l1 = some (r1, r2, r3)) :
 Calls Tryd.prog 51 #[.slice A0 l0.length c0, .slice A1 l1.length c1] w fun e w' => ∃ v0_ : Value, e = .returned (.tuple #[v0_, .bool r2, .int .i64 r3]) ∧ Kd.S k109 109 w' w.heap.size (fun _ => True) v0_ r1 ∧ Below w.heap.size w w' := by
 have hu33 := Tryd.underlying33
 have hu109 := Tryd.underlying109
 have HR0 := zM hr0
 have HC0 := zM hc0
 clear hr0 hc0
 have HR1 := zM hr1
 have HC1 := zM hc1
 clear hr1 hc1
 have HB := zM (Below.refl w.heap.size w)
 have h0 : ((term_Check.f k l0).bind fun ta => (if ta = 0 then ((term_Check.f k l1).bind fun tb => (if tb = 0 then (match_Match.g k l0 l1) else (some (([] : List (S109)), false, tb)))) else (some (([] : List (S109)), false, ta)))) = some (r1, r2, r3) := h
 clear h
 replace h0 := zB h0
 obtain ⟨ta, Aa0, h0⟩ := h0
 have Aa := zM Aa0
 clear Aa0
 by_cases cta : ta = 0
 case neg =>
  have h1 : (some (([] : List (S109)), false, ta)) = some (r1, r2, r3) := by first | (rw [if_neg cta] at h0; exact h0) | exact (if_neg cta).symm.trans h0
  clear h0
  simp only [Option.some.injEq, Prod.mk.injEq] at h1
  obtain ⟨rfl, rfl, rfl⟩ := h1
  have ctab0 : (ta == 0) = false := zE cta
  have ctab1 : (ta != 0) = true := zF cta
  clear cta
  go_enter Tryd.func51, Tryd.ntmps51
  go_wp2
  refine wp_loop_rounds 1 ?_
  rw [rounds_succ]
  go_wp2_with (first | ((with_reducible refine gate_callee (f := 30) rfl ?_); refine goesL_ (some 27) rfl rfl Tryd.func30 (by kernel_rfl) rfl #[.slice A0 l0.length c0] rfl zl ?_; (with_reducible refine (term_Check.calls k _ _ l0 ta _ ?side1 ?side2 Aa.out).mono ?_); (case side1 => exact Kd.C_below HR0.out zg); (case side2 => exact HC0.out); rintro e w5 ⟨rfl, hb⟩; have hz1 : w5.cell? ⟨w.heap.size, 1, none⟩ = some (.slice A1 l1.length c1) := (hb.cell (p := ⟨w.heap.size, 1, none⟩) (by simp)).trans ((cell_of_row _ _ 1 _ _ (0, 0) (heap_alloc_new w _)).trans rfl); replace HB := zM (below_step (zA HB.out _) hb); refine ⟨_, rfl, ?_⟩))
  go_ret3
  exact ⟨_, zw, Kd.S_nil _ _ _ _ _, zb⟩
 case pos =>
 replace h0 : ((term_Check.f k l1).bind fun tb => (if tb = 0 then (match_Match.g k l0 l1) else (some (([] : List (S109)), false, tb)))) = some (r1, r2, r3) := (if_pos cta).symm.trans h0
 replace h0 := zB h0
 obtain ⟨tb, Ab0, h0⟩ := h0
 have Ab := zM Ab0
 clear Ab0
 have ctab0 : (ta == 0) = true := zG cta
 have ctab1 : (ta != 0) = false := zH cta
 clear cta
 by_cases ctb : tb = 0
 case neg =>
  have h1 : (some (([] : List (S109)), false, tb)) = some (r1, r2, r3) := by first | (rw [if_neg ctb] at h0; exact h0) | exact (if_neg ctb).symm.trans h0
  clear h0
  simp only [Option.some.injEq, Prod.mk.injEq] at h1
  obtain ⟨rfl, rfl, rfl⟩ := h1
  have ctbb0 : (tb == 0) = false := zE ctb
  have ctbb1 : (tb != 0) = true := zF ctb
  clear ctb
  go_enter Tryd.func51, Tryd.ntmps51
  go_wp2
  refine wp_loop_rounds 2 ?_
  rw [rounds_succ]
  go_wp2_with (first | ((with_reducible refine gate_callee (f := 30) rfl ?_); refine goesL_ (some 27) rfl rfl Tryd.func30 (by kernel_rfl) rfl #[.slice A0 l0.length c0] rfl zl ?_; (with_reducible refine (term_Check.calls k _ _ l0 ta _ ?side1 ?side2 Aa.out).mono ?_); (case side1 => exact Kd.C_below HR0.out zg); (case side2 => exact HC0.out); rintro e w5 ⟨rfl, hb⟩; have hz1 : w5.cell? ⟨w.heap.size, 1, none⟩ = some (.slice A1 l1.length c1) := (hb.cell (p := ⟨w.heap.size, 1, none⟩) (by simp)).trans ((cell_of_row _ _ 1 _ _ (0, 0) (heap_alloc_new w _)).trans rfl); replace HB := zM (below_step (zA HB.out _) hb); refine ⟨_, rfl, ?_⟩))
  rw [rounds_succ]
  go_wp2_with (first | ((with_reducible refine gate_callee (f := 30) rfl ?_); refine goesL_ (some 27) rfl rfl Tryd.func30 (by kernel_rfl) rfl #[.slice A1 l1.length c1] rfl zl ?_; (with_reducible refine (term_Check.calls k _ _ l1 tb _ ?side1 ?side2 Ab.out).mono ?_); (case side1 => exact Kd.C_below HR1.out HB.out); (case side2 => exact HC1.out); rintro e w6 ⟨rfl, hb⟩; replace HB := zM (below_step HB.out hb); refine ⟨_, rfl, ?_⟩))
  go_ret3
  exact ⟨_, zw, Kd.S_nil _ _ _ _ _, zb⟩
 case pos =>
 have h : match_Match.g k l0 l1 = some (r1, r2, r3) := (if_pos ctb).symm.trans h0
 clear h0
 have ctbb0 : (tb == 0) = true := zG ctb
 have ctbb1 : (tb != 0) = false := zH ctb
 clear ctb
 have H : (match_Match.l0 k l1 ([] : List (S109)) (([] : List (S33))) 0 l0 (l0.length : Int) 0) = some (r1, r2, r3) := h
 clear h
 obtain ⟨y101, hy101⟩ : ∃ y_ : List (S33), y_ = (([] : List (S33))) := ⟨_, rfl⟩
 replace H : (match_Match.l0 k l1 ([] : List (S109)) y101 0 l0 (l0.length : Int) 0) = some (r1, r2, r3) := by first | (rw [hy101]; with_reducible exact H) | (have H2_ := (Option.bind_some _ _).symm.trans H; rw [hy101]; with_reducible exact H2_) | (have H2_ := (Option.bind_some _ _).symm.trans H; with_reducible exact H2_) | with_reducible exact H | (rw [hy101]; exact H) | exact H
 have Ny101 := zM hy101
 clear hy101
 have H' := zM H
 clear H
 go_enter Tryd.func51, Tryd.ntmps51
 go_wp2
 refine wp_loop_rounds 3 ?_
 rw [rounds_succ]
 go_wp2_with (first | ((with_reducible refine gate_callee (f := 30) rfl ?_); refine goesL_ (some 27) rfl rfl Tryd.func30 (by kernel_rfl) rfl #[.slice A0 l0.length c0] rfl zl ?_; (with_reducible refine (term_Check.calls k _ _ l0 ta _ ?side1 ?side2 Aa.out).mono ?_); (case side1 => exact Kd.C_below HR0.out zg); (case side2 => exact HC0.out); rintro e w5 ⟨rfl, hb⟩; have hz1 : w5.cell? ⟨w.heap.size, 1, none⟩ = some (.slice A1 l1.length c1) := (hb.cell (p := ⟨w.heap.size, 1, none⟩) (by simp)).trans ((cell_of_row _ _ 1 _ _ (0, 0) (heap_alloc_new w _)).trans rfl); replace HB := zM (below_step (zA HB.out _) hb); refine ⟨_, rfl, ?_⟩))
 rw [rounds_succ]
 go_wp2_with (first | ((with_reducible refine gate_callee (f := 30) rfl ?_); refine goesL_ (some 27) rfl rfl Tryd.func30 (by kernel_rfl) rfl #[.slice A1 l1.length c1] rfl zl ?_; (with_reducible refine (term_Check.calls k _ _ l1 tb _ ?side1 ?side2 Ab.out).mono ?_); (case side1 => exact Kd.C_below HR1.out HB.out); (case side2 => exact HC1.out); rintro e w6 ⟨rfl, hb⟩; replace HB := zM (below_step HB.out hb); refine ⟨_, rfl, ?_⟩))
 rw [rounds_succ]
 go_wp2_with (first | ((with_reducible refine gate_dst (N := 32) rfl ?_); refine Kd.P_make k33 (N := 32) rfl rfl rfl ?_; intro v102 w3 ho4 hb; rw [← Ny101.out] at ho4; have HO103 := zM (Kd.P_lower ho4 (below_size zb)); replace HB := zM (below_step zb hb); clear hb ho4))
 go_loopg [10, 12, 35] k (fun kq v10 v12 v35 w' => ∃ (x10_1 : List (S109)) (x11_1 : List (S33)) (x12_1 : Int) (x35_1 : Int), v12 = .int .i64 x12_1 ∧ v35 = .int .i64 x35_1 ∧ Aside0 (match_Match.l0 kq l1 x10_1 x11_1 x12_1 l0 (l0.length : Int) x35_1 = some (r1, r2, r3)) ∧ Aside0 (kq ≤ k) ∧ Aside0 (Kd.S k109 109 w' w.heap.size (fun _ => True) v10 x10_1) ∧ Aside0 (Kd.P k33 105 w' w.heap.size (fun _ => True) v102 x11_1) ∧ Aside0 (Below w.heap.size w w'))
 case atStart => exact ⟨(([] : List (S109))), (y101), (0), (0), zy, zy, H', ⟨Nat.le_refl _⟩, ⟨by first | exact Kd.S_nil _ _ _ _ _ | exact Kd.N_nil _ _ _ _ _ | exact Kd.V_nil _ _ _ _ _ | exact Kd.Q_nil _ _ _ _ _ | exact Kd.R_nil _ _ _ _ _⟩, ⟨Kd.P_below HO103.out zg⟩, ⟨zb⟩⟩
 case round =>
  clear H'
  try clear c1
  try clear p2
  obtain ⟨x10_1, x11_1, x12_1, x35_1, rfl, rfl, HA, HK1, HO_10, HO_11, HB⟩ := hrel
  cases gk with
  | zero => exact absurd HA.out (by simp [match_Match.l0])
  | succ k1 =>
   have H := HA.out
   clear HA
   simp only [match_Match.l0] at H
   by_cases c5 : x35_1 < (l0.length : Int)
   ·
    rw [if_pos c5] at H
    have c5b0 : decide (x35_1 < (l0.length : Int)) = true := zQ c5
    clear c5
    by_cases c6 : 0 ≤ x35_1
    ·
     rw [if_pos c6] at H
     have c6b0 : decide (0 ≤ x35_1) = true := zQ c6
     clear c6
     by_cases c7 : x35_1 < (l0.length : Int)
     ·
      rw [if_pos c7] at H
      have c7b0 : decide (x35_1 < (l0.length : Int)) = true := zQ c7
      clear c7
      replace H := zB H
      obtain ⟨t106, A80, H⟩ := H
      try dsimp only at H
      have A8 := zM A80
      clear A80
      by_cases c9 : t106 = true
      ·
       subst c9
       rw [if_pos rfl] at H
       replace H := zB H
       obtain ⟨t108, A100, H⟩ := H
       try dsimp only at H
       have A10 := zM A100
       clear A100
       by_cases c11 : 0 ≤ x12_1
       ·
        rw [if_pos c11] at H
        have c11b0 := eq_true c11
        have c11b1 : decide (0 ≤ x12_1) = true := zQ c11
        clear c11
        by_cases c12 : x12_1 ≤ t108
        ·
         rw [if_pos c12] at H
         have c12b0 := eq_true c12
         have c12b1 : decide (x12_1 ≤ t108) = true := zQ c12
         clear c12
         by_cases c13 : t108 ≤ (l1.length : Int)
         ·
          rw [if_pos c13] at H
          have c13b0 := eq_true c13
          have c13b1 : decide (t108 ≤ (l1.length : Int)) = true := zQ c13
          clear c13
          obtain ⟨y109, hy109⟩ : ∃ y_ : List (S33), y_ = ((l1.take (t108 : Int).toNat).drop (x12_1 : Int).toNat) := ⟨_, rfl⟩
          replace H : (if ((rd_T33 l0 x35_1).f0).size ≤ 9223372036854775807 then (if (mapHas x11_1 ((rd_T33 l0 x35_1).f0) = true) then (if 0 ≤ (mapAt x11_1 ((rd_T33 l0 x35_1).f0)) then (if (mapAt x11_1 ((rd_T33 l0 x35_1).f0)) < (x10_1.length : Int) then ((api_Cell_74.f k1 ((rd_T109 x10_1 (mapAt x11_1 ((rd_T33 l0 x35_1).f0))).f1) y109).bind fun t114 => (if t114 = true then (match_Match.l0 k1 l1 x10_1 x11_1 (wrap64 (x12_1 + (y109.length : Int))) l0 (l0.length : Int) (wrap64 (x35_1 + 1))) else (some (([] : List (S109)), false, 0)))) else (none)) else (none)) else (if x11_1.length < 9223372036854775807 ∧ ((rd_T33 l0 x35_1).f0).size ≤ 9223372036854775807 ∧ 0 ≤ (x10_1.length : Int) ∧ (x10_1.length : Int) ≤ 9223372036854775807 then ((api_Cell_46.f y109).bind fun t118 => (if x10_1.length < 3518437208883 then (match_Match.l0 k1 l1 (x10_1 ++ [(⟨(rd_T33 l0 x35_1).f0, t118⟩ : S109)]) (mapPut x11_1 ((rd_T33 l0 x35_1).f0) (x10_1.length : Int)) (wrap64 (x12_1 + (y109.length : Int))) l0 (l0.length : Int) (wrap64 (x35_1 + 1))) else (none))) else (none))) else (none)) = some (r1, r2, r3) := by first | (rw [hy109]; with_reducible exact H) | (have H2_ := (Option.bind_some _ _).symm.trans H; rw [hy109]; with_reducible exact H2_) | (have H2_ := (Option.bind_some _ _).symm.trans H; with_reducible exact H2_) | with_reducible exact H | (rw [hy109]; exact H) | exact H
          have Ny109 := zM hy109
          clear hy109
          by_cases c14 : ((rd_T33 l0 x35_1).f0).size ≤ 9223372036854775807
          ·
           rw [if_pos c14] at H
           have LMc14 := zM c14
           clear c14
           by_cases c15 : (mapHas x11_1 ((rd_T33 l0 x35_1).f0) = true)
           ·
            rw [if_pos c15] at H
            have c15b0 : mapHas x11_1 ((rd_T33 l0 x35_1).f0) = true := c15
            clear c15
            by_cases c16 : 0 ≤ (mapAt x11_1 ((rd_T33 l0 x35_1).f0))
            ·
             rw [if_pos c16] at H
             have c16b0 : decide (0 ≤ (mapAt x11_1 ((rd_T33 l0 x35_1).f0))) = true := zQ c16
             clear c16
             by_cases c17 : (mapAt x11_1 ((rd_T33 l0 x35_1).f0)) < (x10_1.length : Int)
             ·
              rw [if_pos c17] at H
              have c17b0 : decide ((mapAt x11_1 ((rd_T33 l0 x35_1).f0)) < (x10_1.length : Int)) = true := zQ c17
              clear c17
              replace H := zB H
              obtain ⟨t114, A180, H⟩ := H
              try dsimp only at H
              have A18 := zM A180
              clear A180
              by_cases c19 : t114 = true
              ·
               subst c19
               rw [if_pos rfl] at H
               have H' := zM H
               clear H
               have p104 : 0 ≤ (x35_1 : Int) := zT zv
               have q104 : x35_1 < (l0.length : Int) := zT zv
               obtain ⟨ad104, e104, hx104_0, hx104_1⟩ := at_T33 HR0.out x35_1 p104 q104
               cases e104
               replace hx104_0 := (HB.out.cell (World.block_lt_of_cell? w _ hx104_0)).trans hx104_0
               replace hx104_1 := (HB.out.cell (World.block_lt_of_cell? w _ hx104_1)).trans hx104_1
               replace p104 := eq_true p104
               replace q104 := eq_true q104
               go_wp2_with (first | ((with_reducible refine gate_dst (N := 14) rfl ?_); refine box_event ?hg (N := 14) ?hd (cs := #[.string (⟨#[]⟩ : ByteArray), .int .i64 0]) (t := 33) ?hr ?_; (case hd => rfl); (case hg => rfl); (case hr => first | (go_simp; done) | (go_simp; rfl)); intro gb105 hg w20 hbox hb; replace HO_10 := zM (Kd.S_below (Kd.S_elderB (Kd.S_below HO_10.out zg) gb105 (Nat.le_of_eq hg.symm)) hb); replace HO_11 := zM (Kd.P_below (Kd.P_below HO_11.out zg) hb); have BK105 := zM (hbox); have GW105 := zM (zh hg : w.heap.size ≤ gb105); have GE105 := zM (zh hg : w.heap.size ≤ gb105); replace HB := zM (below_step zb hb); clear hb hbox hg; have hcz21_0 : w20.cell? ⟨gb105, 0, none⟩ = some (.string (⟨#[]⟩ : ByteArray)) := (zX BK105.out 0).trans rfl; have hcz21_1 : w20.cell? ⟨gb105, 1, none⟩ = some (.int .i64 0) := (zX BK105.out 1).trans rfl; have hfz21_0 := zY BK105.out 0; have hfz21_1 := zY BK105.out 1) | ((with_reducible refine gate_callee (f := 72) rfl ?_); refine goesL_ (some 40) rfl rfl Tryd.func72 (by kernel_rfl) rfl #[.agg #[.string ((rd_T33 l0 x35_1).f0), .int .i64 ((rd_T33 l0 x35_1).f1)]] rfl zl ?_; (with_reducible refine (match_variable.calls k1 ((rd_T33 l0 x35_1).f0) ((rd_T33 l0 x35_1).f1) true _ A8.out).mono ?_); rintro e w22 ⟨rfl, hb⟩; refine ⟨_, rfl, ?_⟩; replace HO_10 := zM (Kd.S_below (by (with_reducible repeat (first | apply Kd.S_alloc | apply Kd.S_drewN | apply Kd.S_drew)); exact (Kd.S_mono (Kd.S_far (p := ⟨gb105, 1, none⟩) (Kd.S_far (p := ⟨gb105, 0, none⟩) (Kd.S_mono HO_10.out (fun k_ hk => (⟨hk, hk.2⟩ : _ ∧ k_ ≠ gb105))) (fun _ hk => hk.2) (.string ((rd_T33 l0 x35_1).f0))) (fun _ hk => hk.2) (.int .i64 ((rd_T33 l0 x35_1).f1))) (fun _ h_ => h_.1))) hb); replace HO_11 := zM (Kd.P_below (by (with_reducible repeat (first | apply Kd.P_alloc | apply Kd.P_drewN | apply Kd.P_drew)); exact (Kd.P_mono (Kd.P_far (p := ⟨gb105, 1, none⟩) (Kd.P_far (p := ⟨gb105, 0, none⟩) (Kd.P_types HO_11.out BK105.out (by decide)) (fun _ hk => hk.2) (.string ((rd_T33 l0 x35_1).f0))) (fun _ hk => hk.2) (.int .i64 ((rd_T33 l0 x35_1).f1))) (fun _ h_ => h_.1))) hb); replace BK105 := zM (blk_below (g := gb105) (o := .cells #[.string ((rd_T33 l0 x35_1).f0), .int .i64 ((rd_T33 l0 x35_1).f1)] 33 (0, 0)) (by refine zk ?_; refine blk_put (cs := #[.string ((rd_T33 l0 x35_1).f0), .int .i64 0]) ?_ 1 _ rfl; refine zk ?_; refine blk_put (cs := #[.string (⟨#[]⟩ : ByteArray), .int .i64 0]) ?_ 0 _ rfl; refine zk ?_; exact BK105.out) hb); replace HB := zM (below_step zb hb); (try clear hb)) | ((with_reducible refine gate_callee (f := 73) rfl ?_); refine goesL_ (some 54) rfl rfl Tryd.func73 (by kernel_rfl) rfl #[.slice A1 l1.length c1, .int .i64 x12_1] rfl zl ?_; (with_reducible refine (match_end.calls k1 _ _ l1 x12_1 t108 _ ?side1 ?side2 A10.out).mono ?_); (case side1 => exact Kd.C_below HR1.out zb); (case side2 => exact HC1.out); rintro e w' ⟨rfl, ⟨nd, rfl⟩⟩; refine ⟨_, rfl, ?_⟩; have q23 : (t108 : Int) ≤ ((l1.length : Int) : Int) := zT zv; obtain ⟨i023, hi023, _, hsz23, _⟩ := info_parts info33; have hroom23 : l1.length ≤ c1 := HC1.out; have hC23 : Kd.C k33 _ A1 l1.length l1 := HR1.out; have ql23 : (x12_1 : Int) ≤ (t108 : Int) := zT zv; have q023 : (0 : Int) ≤ (x12_1 : Int) := zT zv; have hcut23 := cut_mid (P := Tryd.prog) 23 33 .i64 .i64 Tryd.underlying23 hi023 2 hsz23 A1 l1.length c1 x12_1 t108 q023 ql23 q23 hroom23; have hr23 := Kd.C_mid (lo := (x12_1 : Int).toNat) (hi := (t108 : Int).toNat) (c := c1) hC23 (by omega) (by omega) hroom23; obtain ⟨A23, hA23⟩ : ∃ Aq_, Aq_ = (if c1 = (x12_1 : Int).toNat then A1 else (A1 : Option Addr).map (·.add ((x12_1 : Int).toNat * 2))) := ⟨_, rfl⟩; obtain ⟨c23, hc23⟩ : ∃ cq_, cq_ = c1 - (x12_1 : Int).toNat := ⟨_, rfl⟩; have hy23 : y109.length = (t108 : Int).toNat - (x12_1 : Int).toNat := (by rw [Ny109.out, List.length_drop, List.length_take] <;> omega); rw [show ((l1).take (t108 : Int).toNat).drop (x12_1 : Int).toNat = y109 from Ny109.out.symm] at hr23; replace hr23 : Kd.C k33 _ A23 y109.length y109 := (by rw [hA23]; exact hr23); rw [← hy23, ← hA23, ← hc23] at hcut23; have HR112 := zM hr23; have HC112 := zM (show y109.length ≤ c23 from by rw [hy23, hc23]; exact Nat.sub_le_sub_right (Nat.le_trans (by omega) hroom23) _); clear hr23 hC23 hroom23 hi023 hsz23 hc23; have KY23 := zM hy23; have KA23 := zM hA23; clear hy23 hA23; replace q23 := eq_true q23; have hcz24_0 : w22.cell? ⟨gb105, 0, none⟩ = some (.string ((rd_T33 l0 x35_1).f0)) := (zX BK105.out 0).trans rfl; have hcz24_1 : w22.cell? ⟨gb105, 1, none⟩ = some (.int .i64 ((rd_T33 l0 x35_1).f1)) := (zX BK105.out 1).trans rfl; have hfz24_0 := zY BK105.out 0; have hfz24_1 := zY BK105.out 1; obtain ⟨Ao25, co25, eo25⟩ := Kd.S_slice HO_10.out; subst eo25; have p113 : 0 ≤ ((mapAt x11_1 ((rd_T33 l0 x35_1).f0)) : Int) := zT zv; have q113 : (mapAt x11_1 ((rd_T33 l0 x35_1).f0)) < (x10_1.length : Int) := zT zv; obtain ⟨ad113, A113_1, c113_1, e113, hx113_0, hx113_1, hl113_1, hi113_1⟩ := at_T109 (Kd.S_reads' HO_10.out).2.2 (mapAt x11_1 ((rd_T33 l0 x35_1).f0)) p113 q113; cases e113; obtain ⟨ce113, hce113, hMe113, hcc113⟩ := Kd.S_get HO_10.out z109 (mapAt x11_1 ((rd_T33 l0 x35_1).f0)) p113 (by first | exact q113 | exact zT zv | (have e_ := (Kd.S_reads' HO_10.out).1; omega)); obtain ⟨ve113_1, rfl, ge113_1⟩ := k109_openM hMe113; have hv113_1 := hcc113 1 _ rfl; rw [add_field _ _ 1 (by omega)] at hv113_1; replace hv113_1 := zS (hv113_1.symm.trans hx113_1); rw [hv113_1] at ge113_1; have HL113_1 := zM (show Kd.R k33 33 _ _ _ _ ((rd_T109 x10_1 (mapAt x11_1 ((rd_T33 l0 x35_1).f0))).f1) from ge113_1); clear hv113_1 ge113_1; clear hcc113 hce113; have HR113_1 := zM hi113_1; have HC113_1 := zM hl113_1; clear hi113_1 hl113_1; replace p113 := eq_true p113; replace q113 := eq_true q113) | ((with_reducible refine gate_dst (N := 64) rfl ?_); refine Kd.P_look (v := v102) (m := x11_1) (s := ((rd_T33 l0 x35_1).f0)) rfl rfl rfl rfl LMc14.out (Kd.P_below HO_11.out zg) ?_) | ((with_reducible refine gate_callee (f := 74) rfl ?_); refine goesL_ (some 90) rfl rfl Tryd.func74 (by kernel_rfl) rfl #[.slice A113_1 ((rd_T109 x10_1 (mapAt x11_1 ((rd_T33 l0 x35_1).f0))).f1).length c113_1, .slice A23 y109.length c23] rfl zl ?_; (with_reducible refine (api_Cell_74.calls k1 _ _ ((rd_T109 x10_1 (mapAt x11_1 ((rd_T33 l0 x35_1).f0))).f1) _ _ y109 true _ ?side1 ?side2 ?side3 ?side4 A18.out).mono ?_); (case side1 => repeat (first | exact (by repeat (first | (with_reducible exact HR113_1.out) | (with_reducible first | refine Kd.C_alloc ?_ _ | refine Kd.C_drewN ?_ _ | refine Kd.C_drew ?_) | exact HR113_1.out)) | (with_reducible first | refine Kd.C_alloc ?_ _ | refine Kd.C_drewN ?_ _ | refine Kd.C_drew ?_))); (case side2 => exact HC113_1.out); (case side3 => exact Kd.C_below (Kd.C_below HR112.out zb) zg); (case side4 => exact HC112.out); rintro e w' ⟨rfl, ⟨nd, rfl⟩⟩; refine ⟨_, rfl, ?_⟩))
               go_roundg k1
               case measure => have := HK1.out; omega
               case rel => exact ⟨(x10_1), (x11_1), (wrap64 (x12_1 + (y109.length : Int))), (wrap64 (x35_1 + 1)), zy, zy, H', ⟨by have := HK1.out; omega⟩, ⟨by (with_reducible repeat (first | apply Kd.S_alloc | apply Kd.S_drewN | apply Kd.S_drew)); exact Kd.S_mono HO_10.out (fun _ hk => trivial)⟩, ⟨Kd.P_below HO_11.out zg⟩, ⟨zb⟩⟩
              ·
               replace c19 := zI c19
               subst c19
               rw [if_neg (show ¬ (false = true) by decide)] at H
               simp only [Option.some.injEq, Prod.mk.injEq] at H
               obtain ⟨rfl, rfl, rfl⟩ := H
               have p104 : 0 ≤ (x35_1 : Int) := zT zv
               have q104 : x35_1 < (l0.length : Int) := zT zv
               obtain ⟨ad104, e104, hx104_0, hx104_1⟩ := at_T33 HR0.out x35_1 p104 q104
               cases e104
               replace hx104_0 := (HB.out.cell (World.block_lt_of_cell? w _ hx104_0)).trans hx104_0
               replace hx104_1 := (HB.out.cell (World.block_lt_of_cell? w _ hx104_1)).trans hx104_1
               replace p104 := eq_true p104
               replace q104 := eq_true q104
               go_wp2_with (first | ((with_reducible refine gate_dst (N := 14) rfl ?_); refine box_event ?hg (N := 14) ?hd (cs := #[.string (⟨#[]⟩ : ByteArray), .int .i64 0]) (t := 33) ?hr ?_; (case hd => rfl); (case hg => rfl); (case hr => first | (go_simp; done) | (go_simp; rfl)); intro gb105 hg w26 hbox hb; replace HO_10 := zM (Kd.S_below (Kd.S_elderB (Kd.S_below HO_10.out zg) gb105 (Nat.le_of_eq hg.symm)) hb); replace HO_11 := zM (Kd.P_below (Kd.P_below HO_11.out zg) hb); have BK105 := zM (hbox); have GW105 := zM (zh hg : w.heap.size ≤ gb105); have GE105 := zM (zh hg : w.heap.size ≤ gb105); replace HB := zM (below_step zb hb); clear hb hbox hg; have hcz27_0 : w26.cell? ⟨gb105, 0, none⟩ = some (.string (⟨#[]⟩ : ByteArray)) := (zX BK105.out 0).trans rfl; have hcz27_1 : w26.cell? ⟨gb105, 1, none⟩ = some (.int .i64 0) := (zX BK105.out 1).trans rfl; have hfz27_0 := zY BK105.out 0; have hfz27_1 := zY BK105.out 1) | ((with_reducible refine gate_callee (f := 72) rfl ?_); refine goesL_ (some 40) rfl rfl Tryd.func72 (by kernel_rfl) rfl #[.agg #[.string ((rd_T33 l0 x35_1).f0), .int .i64 ((rd_T33 l0 x35_1).f1)]] rfl zl ?_; (with_reducible refine (match_variable.calls k1 ((rd_T33 l0 x35_1).f0) ((rd_T33 l0 x35_1).f1) true _ A8.out).mono ?_); rintro e w28 ⟨rfl, hb⟩; refine ⟨_, rfl, ?_⟩; replace HO_10 := zM (Kd.S_below (by (with_reducible repeat (first | apply Kd.S_alloc | apply Kd.S_drewN | apply Kd.S_drew)); exact (Kd.S_mono (Kd.S_far (p := ⟨gb105, 1, none⟩) (Kd.S_far (p := ⟨gb105, 0, none⟩) (Kd.S_mono HO_10.out (fun k_ hk => (⟨hk, hk.2⟩ : _ ∧ k_ ≠ gb105))) (fun _ hk => hk.2) (.string ((rd_T33 l0 x35_1).f0))) (fun _ hk => hk.2) (.int .i64 ((rd_T33 l0 x35_1).f1))) (fun _ h_ => h_.1))) hb); replace HO_11 := zM (Kd.P_below (by (with_reducible repeat (first | apply Kd.P_alloc | apply Kd.P_drewN | apply Kd.P_drew)); exact (Kd.P_mono (Kd.P_far (p := ⟨gb105, 1, none⟩) (Kd.P_far (p := ⟨gb105, 0, none⟩) (Kd.P_types HO_11.out BK105.out (by decide)) (fun _ hk => hk.2) (.string ((rd_T33 l0 x35_1).f0))) (fun _ hk => hk.2) (.int .i64 ((rd_T33 l0 x35_1).f1))) (fun _ h_ => h_.1))) hb); replace BK105 := zM (blk_below (g := gb105) (o := .cells #[.string ((rd_T33 l0 x35_1).f0), .int .i64 ((rd_T33 l0 x35_1).f1)] 33 (0, 0)) (by refine zk ?_; refine blk_put (cs := #[.string ((rd_T33 l0 x35_1).f0), .int .i64 0]) ?_ 1 _ rfl; refine zk ?_; refine blk_put (cs := #[.string (⟨#[]⟩ : ByteArray), .int .i64 0]) ?_ 0 _ rfl; refine zk ?_; exact BK105.out) hb); replace HB := zM (below_step zb hb); (try clear hb)) | ((with_reducible refine gate_callee (f := 73) rfl ?_); refine goesL_ (some 54) rfl rfl Tryd.func73 (by kernel_rfl) rfl #[.slice A1 l1.length c1, .int .i64 x12_1] rfl zl ?_; (with_reducible refine (match_end.calls k1 _ _ l1 x12_1 t108 _ ?side1 ?side2 A10.out).mono ?_); (case side1 => exact Kd.C_below HR1.out zb); (case side2 => exact HC1.out); rintro e w' ⟨rfl, ⟨nd, rfl⟩⟩; refine ⟨_, rfl, ?_⟩; have q29 : (t108 : Int) ≤ ((l1.length : Int) : Int) := zT zv; obtain ⟨i029, hi029, _, hsz29, _⟩ := info_parts info33; have hroom29 : l1.length ≤ c1 := HC1.out; have hC29 : Kd.C k33 _ A1 l1.length l1 := HR1.out; have ql29 : (x12_1 : Int) ≤ (t108 : Int) := zT zv; have q029 : (0 : Int) ≤ (x12_1 : Int) := zT zv; have hcut29 := cut_mid (P := Tryd.prog) 23 33 .i64 .i64 Tryd.underlying23 hi029 2 hsz29 A1 l1.length c1 x12_1 t108 q029 ql29 q29 hroom29; have hr29 := Kd.C_mid (lo := (x12_1 : Int).toNat) (hi := (t108 : Int).toNat) (c := c1) hC29 (by omega) (by omega) hroom29; obtain ⟨A29, hA29⟩ : ∃ Aq_, Aq_ = (if c1 = (x12_1 : Int).toNat then A1 else (A1 : Option Addr).map (·.add ((x12_1 : Int).toNat * 2))) := ⟨_, rfl⟩; obtain ⟨c29, hc29⟩ : ∃ cq_, cq_ = c1 - (x12_1 : Int).toNat := ⟨_, rfl⟩; have hy29 : y109.length = (t108 : Int).toNat - (x12_1 : Int).toNat := (by rw [Ny109.out, List.length_drop, List.length_take] <;> omega); rw [show ((l1).take (t108 : Int).toNat).drop (x12_1 : Int).toNat = y109 from Ny109.out.symm] at hr29; replace hr29 : Kd.C k33 _ A29 y109.length y109 := (by rw [hA29]; exact hr29); rw [← hy29, ← hA29, ← hc29] at hcut29; have HR112 := zM hr29; have HC112 := zM (show y109.length ≤ c29 from by rw [hy29, hc29]; exact Nat.sub_le_sub_right (Nat.le_trans (by omega) hroom29) _); clear hr29 hC29 hroom29 hi029 hsz29 hc29; have KY29 := zM hy29; have KA29 := zM hA29; clear hy29 hA29; replace q29 := eq_true q29; have hcz30_0 : w28.cell? ⟨gb105, 0, none⟩ = some (.string ((rd_T33 l0 x35_1).f0)) := (zX BK105.out 0).trans rfl; have hcz30_1 : w28.cell? ⟨gb105, 1, none⟩ = some (.int .i64 ((rd_T33 l0 x35_1).f1)) := (zX BK105.out 1).trans rfl; have hfz30_0 := zY BK105.out 0; have hfz30_1 := zY BK105.out 1; obtain ⟨Ao31, co31, eo31⟩ := Kd.S_slice HO_10.out; subst eo31; have p113 : 0 ≤ ((mapAt x11_1 ((rd_T33 l0 x35_1).f0)) : Int) := zT zv; have q113 : (mapAt x11_1 ((rd_T33 l0 x35_1).f0)) < (x10_1.length : Int) := zT zv; obtain ⟨ad113, A113_1, c113_1, e113, hx113_0, hx113_1, hl113_1, hi113_1⟩ := at_T109 (Kd.S_reads' HO_10.out).2.2 (mapAt x11_1 ((rd_T33 l0 x35_1).f0)) p113 q113; cases e113; obtain ⟨ce113, hce113, hMe113, hcc113⟩ := Kd.S_get HO_10.out z109 (mapAt x11_1 ((rd_T33 l0 x35_1).f0)) p113 (by first | exact q113 | exact zT zv | (have e_ := (Kd.S_reads' HO_10.out).1; omega)); obtain ⟨ve113_1, rfl, ge113_1⟩ := k109_openM hMe113; have hv113_1 := hcc113 1 _ rfl; rw [add_field _ _ 1 (by omega)] at hv113_1; replace hv113_1 := zS (hv113_1.symm.trans hx113_1); rw [hv113_1] at ge113_1; have HL113_1 := zM (show Kd.R k33 33 _ _ _ _ ((rd_T109 x10_1 (mapAt x11_1 ((rd_T33 l0 x35_1).f0))).f1) from ge113_1); clear hv113_1 ge113_1; clear hcc113 hce113; have HR113_1 := zM hi113_1; have HC113_1 := zM hl113_1; clear hi113_1 hl113_1; replace p113 := eq_true p113; replace q113 := eq_true q113) | ((with_reducible refine gate_dst (N := 64) rfl ?_); refine Kd.P_look (v := v102) (m := x11_1) (s := ((rd_T33 l0 x35_1).f0)) rfl rfl rfl rfl LMc14.out (Kd.P_below HO_11.out zg) ?_) | ((with_reducible refine gate_callee (f := 74) rfl ?_); refine goesL_ (some 90) rfl rfl Tryd.func74 (by kernel_rfl) rfl #[.slice A113_1 ((rd_T109 x10_1 (mapAt x11_1 ((rd_T33 l0 x35_1).f0))).f1).length c113_1, .slice A29 y109.length c29] rfl zl ?_; (with_reducible refine (api_Cell_74.calls k1 _ _ ((rd_T109 x10_1 (mapAt x11_1 ((rd_T33 l0 x35_1).f0))).f1) _ _ y109 false _ ?side1 ?side2 ?side3 ?side4 A18.out).mono ?_); (case side1 => repeat (first | exact (by repeat (first | (with_reducible exact HR113_1.out) | (with_reducible first | refine Kd.C_alloc ?_ _ | refine Kd.C_drewN ?_ _ | refine Kd.C_drew ?_) | exact HR113_1.out)) | (with_reducible first | refine Kd.C_alloc ?_ _ | refine Kd.C_drewN ?_ _ | refine Kd.C_drew ?_))); (case side2 => exact HC113_1.out); (case side3 => exact Kd.C_below (Kd.C_below HR112.out zb) zg); (case side4 => exact HC112.out); rintro e w' ⟨rfl, ⟨nd, rfl⟩⟩; refine ⟨_, rfl, ?_⟩))
               go_ret3
               exact ⟨_, zw, by first | exact Kd.S_nil _ _ _ _ _ | exact Kd.N_nil _ _ _ _ _ | exact Kd.V_nil _ _ _ _ _ | exact Kd.Q_nil _ _ _ _ _ | exact Kd.R_nil _ _ _ _ _, zb⟩
             ·
              rw [if_neg c17] at H
              exact absurd H (by simp)
            ·
             rw [if_neg c16] at H
             exact absurd H (by simp)
           ·
            rw [if_neg c15] at H
            have c15b0 : mapHas x11_1 ((rd_T33 l0 x35_1).f0) = false := by simpa using c15
            clear c15
            by_cases c32 : x11_1.length < 9223372036854775807 ∧ ((rd_T33 l0 x35_1).f0).size ≤ 9223372036854775807 ∧ 0 ≤ (x10_1.length : Int) ∧ (x10_1.length : Int) ≤ 9223372036854775807
            ·
             rw [if_pos c32] at H
             have LMc32 := zM c32
             clear c32
             obtain ⟨y115, hy115⟩ : ∃ y_ : List (S33), y_ = (mapPut x11_1 ((rd_T33 l0 x35_1).f0) (x10_1.length : Int)) := ⟨_, rfl⟩
             replace H : ((api_Cell_46.f y109).bind fun t118 => (if x10_1.length < 3518437208883 then (match_Match.l0 k1 l1 (x10_1 ++ [(⟨(rd_T33 l0 x35_1).f0, t118⟩ : S109)]) y115 (wrap64 (x12_1 + (y109.length : Int))) l0 (l0.length : Int) (wrap64 (x35_1 + 1))) else (none))) = some (r1, r2, r3) := by first | (rw [hy115]; with_reducible exact H) | (have H2_ := (Option.bind_some _ _).symm.trans H; rw [hy115]; with_reducible exact H2_) | (have H2_ := (Option.bind_some _ _).symm.trans H; with_reducible exact H2_) | with_reducible exact H | (rw [hy115]; exact H) | exact H
             have Ny115 := zM hy115
             clear hy115
             replace H := zB H
             obtain ⟨t118, A330, H⟩ := H
             try dsimp only at H
             have A33 := zM A330
             clear A330
             by_cases c34 : x10_1.length < 3518437208883
             ·
              rw [if_pos c34] at H
              have LMc34 := zM c34
              clear c34
              obtain ⟨y121, hy121⟩ : ∃ y_ : List (S109), y_ = (x10_1 ++ [(⟨(rd_T33 l0 x35_1).f0, t118⟩ : S109)]) := ⟨_, rfl⟩
              replace H : (match_Match.l0 k1 l1 y121 y115 (wrap64 (x12_1 + (y109.length : Int))) l0 (l0.length : Int) (wrap64 (x35_1 + 1))) = some (r1, r2, r3) := by first | (rw [hy121]; with_reducible exact H) | (have H2_ := (Option.bind_some _ _).symm.trans H; rw [hy121]; with_reducible exact H2_) | (have H2_ := (Option.bind_some _ _).symm.trans H; with_reducible exact H2_) | with_reducible exact H | (rw [hy121]; exact H) | exact H
              have Ny121 := zM hy121
              clear hy121
              have H' := zM H
              clear H
              have p104 : 0 ≤ (x35_1 : Int) := zT zv
              have q104 : x35_1 < (l0.length : Int) := zT zv
              obtain ⟨ad104, e104, hx104_0, hx104_1⟩ := at_T33 HR0.out x35_1 p104 q104
              cases e104
              replace hx104_0 := (HB.out.cell (World.block_lt_of_cell? w _ hx104_0)).trans hx104_0
              replace hx104_1 := (HB.out.cell (World.block_lt_of_cell? w _ hx104_1)).trans hx104_1
              replace p104 := eq_true p104
              replace q104 := eq_true q104
              try go_wp2_with (first | ((with_reducible refine gate_dst (N := 14) rfl ?_); refine box_event ?hg (N := 14) ?hd (cs := #[.string (⟨#[]⟩ : ByteArray), .int .i64 0]) (t := 33) ?hr ?_; (case hd => rfl); (case hg => rfl); (case hr => first | (go_simp; done) | (go_simp; rfl)); intro gb105 hg w35 hbox hb; replace HO_10 := zM (Kd.S_below (Kd.S_elderB (Kd.S_below HO_10.out zg) gb105 (Nat.le_of_eq hg.symm)) hb); replace HO_11 := zM (Kd.P_below (Kd.P_below HO_11.out zg) hb); have BK105 := zM (hbox); have GW105 := zM (zh hg : w.heap.size ≤ gb105); have GE105 := zM (zh hg : w.heap.size ≤ gb105); replace HB := zM (below_step zb hb); clear hb hbox hg; have hcz36_0 : w35.cell? ⟨gb105, 0, none⟩ = some (.string (⟨#[]⟩ : ByteArray)) := (zX BK105.out 0).trans rfl; have hcz36_1 : w35.cell? ⟨gb105, 1, none⟩ = some (.int .i64 0) := (zX BK105.out 1).trans rfl; have hfz36_0 := zY BK105.out 0; have hfz36_1 := zY BK105.out 1) | ((with_reducible refine gate_callee (f := 72) rfl ?_); refine goesL_ (some 40) rfl rfl Tryd.func72 (by kernel_rfl) rfl #[.agg #[.string ((rd_T33 l0 x35_1).f0), .int .i64 ((rd_T33 l0 x35_1).f1)]] rfl zl ?_; (with_reducible refine (match_variable.calls k1 ((rd_T33 l0 x35_1).f0) ((rd_T33 l0 x35_1).f1) true _ A8.out).mono ?_); rintro e w37 ⟨rfl, hb⟩; refine ⟨_, rfl, ?_⟩; replace HO_10 := zM (Kd.S_below (by (with_reducible repeat (first | apply Kd.S_alloc | apply Kd.S_drewN | apply Kd.S_drew)); exact (Kd.S_mono (Kd.S_far (p := ⟨gb105, 1, none⟩) (Kd.S_far (p := ⟨gb105, 0, none⟩) (Kd.S_mono HO_10.out (fun k_ hk => (⟨hk, hk.2⟩ : _ ∧ k_ ≠ gb105))) (fun _ hk => hk.2) (.string ((rd_T33 l0 x35_1).f0))) (fun _ hk => hk.2) (.int .i64 ((rd_T33 l0 x35_1).f1))) (fun _ h_ => h_.1))) hb); replace HO_11 := zM (Kd.P_below (by (with_reducible repeat (first | apply Kd.P_alloc | apply Kd.P_drewN | apply Kd.P_drew)); exact (Kd.P_mono (Kd.P_far (p := ⟨gb105, 1, none⟩) (Kd.P_far (p := ⟨gb105, 0, none⟩) (Kd.P_types HO_11.out BK105.out (by decide)) (fun _ hk => hk.2) (.string ((rd_T33 l0 x35_1).f0))) (fun _ hk => hk.2) (.int .i64 ((rd_T33 l0 x35_1).f1))) (fun _ h_ => h_.1))) hb); replace BK105 := zM (blk_below (g := gb105) (o := .cells #[.string ((rd_T33 l0 x35_1).f0), .int .i64 ((rd_T33 l0 x35_1).f1)] 33 (0, 0)) (by refine zk ?_; refine blk_put (cs := #[.string ((rd_T33 l0 x35_1).f0), .int .i64 0]) ?_ 1 _ rfl; refine zk ?_; refine blk_put (cs := #[.string (⟨#[]⟩ : ByteArray), .int .i64 0]) ?_ 0 _ rfl; refine zk ?_; exact BK105.out) hb); replace HB := zM (below_step zb hb); (try clear hb)) | ((with_reducible refine gate_callee (f := 73) rfl ?_); refine goesL_ (some 54) rfl rfl Tryd.func73 (by kernel_rfl) rfl #[.slice A1 l1.length c1, .int .i64 x12_1] rfl zl ?_; (with_reducible refine (match_end.calls k1 _ _ l1 x12_1 t108 _ ?side1 ?side2 A10.out).mono ?_); (case side1 => exact Kd.C_below HR1.out zb); (case side2 => exact HC1.out); rintro e w' ⟨rfl, ⟨nd, rfl⟩⟩; refine ⟨_, rfl, ?_⟩; have q38 : (t108 : Int) ≤ ((l1.length : Int) : Int) := zT zv; obtain ⟨i038, hi038, _, hsz38, _⟩ := info_parts info33; have hroom38 : l1.length ≤ c1 := HC1.out; have hC38 : Kd.C k33 _ A1 l1.length l1 := HR1.out; have ql38 : (x12_1 : Int) ≤ (t108 : Int) := zT zv; have q038 : (0 : Int) ≤ (x12_1 : Int) := zT zv; have hcut38 := cut_mid (P := Tryd.prog) 23 33 .i64 .i64 Tryd.underlying23 hi038 2 hsz38 A1 l1.length c1 x12_1 t108 q038 ql38 q38 hroom38; have hr38 := Kd.C_mid (lo := (x12_1 : Int).toNat) (hi := (t108 : Int).toNat) (c := c1) hC38 (by omega) (by omega) hroom38; obtain ⟨A38, hA38⟩ : ∃ Aq_, Aq_ = (if c1 = (x12_1 : Int).toNat then A1 else (A1 : Option Addr).map (·.add ((x12_1 : Int).toNat * 2))) := ⟨_, rfl⟩; obtain ⟨c38, hc38⟩ : ∃ cq_, cq_ = c1 - (x12_1 : Int).toNat := ⟨_, rfl⟩; have hy38 : y109.length = (t108 : Int).toNat - (x12_1 : Int).toNat := (by rw [Ny109.out, List.length_drop, List.length_take] <;> omega); rw [show ((l1).take (t108 : Int).toNat).drop (x12_1 : Int).toNat = y109 from Ny109.out.symm] at hr38; replace hr38 : Kd.C k33 _ A38 y109.length y109 := (by rw [hA38]; exact hr38); rw [← hy38, ← hA38, ← hc38] at hcut38; have HR112 := zM hr38; have HC112 := zM (show y109.length ≤ c38 from by rw [hy38, hc38]; exact Nat.sub_le_sub_right (Nat.le_trans (by omega) hroom38) _); clear hr38 hC38 hroom38 hi038 hsz38 hc38; have KY38 := zM hy38; have KA38 := zM hA38; clear hy38 hA38; replace q38 := eq_true q38; have hcz39_0 : w37.cell? ⟨gb105, 0, none⟩ = some (.string ((rd_T33 l0 x35_1).f0)) := (zX BK105.out 0).trans rfl; have hcz39_1 : w37.cell? ⟨gb105, 1, none⟩ = some (.int .i64 ((rd_T33 l0 x35_1).f1)) := (zX BK105.out 1).trans rfl; have hfz39_0 := zY BK105.out 0; have hfz39_1 := zY BK105.out 1; obtain ⟨Ao40, co40, eo40⟩ := Kd.S_slice HO_10.out; subst eo40) | ((with_reducible refine gate_dst (N := 64) rfl ?_); refine Kd.P_look (v := v102) (m := x11_1) (s := ((rd_T33 l0 x35_1).f0)) rfl rfl rfl rfl LMc14.out (Kd.P_below HO_11.out zg) ?_) | (at_mapUpdate; refine Kd.P_put (v := v102) (m := x11_1) (s := ((rd_T33 l0 x35_1).f0)) (n := (x10_1.length : Int)) rfl rfl rfl rfl rfl LMc32.out (Kd.P_below HO_11.out zg) ?_; intro w41 ho hm; rw [← Ny115.out] at ho; replace HO_10 := zM (Kd.S_mapped (Kd.S_below HO_10.out zg) hm); replace BK105 := zM (blk_mapped (g := gb105) (o := .cells #[.string ((rd_T33 l0 x35_1).f0), .int .i64 ((rd_T33 l0 x35_1).f1)] 33 (0, 0)) (zk BK105.out) hm); replace HB := zM (below_mapped zb hm); replace HO_11 := zM (ho); clear ho hm))
              have n0_ := zM (Kd.S_drew HO_10.out)
              have n1_ := zM (Kd.P_drew HO_11.out)
              have n2_ := zM (blk_drew BK105.out)
              have n3_ := zM (zD HB.out)
              clear HO_10
              clear HO_11
              clear BK105
              clear HB
              have HO_10 := n0_
              have HO_11 := n1_
              have BK105 := n2_
              have HB := n3_
              clear n0_ n1_ n2_ n3_
              refine start_ (n := 9) (S := fun w' => w'.cell? ⟨gb105, 0, none⟩ = some (.string ((rd_T33 l0 x35_1).f0)) ∧ w'.cell? ⟨gb105, 1, none⟩ = some (.int .i64 ((rd_T33 l0 x35_1).f1))) (ds := []) #[false, false, false, false, false, false, false, false, false] (by kernel_rfl) rfl rfl ⟨(zX BK105.out 0).trans rfl, (zX BK105.out 1).trans rfl⟩ (fun hHeld => ?_); refine with_tabW match_Match.tab23 match_Match.bits23 (fun HT_ HW_ => ?_)
              generalize w41.drew = w42 at HO_10 HO_11 BK105 HB hHeld ⊢
              refine pure_ (i := 0) (N := some 75) (v := ?_) (a' := ?_) #[true, false, false, false, false, false, false, false, false] rfl rfl (any_of HT_.out (by kernel_rfl)) (fun _ _ _ h => h) (Or.inl ⟨by rfl, ?_⟩) ?_ ?_
              rotate_left
              ·
               intro w'
               go_simp
               with_reducible rfl
              rotate_left
              ·
               simp only [Act.put, zp1, zp2, zp3, i64_w, i32_w]
               rfl
              refine pure_ (i := 1) (N := some 76) (v := ?_) (a' := ?_) #[true, true, false, false, false, false, false, false, false] rfl rfl (any_of HT_.out (by kernel_rfl)) (fun _ _ _ h => h) (Or.inl ⟨by rfl, ?_⟩) ?_ ?_
              rotate_left
              ·
               intro w'
               go_simp
               with_reducible rfl
              rotate_left
              ·
               simp only [Act.put, zp1, zp2, zp3, i64_w, i32_w]
               rfl
              refine pure_ (i := 3) (N := some 78) (v := ?_) (a' := ?_) #[true, true, false, true, false, false, false, false, false] rfl rfl (any_of HT_.out (by kernel_rfl)) (fun _ _ _ h => h) (Or.inl ⟨by rfl, ?_⟩) ?_ ?_
              rotate_left
              ·
               intro w'
               go_simp
               with_reducible rfl
              rotate_left
              ·
               simp only [Act.put, zp1, zp2, zp3, i64_w, i32_w]
               rfl
              refine take_ (i := 2) (N := some 77) (v := ?_) (a' := ?_) #[true, true, true, true, false, false, false, false, false] rfl rfl (take_ofW HT_.out HW_.out (by kernel_rfl)) (fun _ _ _ h => h) (Or.inl ⟨by rfl, ?_⟩) hHeld ?_ ?_
              rotate_left
              ·
               rintro w' ⟨s0, s1⟩
               go_simp
               with_reducible rfl
              rotate_left
              ·
               simp only [Act.put, zp1, zp2, zp3, i64_w, i32_w]
               rfl
              refine one_ (i := 4) (N := some 79) #[true, true, true, true, true, false, false, false, false] rfl rfl (one_of HT_.out (by kernel_rfl)) (by decide) (fun K hK => ?_)
              refine goes_ Tryd.func46 (by kernel_rfl) rfl #[.slice A38 y109.length c38] (by rfl) rfl rfl zl ?_
              with_reducible refine (api_Cell_46.calls _ _ y109 t118 _ ?side1 ?side2 A33.out).mono ?_
              (case side1 => exact Kd.C_below HR112.out zb)
              (case side2 => exact HC112.out)
              rintro e w43 ⟨v119, rfl, ho0, hb⟩
              refine ⟨_, rfl, ?_⟩
              have n0_ := zM (Kd.S_elder' (Kd.S_below HO_10.out zg) (Kd.R_base ho0) hb)
              have n1_ := zM (Kd.P_below (Kd.P_below HO_11.out zg) hb)
              have n2_ := zM (Kd.R_lower (Kd.R_newB ho0 (g := gb105) (o := .cells #[.string ((rd_T33 l0 x35_1).f0), .int .i64 ((rd_T33 l0 x35_1).f1)] 33 (0, 0)) (zk BK105.out)) (below_size zb))
              have n3_ := zM (blk_below (g := gb105) (o := .cells #[.string ((rd_T33 l0 x35_1).f0), .int .i64 ((rd_T33 l0 x35_1).f1)] 33 (0, 0)) (zk BK105.out) hb)
              have n4_ := zM (below_step zb hb)
              clear HO_10
              clear HO_11
              clear BK105
              clear HB
              have HO_10 := n0_
              have HO_11 := n1_
              have HO120 := n2_
              have BK105 := n3_
              have HB := n4_
              clear n0_ n1_ n2_ n3_ n4_
              (try clear hb)
              (try clear hb2)
              (try clear hk)
              (try clear hi)
              (try clear ho0)
              obtain ⟨Ao44, co44, eo44⟩ := Kd.R_slice HO120.out
              (first | subst eo44 | (injection eo44 with f1_ f2_ f3_; have f4_ := f1_.symm; have f5_ := f3_.symm; clear f1_ f2_ f3_; subst f4_; subst f5_))
              refine hK.out _ _ ⟨(zX BK105.out 0).trans rfl, (zX BK105.out 1).trans rfl⟩ (fun hHeld => ?_)
              clear hK K
              refine norm_ (a' := ?_) ?_ ?_
              rotate_left
              ·
               show Act.put _ (some 79) _ = _
               simp only [Act.put, zp1, zp2, zp3, i64_w, i32_w]
               rfl
              refine pure_ (i := 5) (N := some 80) (v := ?_) (a' := ?_) #[true, true, true, true, true, true, false, false, false] rfl rfl (any_of HT_.out (by kernel_rfl)) (fun _ _ _ h => h) (Or.inl ⟨by rfl, ?_⟩) ?_ ?_
              rotate_left
              ·
               intro w'
               go_simp
               with_reducible rfl
              rotate_left
              ·
               simp only [Act.put, zp1, zp2, zp3, i64_w, i32_w]
               rfl
              refine one_ (i := 6) (N := some 81) #[true, true, true, true, true, true, true, false, false] rfl rfl (one_of HT_.out (by kernel_rfl)) (by decide) (fun K hK => ?_)
              refine value_ (w1 := ?_) (v := ?_) (by rfl) rfl ?_ ?_
              rotate_left 2
              ·
               go_simp
               constructor
               ·
                rfl
               ·
                rfl
              refine hK.out _ _ ⟨(zX (blk_alloc BK105.out _) 0).trans rfl, (zX (blk_alloc BK105.out _) 1).trans rfl⟩ (fun hHeld => ?_)
              clear hK K
              refine norm_ (a' := ?_) ?_ ?_
              rotate_left
              ·
               show Act.put _ (some 81) _ = _
               simp only [Act.put, zp1, zp2, zp3, i64_w, i32_w]
               rfl
              refine one_ (i := 7) (N := some 82) #[true, true, true, true, true, true, true, true, false] rfl rfl (one_of HT_.out (by kernel_rfl)) (by decide) (fun K hK => ?_)
              refine Kd.S_append_step k109 (w0 := w) w.heap.size (by rfl) (.tmp 75) (.tmp 81) 72 109 (.agg #[(.string ⟨#[]⟩), (.slice none 0 0)]) 40 rfl Tryd.underlying72 info109 rfl (by decide) (by omega) (.slice Ao40 x10_1.length co40) x10_1 (⟨(rd_T33 l0 x35_1).f0, t118⟩ : S109) [.string ((rd_T33 l0 x35_1).f0), .slice Ao44 t118.length co44] (fun k_ => k_ ≠ gb105) (fun k_ => some k_ = (.slice Ao44 t118.length co44 : Value).ownBlock) rfl rfl ?aP (fun k_ hk_ => ((Kd.R_mono (ok' := fun k_ => ((fun k_ => k_ ≠ gb105)) k_ ∧ some k_ ≠ (.slice Ao40 x10_1.length co40 : Value).ownBlock) (Kd.R_apart' (HO120.out) (Kd.S_typed HO_10.out) (by decide)) (fun k_ hk => ⟨hk.1.2, hk.2⟩))).1 k_ hk_.symm) ?aF ?aO ?aB ?aS ?aL ?_
              (case aP => exact k109_mkM _ _ _ (⟨(rd_T33 l0 x35_1).f0, t118⟩ : S109) (Kd.R_mono (Kd.R_tight rfl (Kd.R_mono (ok' := fun k_ => ((fun k_ => k_ ≠ gb105)) k_ ∧ some k_ ≠ (.slice Ao40 x10_1.length co40 : Value).ownBlock) (Kd.R_apart' (HO120.out) (Kd.S_typed HO_10.out) (by decide)) (fun k_ hk => ⟨hk.1.2, hk.2⟩))) (fun _ h_ => h_)))
              (case aB => exact zb)
              (case aF => exact (fun k_ hk => Kd.freshB (g := gb105) (o := .cells #[.string ((rd_T33 l0 x35_1).f0), .int .i64 ((rd_T33 l0 x35_1).f1)] 33 (0, 0)) (zk BK105.out) k_ hk))
              (case aO => exact (by (with_reducible repeat (first | apply Kd.S_alloc | apply Kd.S_drewN | apply Kd.S_drew)); exact Kd.S_mono HO_10.out (fun k_ hk => ⟨hk.1.2, fun e_ => hk.2 e_⟩)))
              (case aS => exact (below_size zb))
              (case aL => have := LMc34.out; omega)
              intro v122 w45 ho hb hg hat
              rw [← Ny121.out] at ho
              have n0_ := zM (blk_grown (g := gb105) (o := .cells #[.string ((rd_T33 l0 x35_1).f0), .int .i64 ((rd_T33 l0 x35_1).f1)] 33 (0, 0)) (zk BK105.out) hg (Kd.S_ne HO_10.out BK105.out (by decide)))
              have n1_ := zM (Kd.P_over' (Kd.P_below HO_11.out zg) (Kd.S_typed (Kd.S_below HO_10.out zg)) (by decide) hg)
              have n2_ := zM (hb)
              have n3_ := zM (ho)
              clear BK105
              clear HO_11
              clear HB
              clear HO_10
              clear HO120
              have BK105 := n0_
              have HO_11 := n1_
              have HB := n2_
              have HO123 := n3_
              clear n0_ n1_ n2_ n3_
              clear ho hb hg hat
              refine hK.out _ _ ⟨(zX BK105.out 0).trans rfl, (zX BK105.out 1).trans rfl⟩ (fun hHeld => ?_)
              clear hK K
              refine norm_ (a' := ?_) ?_ ?_
              rotate_left
              ·
               show Act.put _ (some 82) _ = _
               simp only [Act.put, zp1, zp2, zp3, i64_w, i32_w]
               rfl
              refine pure_ (i := 8) (N := some 10) (v := ?_) (a' := ?_) #[true, true, true, true, true, true, true, true, true] rfl rfl (any_of HT_.out (by kernel_rfl)) (fun _ _ _ h => h) (Or.inl ⟨by rfl, ?_⟩) ?_ ?_
              rotate_left
              ·
               intro w'
               go_simp
               with_reducible rfl
              rotate_left
              ·
               simp only [Act.put, zp1, zp2, zp3, i64_w, i32_w]
               rfl
              refine done_ (done_of HT_.out (by kernel_rfl)) ?_
              try go_wp2
              go_roundg k1
              case measure => have := HK1.out; omega
              case rel => exact ⟨(y121), (y115), (wrap64 (x12_1 + (y109.length : Int))), (wrap64 (x35_1 + 1)), zy, zy, H', ⟨by have := HK1.out; omega⟩, ⟨by (with_reducible repeat (first | apply Kd.S_alloc | apply Kd.S_drewN | apply Kd.S_drew)); exact Kd.S_mono HO123.out (fun _ hk => trivial)⟩, ⟨Kd.P_below HO_11.out zg⟩, ⟨zb⟩⟩
             ·
              rw [if_neg c34] at H
              exact absurd H (by simp)
            ·
             rw [if_neg c32] at H
             exact absurd H (by simp)
          ·
           rw [if_neg c14] at H
           exact absurd H (by simp)
         ·
          rw [if_neg c13] at H
          exact absurd H (by simp)
        ·
         rw [if_neg c12] at H
         exact absurd H (by simp)
       ·
        rw [if_neg c11] at H
        exact absurd H (by simp)
      ·
       replace c9 := zI c9
       subst c9
       rw [if_neg (show ¬ (false = true) by decide)] at H
       by_cases c46 : 0 ≤ x12_1
       ·
        rw [if_pos c46] at H
        have c46b0 : decide (0 ≤ x12_1) = true := zQ c46
        clear c46
        by_cases c47 : x12_1 < (l1.length : Int)
        ·
         rw [if_pos c47] at H
         have c47b0 : decide (x12_1 < (l1.length : Int)) = true := zQ c47
         clear c47
         by_cases c48 : (!((((rd_T33 l1 x12_1).f0).toList) == (((rd_T33 l0 x35_1).f0).toList)) || (!(((rd_T33 l1 x12_1).f1) == ((rd_T33 l0 x35_1).f1)))) = true
         ·
          rw [if_pos c48] at H
          have c48b0 : (!((((rd_T33 l1 x12_1).f0).toList) == (((rd_T33 l0 x35_1).f0).toList)) || (!(((rd_T33 l1 x12_1).f1) == ((rd_T33 l0 x35_1).f1)))) = true := c48
          clear c48
          simp only [Option.some.injEq, Prod.mk.injEq] at H
          obtain ⟨rfl, rfl, rfl⟩ := H
          have p104 : 0 ≤ (x35_1 : Int) := zT zv
          have q104 : x35_1 < (l0.length : Int) := zT zv
          obtain ⟨ad104, e104, hx104_0, hx104_1⟩ := at_T33 HR0.out x35_1 p104 q104
          cases e104
          replace hx104_0 := (HB.out.cell (World.block_lt_of_cell? w _ hx104_0)).trans hx104_0
          replace hx104_1 := (HB.out.cell (World.block_lt_of_cell? w _ hx104_1)).trans hx104_1
          replace p104 := eq_true p104
          replace q104 := eq_true q104
          try go_wp2_with (first | ((with_reducible refine gate_dst (N := 14) rfl ?_); refine box_event ?hg (N := 14) ?hd (cs := #[.string (⟨#[]⟩ : ByteArray), .int .i64 0]) (t := 33) ?hr ?_; (case hd => rfl); (case hg => rfl); (case hr => first | (go_simp; done) | (go_simp; rfl)); intro gb105 hg w49 hbox hb; replace HO_10 := zM (Kd.S_below (Kd.S_elderB (Kd.S_below HO_10.out zg) gb105 (Nat.le_of_eq hg.symm)) hb); replace HO_11 := zM (Kd.P_below (Kd.P_below HO_11.out zg) hb); have BK105 := zM (hbox); have GW105 := zM (zh hg : w.heap.size ≤ gb105); have GE105 := zM (zh hg : w.heap.size ≤ gb105); replace HB := zM (below_step zb hb); clear hb hbox hg; have hcz50_0 : w49.cell? ⟨gb105, 0, none⟩ = some (.string (⟨#[]⟩ : ByteArray)) := (zX BK105.out 0).trans rfl; have hcz50_1 : w49.cell? ⟨gb105, 1, none⟩ = some (.int .i64 0) := (zX BK105.out 1).trans rfl; have hfz50_0 := zY BK105.out 0; have hfz50_1 := zY BK105.out 1) | ((with_reducible refine gate_callee (f := 72) rfl ?_); refine goesL_ (some 40) rfl rfl Tryd.func72 (by kernel_rfl) rfl #[.agg #[.string ((rd_T33 l0 x35_1).f0), .int .i64 ((rd_T33 l0 x35_1).f1)]] rfl zl ?_; (with_reducible refine (match_variable.calls k1 ((rd_T33 l0 x35_1).f0) ((rd_T33 l0 x35_1).f1) false _ A8.out).mono ?_); rintro e w51 ⟨rfl, hb⟩; refine ⟨_, rfl, ?_⟩; replace HO_10 := zM (Kd.S_below (by (with_reducible repeat (first | apply Kd.S_alloc | apply Kd.S_drewN | apply Kd.S_drew)); exact (Kd.S_mono (Kd.S_far (p := ⟨gb105, 1, none⟩) (Kd.S_far (p := ⟨gb105, 0, none⟩) (Kd.S_mono HO_10.out (fun k_ hk => (⟨hk, hk.2⟩ : _ ∧ k_ ≠ gb105))) (fun _ hk => hk.2) (.string ((rd_T33 l0 x35_1).f0))) (fun _ hk => hk.2) (.int .i64 ((rd_T33 l0 x35_1).f1))) (fun _ h_ => h_.1))) hb); replace HO_11 := zM (Kd.P_below (by (with_reducible repeat (first | apply Kd.P_alloc | apply Kd.P_drewN | apply Kd.P_drew)); exact (Kd.P_mono (Kd.P_far (p := ⟨gb105, 1, none⟩) (Kd.P_far (p := ⟨gb105, 0, none⟩) (Kd.P_types HO_11.out BK105.out (by decide)) (fun _ hk => hk.2) (.string ((rd_T33 l0 x35_1).f0))) (fun _ hk => hk.2) (.int .i64 ((rd_T33 l0 x35_1).f1))) (fun _ h_ => h_.1))) hb); replace BK105 := zM (blk_below (g := gb105) (o := .cells #[.string ((rd_T33 l0 x35_1).f0), .int .i64 ((rd_T33 l0 x35_1).f1)] 33 (0, 0)) (by refine zk ?_; refine blk_put (cs := #[.string ((rd_T33 l0 x35_1).f0), .int .i64 0]) ?_ 1 _ rfl; refine zk ?_; refine blk_put (cs := #[.string (⟨#[]⟩ : ByteArray), .int .i64 0]) ?_ 0 _ rfl; refine zk ?_; exact BK105.out) hb); replace HB := zM (below_step zb hb); (try clear hb)))
          have n0_ := zM (Kd.S_drew HO_10.out)
          have n1_ := zM (Kd.P_drew HO_11.out)
          have n2_ := zM (blk_drew BK105.out)
          have n3_ := zM (zD HB.out)
          clear HO_10
          clear HO_11
          clear BK105
          clear HB
          have HO_10 := n0_
          have HO_11 := n1_
          have BK105 := n2_
          have HB := n3_
          clear n0_ n1_ n2_ n3_
          have p107 : 0 ≤ (x12_1 : Int) := zT zv
          have q107 : x12_1 < (l1.length : Int) := zT zv
          obtain ⟨ad107, e107, hx107_0, hx107_1⟩ := at_T33 HR1.out x12_1 p107 q107
          have hw107_1 := hx107_1
          have hw107_0 := hx107_0
          cases e107
          replace hx107_0 := (HB.out.cell (World.block_lt_of_cell? w _ hx107_0)).trans hx107_0
          replace hx107_1 := (HB.out.cell (World.block_lt_of_cell? w _ hx107_1)).trans hx107_1
          replace p107 := eq_true p107
          replace q107 := eq_true q107
          refine start_ (n := 6) (S := fun w' => w'.cell? ⟨gb105, 0, none⟩ = some (.string ((rd_T33 l0 x35_1).f0)) ∧ w'.cell? ⟨gb105, 1, none⟩ = some (.int .i64 ((rd_T33 l0 x35_1).f1)) ∧ w'.cell? (ad107.add ((x12_1).toNat * 2)) = some (.string ((rd_T33 l1 x12_1).f0)) ∧ w'.cell? ⟨(ad107.add ((x12_1).toNat * 2)).block, (ad107.add ((x12_1).toNat * 2)).off + 1, none⟩ = some (.int .i64 ((rd_T33 l1 x12_1).f1))) (ds := []) #[false, false, false, false, false, false] (by kernel_rfl) rfl rfl ⟨(zX BK105.out 0).trans rfl, (zX BK105.out 1).trans rfl, ((HB.out.cell (World.block_lt_of_cell? w _ hw107_0)).trans hw107_0), ((HB.out.cell (World.block_lt_of_cell? w _ hw107_1)).trans hw107_1)⟩ (fun hHeld => ?_)
          generalize w51.drew = w52 at HO_10 HO_11 BK105 HB hx107_0 hx107_1 hHeld ⊢
          refine pure_ (i := 0) (N := some 42) (v := ?_) (a' := ?_) #[true, false, false, false, false, false] rfl rfl (by kernel_rfl) (fun _ _ _ h => h) (Or.inl ⟨by rfl, ?_⟩) ?_ ?_
          rotate_left
          ·
           intro w'
           go_simp
           with_reducible rfl
          rotate_left
          ·
           simp only [Act.put, zp1, zp2, zp3, i64_w, i32_w]
           rfl
          refine pure_ (i := 1) (N := some 43) (v := ?_) (a' := ?_) #[true, true, false, false, false, false] rfl rfl (by kernel_rfl) (fun _ _ _ h => h) (Or.inl ⟨by rfl, ?_⟩) ?_ ?_
          rotate_left
          ·
           intro w'
           go_simp
           with_reducible rfl
          rotate_left
          ·
           simp only [Act.put, zp1, zp2, zp3, i64_w, i32_w]
           rfl
          refine pure_ (i := 2) (N := some 44) (v := ?_) (a' := ?_) #[true, true, true, false, false, false] rfl rfl (by kernel_rfl) (fun _ _ _ h => h) (Or.inl ⟨by rfl, ?_⟩) ?_ ?_
          rotate_left
          ·
           intro w'
           go_simp
           with_reducible rfl
          rotate_left
          ·
           simp only [Act.put, zp1, zp2, zp3, i64_w, i32_w]
           rfl
          refine take_ (i := 3) (N := some 45) (v := ?_) (a' := ?_) #[true, true, true, true, false, false] rfl rfl (by kernel_rfl) (fun _ _ _ h => h) (Or.inl ⟨by rfl, ?_⟩) hHeld ?_ ?_
          rotate_left
          ·
           rintro w' ⟨s0, s1, s2, s3⟩
           go_simp
           with_reducible rfl
          rotate_left
          ·
           simp only [Act.put, zp1, zp2, zp3, i64_w, i32_w]
           rfl
          refine take_ (i := 4) (N := some 46) (v := ?_) (a' := ?_) #[true, true, true, true, true, false] rfl rfl (by kernel_rfl) (fun _ _ _ h => h) (Or.inl ⟨by rfl, ?_⟩) hHeld ?_ ?_
          rotate_left
          ·
           rintro w' ⟨s0, s1, s2, s3⟩
           go_simp
           with_reducible rfl
          rotate_left
          ·
           simp only [Act.put, zp1, zp2, zp3, i64_w, i32_w]
           rfl
          refine pure_ (i := 5) (N := some 47) (v := ?_) (a' := ?_) #[true, true, true, true, true, true] rfl rfl (by kernel_rfl) (fun _ _ _ h => h) (Or.inl ⟨by rfl, ?_⟩) ?_ ?_
          rotate_left
          ·
           intro w'
           go_simp
           with_reducible rfl
          rotate_left
          ·
           simp only [Act.put, zp1, zp2, zp3, i64_w, i32_w]
           rfl
          refine done_ (by kernel_rfl) ?_
          try go_wp2
          go_ret3
          exact ⟨_, zw, by first | exact Kd.S_nil _ _ _ _ _ | exact Kd.N_nil _ _ _ _ _ | exact Kd.V_nil _ _ _ _ _ | exact Kd.Q_nil _ _ _ _ _ | exact Kd.R_nil _ _ _ _ _, zb⟩
         ·
          rw [if_neg c48] at H
          have c48b0 : (!((((rd_T33 l1 x12_1).f0).toList) == (((rd_T33 l0 x35_1).f0).toList)) || (!(((rd_T33 l1 x12_1).f1) == ((rd_T33 l0 x35_1).f1)))) = false := by simpa using c48
          clear c48
          have H' := zM H
          clear H
          have p104 : 0 ≤ (x35_1 : Int) := zT zv
          have q104 : x35_1 < (l0.length : Int) := zT zv
          obtain ⟨ad104, e104, hx104_0, hx104_1⟩ := at_T33 HR0.out x35_1 p104 q104
          cases e104
          replace hx104_0 := (HB.out.cell (World.block_lt_of_cell? w _ hx104_0)).trans hx104_0
          replace hx104_1 := (HB.out.cell (World.block_lt_of_cell? w _ hx104_1)).trans hx104_1
          replace p104 := eq_true p104
          replace q104 := eq_true q104
          try go_wp2_with (first | ((with_reducible refine gate_dst (N := 14) rfl ?_); refine box_event ?hg (N := 14) ?hd (cs := #[.string (⟨#[]⟩ : ByteArray), .int .i64 0]) (t := 33) ?hr ?_; (case hd => rfl); (case hg => rfl); (case hr => first | (go_simp; done) | (go_simp; rfl)); intro gb105 hg w53 hbox hb; replace HO_10 := zM (Kd.S_below (Kd.S_elderB (Kd.S_below HO_10.out zg) gb105 (Nat.le_of_eq hg.symm)) hb); replace HO_11 := zM (Kd.P_below (Kd.P_below HO_11.out zg) hb); have BK105 := zM (hbox); have GW105 := zM (zh hg : w.heap.size ≤ gb105); have GE105 := zM (zh hg : w.heap.size ≤ gb105); replace HB := zM (below_step zb hb); clear hb hbox hg; have hcz54_0 : w53.cell? ⟨gb105, 0, none⟩ = some (.string (⟨#[]⟩ : ByteArray)) := (zX BK105.out 0).trans rfl; have hcz54_1 : w53.cell? ⟨gb105, 1, none⟩ = some (.int .i64 0) := (zX BK105.out 1).trans rfl; have hfz54_0 := zY BK105.out 0; have hfz54_1 := zY BK105.out 1) | ((with_reducible refine gate_callee (f := 72) rfl ?_); refine goesL_ (some 40) rfl rfl Tryd.func72 (by kernel_rfl) rfl #[.agg #[.string ((rd_T33 l0 x35_1).f0), .int .i64 ((rd_T33 l0 x35_1).f1)]] rfl zl ?_; (with_reducible refine (match_variable.calls k1 ((rd_T33 l0 x35_1).f0) ((rd_T33 l0 x35_1).f1) false _ A8.out).mono ?_); rintro e w55 ⟨rfl, hb⟩; refine ⟨_, rfl, ?_⟩; replace HO_10 := zM (Kd.S_below (by (with_reducible repeat (first | apply Kd.S_alloc | apply Kd.S_drewN | apply Kd.S_drew)); exact (Kd.S_mono (Kd.S_far (p := ⟨gb105, 1, none⟩) (Kd.S_far (p := ⟨gb105, 0, none⟩) (Kd.S_mono HO_10.out (fun k_ hk => (⟨hk, hk.2⟩ : _ ∧ k_ ≠ gb105))) (fun _ hk => hk.2) (.string ((rd_T33 l0 x35_1).f0))) (fun _ hk => hk.2) (.int .i64 ((rd_T33 l0 x35_1).f1))) (fun _ h_ => h_.1))) hb); replace HO_11 := zM (Kd.P_below (by (with_reducible repeat (first | apply Kd.P_alloc | apply Kd.P_drewN | apply Kd.P_drew)); exact (Kd.P_mono (Kd.P_far (p := ⟨gb105, 1, none⟩) (Kd.P_far (p := ⟨gb105, 0, none⟩) (Kd.P_types HO_11.out BK105.out (by decide)) (fun _ hk => hk.2) (.string ((rd_T33 l0 x35_1).f0))) (fun _ hk => hk.2) (.int .i64 ((rd_T33 l0 x35_1).f1))) (fun _ h_ => h_.1))) hb); replace BK105 := zM (blk_below (g := gb105) (o := .cells #[.string ((rd_T33 l0 x35_1).f0), .int .i64 ((rd_T33 l0 x35_1).f1)] 33 (0, 0)) (by refine zk ?_; refine blk_put (cs := #[.string ((rd_T33 l0 x35_1).f0), .int .i64 0]) ?_ 1 _ rfl; refine zk ?_; refine blk_put (cs := #[.string (⟨#[]⟩ : ByteArray), .int .i64 0]) ?_ 0 _ rfl; refine zk ?_; exact BK105.out) hb); replace HB := zM (below_step zb hb); (try clear hb)))
          have n0_ := zM (Kd.S_drew HO_10.out)
          have n1_ := zM (Kd.P_drew HO_11.out)
          have n2_ := zM (blk_drew BK105.out)
          have n3_ := zM (zD HB.out)
          clear HO_10
          clear HO_11
          clear BK105
          clear HB
          have HO_10 := n0_
          have HO_11 := n1_
          have BK105 := n2_
          have HB := n3_
          clear n0_ n1_ n2_ n3_
          have p107 : 0 ≤ (x12_1 : Int) := zT zv
          have q107 : x12_1 < (l1.length : Int) := zT zv
          obtain ⟨ad107, e107, hx107_0, hx107_1⟩ := at_T33 HR1.out x12_1 p107 q107
          have hw107_1 := hx107_1
          have hw107_0 := hx107_0
          cases e107
          replace hx107_0 := (HB.out.cell (World.block_lt_of_cell? w _ hx107_0)).trans hx107_0
          replace hx107_1 := (HB.out.cell (World.block_lt_of_cell? w _ hx107_1)).trans hx107_1
          replace p107 := eq_true p107
          replace q107 := eq_true q107
          refine start_ (n := 6) (S := fun w' => w'.cell? ⟨gb105, 0, none⟩ = some (.string ((rd_T33 l0 x35_1).f0)) ∧ w'.cell? ⟨gb105, 1, none⟩ = some (.int .i64 ((rd_T33 l0 x35_1).f1)) ∧ w'.cell? (ad107.add ((x12_1).toNat * 2)) = some (.string ((rd_T33 l1 x12_1).f0)) ∧ w'.cell? ⟨(ad107.add ((x12_1).toNat * 2)).block, (ad107.add ((x12_1).toNat * 2)).off + 1, none⟩ = some (.int .i64 ((rd_T33 l1 x12_1).f1))) (ds := []) #[false, false, false, false, false, false] (by kernel_rfl) rfl rfl ⟨(zX BK105.out 0).trans rfl, (zX BK105.out 1).trans rfl, ((HB.out.cell (World.block_lt_of_cell? w _ hw107_0)).trans hw107_0), ((HB.out.cell (World.block_lt_of_cell? w _ hw107_1)).trans hw107_1)⟩ (fun hHeld => ?_)
          generalize w55.drew = w56 at HO_10 HO_11 BK105 HB hx107_0 hx107_1 hHeld ⊢
          refine pure_ (i := 0) (N := some 42) (v := ?_) (a' := ?_) #[true, false, false, false, false, false] rfl rfl (by kernel_rfl) (fun _ _ _ h => h) (Or.inl ⟨by rfl, ?_⟩) ?_ ?_
          rotate_left
          ·
           intro w'
           go_simp
           with_reducible rfl
          rotate_left
          ·
           simp only [Act.put, zp1, zp2, zp3, i64_w, i32_w]
           rfl
          refine pure_ (i := 1) (N := some 43) (v := ?_) (a' := ?_) #[true, true, false, false, false, false] rfl rfl (by kernel_rfl) (fun _ _ _ h => h) (Or.inl ⟨by rfl, ?_⟩) ?_ ?_
          rotate_left
          ·
           intro w'
           go_simp
           with_reducible rfl
          rotate_left
          ·
           simp only [Act.put, zp1, zp2, zp3, i64_w, i32_w]
           rfl
          refine pure_ (i := 2) (N := some 44) (v := ?_) (a' := ?_) #[true, true, true, false, false, false] rfl rfl (by kernel_rfl) (fun _ _ _ h => h) (Or.inl ⟨by rfl, ?_⟩) ?_ ?_
          rotate_left
          ·
           intro w'
           go_simp
           with_reducible rfl
          rotate_left
          ·
           simp only [Act.put, zp1, zp2, zp3, i64_w, i32_w]
           rfl
          refine take_ (i := 3) (N := some 45) (v := ?_) (a' := ?_) #[true, true, true, true, false, false] rfl rfl (by kernel_rfl) (fun _ _ _ h => h) (Or.inl ⟨by rfl, ?_⟩) hHeld ?_ ?_
          rotate_left
          ·
           rintro w' ⟨s0, s1, s2, s3⟩
           go_simp
           with_reducible rfl
          rotate_left
          ·
           simp only [Act.put, zp1, zp2, zp3, i64_w, i32_w]
           rfl
          refine take_ (i := 4) (N := some 46) (v := ?_) (a' := ?_) #[true, true, true, true, true, false] rfl rfl (by kernel_rfl) (fun _ _ _ h => h) (Or.inl ⟨by rfl, ?_⟩) hHeld ?_ ?_
          rotate_left
          ·
           rintro w' ⟨s0, s1, s2, s3⟩
           go_simp
           with_reducible rfl
          rotate_left
          ·
           simp only [Act.put, zp1, zp2, zp3, i64_w, i32_w]
           rfl
          refine pure_ (i := 5) (N := some 47) (v := ?_) (a' := ?_) #[true, true, true, true, true, true] rfl rfl (by kernel_rfl) (fun _ _ _ h => h) (Or.inl ⟨by rfl, ?_⟩) ?_ ?_
          rotate_left
          ·
           intro w'
           go_simp
           with_reducible rfl
          rotate_left
          ·
           simp only [Act.put, zp1, zp2, zp3, i64_w, i32_w]
           rfl
          refine done_ (by kernel_rfl) ?_
          try go_wp2
          go_roundg k1
          case measure => have := HK1.out; omega
          case rel => exact ⟨(x10_1), (x11_1), (wrap64 (x12_1 + 1)), (wrap64 (x35_1 + 1)), zy, zy, H', ⟨by have := HK1.out; omega⟩, ⟨by (with_reducible repeat (first | apply Kd.S_alloc | apply Kd.S_drewN | apply Kd.S_drew)); exact Kd.S_mono HO_10.out (fun _ hk => trivial)⟩, ⟨Kd.P_below HO_11.out zg⟩, ⟨zb⟩⟩
        ·
         rw [if_neg c47] at H
         exact absurd H (by simp)
       ·
        rw [if_neg c46] at H
        exact absurd H (by simp)
     ·
      rw [if_neg c7] at H
      exact absurd H (by simp)
    ·
     rw [if_neg c6] at H
     exact absurd H (by simp)
   ·
    rw [if_neg c5] at H
    have c5b0 : decide (x35_1 < (l0.length : Int)) = false := zR c5
    clear c5
    simp only [Option.some.injEq, Prod.mk.injEq] at H
    obtain ⟨rfl, rfl, rfl⟩ := H
    go_wp2
    go_ret3
    exact ⟨_, zw, Kd.S_below HO_10.out zg, zb⟩

end Go.Proofs.YtpnamhplhdaphaaDoor.P
