/- MatchFinds: the law answers true at every input that the given row speaks of. Conditions: those of the given row, none besides. (Part 3 of 4; written by programs of this session, which drive the kit's print, and by hand.) -/
import Derived.Test.YtlfhonekcmlomaaZMatchFinds0
import Derived.Test.YtlfhonekcmlomaaZMatchFinds1
-- ==== PF27
namespace Go.Proofs.Ytlfhonekcmlomaa.P
open Go.RowKit Go.Proofs.YtlfhonekcmlomaaW.PrintWords Go.Proofs.YtlfhonekcmlomaaW.PrintLast Go.Proofs.YtlfhonekcmlomaaW.PrintMore
attribute [local go_sem] max2_int min2_int max_two min_two max_three min_three max_four min_four   -- for this text's walks alone
set_option linter.unusedVariables false
set_option linter.unusedSimpArgs false

attribute [local go_sem high] eqA47
/-! ### aumbryref05_Fit: function 27 -/
mutual
def aumbryref05_Fit.l0 : Nat → List (S44) → List (List (S47)) → List (List (S47)) → Int → Int → Option ((List (S44)) × Bool)
  | 0, _, _, _, _, _ => none
  | k + 1, x2, x9, x10, x54, x55 => if x55 < x54 then (if 0 ≤ x55 then (if x55 < (x9.length : Int) then (if x55 < (x10.length : Int) then ((aumbryref05_Fit.f k (rd_L3 x9 x55) (rd_L3 x10 x55) x2).bind fun bt123 => (if bt123.2 = true then (aumbryref05_Fit.l0 k bt123.1 x9 x10 x54 (wrap64 (x55 + 1))) else (some (([] : List (S44)), false)))) else (none)) else (none)) else (none)) else (some (x2, true))
def aumbryref05_Fit.f : Nat → List (S47) → List (S47) → List (S44) → Option ((List (S44)) × Bool)
  | 0, _, _, _ => none
  | k + 1, l0, l1, l2 => (aumbryref05_Var.f k l0).bind fun t101 => (if t101 = true then (if 0 < (l0.length : Int) then ((aumbryref05_At.f k l2 ((rd_T47 l0 0).f0)).bind fun t103 => (if t103 < 0 then ((aumbryref04_Copy.f l1).bind fun t105 => (if l2.length < 3518437208883 then (some ((l2 ++ [(⟨(rd_T47 l0 0).f0, t105⟩ : S44)]), true)) else (none))) else (if 0 ≤ t103 then (if t103 < (l2.length : Int) then ((aumbryref04_Same.f k ((rd_T44 l2 t103).f1) l1).bind fun t112 => (some (l2, t112))) else (none)) else (none)))) else (none)) else (if 0 < (l0.length : Int) then (if 0 < (l1.length : Int) then (if (!((((rd_T47 l0 0).f0).toList) == (((rd_T47 l1 0).f0).toList)) || (!(((rd_T47 l0 0).f1) == ((rd_T47 l1 0).f1)))) = true then (some (([] : List (S44)), false)) else ((aumbryref04_Kids.f k l0).bind fun t115 => ((aumbryref04_Kids.f k l1).bind fun t118 => (aumbryref05_Fit.l0 k l2 t115 t118 (t115.length : Int) 0)))) else (none)) else (none)))
end
theorem aumbryref05_Fit.mono_l : ∀ k, (∀ y0 y1 y2, LeO (aumbryref05_Fit.f k y0 y1 y2) (aumbryref05_Fit.f (k + 1) y0 y1 y2)) ∧ (∀ y0 y1 y2 y3 y4, LeO (aumbryref05_Fit.l0 k y0 y1 y2 y3 y4) (aumbryref05_Fit.l0 (k + 1) y0 y1 y2 y3 y4))
  | 0 => ⟨fun _ _ _ r h => by simp [aumbryref05_Fit.f] at h, fun _ _ _ _ _ r h => by simp [aumbryref05_Fit.l0] at h⟩
  | k + 1 => by
    obtain ⟨ih0, ih1⟩ := aumbryref05_Fit.mono_l k
    refine ⟨?_, ?_⟩
    · intro y0 y1 y2
      unfold aumbryref05_Fit.f
      repeat' first
      | (with_reducible exact ih0 _ _ _)
      | (with_reducible exact ih1 _ _ _ _ _)
      | (with_reducible exact aumbryref04_Kids.mono _ _)
      | (with_reducible exact aumbryref04_Same.mono _ _ _)
      | (with_reducible exact aumbryref05_At.mono _ _ _)
      | (with_reducible exact aumbryref05_Var.mono _ _)
      | (with_reducible exact LeO.refl _)
      | (with_reducible exact LeO.none _)
      | (with_reducible refine LeO.ite ?_ ?_)
      | (with_reducible refine LeO.bind ?_ (fun _ => ?_))
      | exact ih0 _ _ _
      | exact ih1 _ _ _ _ _
      | exact aumbryref04_Kids.mono _ _
      | exact aumbryref04_Same.mono _ _ _
      | exact aumbryref05_At.mono _ _ _
      | exact aumbryref05_Var.mono _ _
      | exact LeO.none _
      | refine LeO.ite ?_ ?_
      | refine LeO.bind ?_ (fun _ => ?_)
    · intro y0 y1 y2 y3 y4
      unfold aumbryref05_Fit.l0
      repeat' first
      | (with_reducible exact ih0 _ _ _)
      | (with_reducible exact ih1 _ _ _ _ _)
      | (with_reducible exact aumbryref04_Kids.mono _ _)
      | (with_reducible exact aumbryref04_Same.mono _ _ _)
      | (with_reducible exact aumbryref05_At.mono _ _ _)
      | (with_reducible exact aumbryref05_Var.mono _ _)
      | (with_reducible exact LeO.refl _)
      | (with_reducible exact LeO.none _)
      | (with_reducible refine LeO.ite ?_ ?_)
      | (with_reducible refine LeO.bind ?_ (fun _ => ?_))
      | exact ih0 _ _ _
      | exact ih1 _ _ _ _ _
      | exact aumbryref04_Kids.mono _ _
      | exact aumbryref04_Same.mono _ _ _
      | exact aumbryref05_At.mono _ _ _
      | exact aumbryref05_Var.mono _ _
      | exact LeO.none _
      | refine LeO.ite ?_ ?_
      | refine LeO.bind ?_ (fun _ => ?_)
theorem aumbryref05_Fit.mono : ∀ a0 a1 a2 k, LeO (aumbryref05_Fit.f k a0 a1 a2) (aumbryref05_Fit.f (k + 1) a0 a1 a2) := by
  intro a0 a1 a2 k
  obtain ⟨ih0, ih1⟩ := aumbryref05_Fit.mono_l k
  exact ih0 a0 a1 a2
def aumbryref05_Fit.T4 : Bool × List (List Nat × List Nat) := (true, [([], []), ([], []), ([1], [1]), ([2], [2]), ([3], [3]), ([], []), ([5], [5]), ([4, 6], [4, 6]), ([7], [7]), ([0, 8, 6], [0, 8]), ([9, 9, 0, 1, 2, 3, 4, 5, 6, 7, 8, 9], [9]), ([10, 0, 1, 2, 3, 4, 5, 6, 7, 8, 9, 10], [])])
def aumbryref05_Fit.B4 : List Nat := [0, 0, 2, 6, 14, 0, 32, 126, 254, 511, 1023, 2047]
theorem aumbryref05_Fit.tab4 : rtab .any (opsOf Try.f27 4) = aumbryref05_Fit.T4 := by kernel_rfl
theorem aumbryref05_Fit.bits4 : waitsOk aumbryref05_Fit.T4.2 aumbryref05_Fit.B4 = true := by kernel_rfl
def aumbryref05_Fit.T12 : Bool × List (List Nat × List Nat) := (true, [([], []), ([], []), ([0, 1], [0, 1]), ([2], [2]), ([], []), ([], []), ([4, 5], [4, 5]), ([6], [6]), ([], []), ([3, 7, 8], [3, 7, 8]), ([9], [9]), ([10], [10]), ([10], [10]), ([11, 9, 0, 1, 2, 3, 4, 5, 6, 7, 8, 9, 10, 11], [11]), ([12, 13, 0, 1, 2, 3, 4, 5, 6, 7, 8, 9, 10, 11, 12, 13], [12])])
def aumbryref05_Fit.B12 : List Nat := [0, 0, 3, 7, 0, 0, 48, 112, 0, 511, 1023, 2047, 2047, 4095, 16383]
theorem aumbryref05_Fit.tab12 : rtab .any (opsOf Try.f27 12) = aumbryref05_Fit.T12 := by kernel_rfl
theorem aumbryref05_Fit.bits12 : waitsOk aumbryref05_Fit.T12.2 aumbryref05_Fit.B12 = true := by kernel_rfl
set_option maxHeartbeats 8000000 in
set_option maxRecDepth 100000 in
theorem aumbryref05_Fit.callsN (k : Nat) : ∀ (A0 : Option Addr) (c0 : Nat) (l0 : List (S47)) (A1 : Option Addr) (c1 : Nat) (l1 : List (S47)) (P2_ PQ_ : Nat → Prop) (u9000_ : Value) (l2 : List (S44)) (r1 : List (S44)) (r2 : Bool) (w0 w : World) (hB : Below w0.heap.size w0 w) (hr0 : ∀ W_, Kept w W_ (fun k_ => P2_ k_) → Kd.C k47 W_ A0 l0.length l0) (hc0 : l0.length ≤ c0) (hr1 : ∀ W_, Kept w W_ (fun k_ => P2_ k_) → Kd.C k47 W_ A1 l1.length l1) (hc1 : l1.length ≤ c1) (ho2 : Kd.S k44 44 w w0.heap.size PQ_ u9000_ l2) (hu2 : ∀ k_ : Nat, (u9000_ : Value).ownBlock = some k_ → P2_ k_) (h : aumbryref05_Fit.f k l0 l1 l2 = some (r1, r2)),
    Calls Try.prog 27 #[.slice A0 l0.length c0, .slice A1 l1.length c1, u9000_] w fun e w' => ∃ v0_ : Value, e = .returned (.tuple #[v0_, .bool r2]) ∧ Kd.S k44 44 w' w0.heap.size (fun k_ => (PQ_ k_ ∨ w.heap.size ≤ k_)) v0_ r1 ∧ Below w0.heap.size w0 w' ∧ Kept w w' (fun k_ => P2_ k_) ∧ (∀ k_ : Nat, (v0_ : Value).ownBlock = some k_ → P2_ k_ ∨ w.heap.size ≤ k_) := by
  induction k using Nat.strongRecOn with
  | _ k ih =>
  intro A0 c0 l0 A1 c1 l1 P2_ PQ_ u9000_ l2 r1 r2 w0 w hB hr0 hc0 hr1 hc1 ho2 hu2 h
  cases k with
  | zero => exact absurd h (by simp [aumbryref05_Fit.f])
  | succ k =>
  simp only [aumbryref05_Fit.f] at h
  have hu44 := Try.underlying44
  have hu47 := Try.underlying47
  have HR0 := Aside0.mk hr0
  have HC0 := Aside0.mk hc0
  clear hr0 hc0
  have HR1 := Aside0.mk hr1
  have HC1 := Aside0.mk hc1
  clear hr1 hc1
  have HO2 := Aside0.mk (show Kd.S k44 44 w w0.heap.size (fun k_ => (PQ_ k_ ∨ w.heap.size ≤ k_)) u9000_ l2 from Kd.S_mono ho2 (fun k_ hk => (.inl hk)))
  have HV := Aside0.mk (show ∀ k_ : Nat, (u9000_ : Value).ownBlock = some k_ → P2_ k_ ∨ w.heap.size ≤ k_ from fun k_ e_ => .inl (hu2 k_ e_))
  clear hu2
  have HK := Aside0.mk (Kept.refl w (fun k_ => P2_ k_))
  have HW0 := Aside0.mk hB.size
  have HB := Aside0.mk hB
  clear hB
  have H : ((aumbryref05_Var.f k l0).bind fun t101 => (if t101 = true then (if 0 < (l0.length : Int) then ((aumbryref05_At.f k l2 ((rd_T47 l0 0).f0)).bind fun t103 => (if t103 < 0 then ((aumbryref04_Copy.f l1).bind fun t105 => (if l2.length < 3518437208883 then (some ((l2 ++ [(⟨(rd_T47 l0 0).f0, t105⟩ : S44)]), true)) else (none))) else (if 0 ≤ t103 then (if t103 < (l2.length : Int) then ((aumbryref04_Same.f k ((rd_T44 l2 t103).f1) l1).bind fun t112 => (some (l2, t112))) else (none)) else (none)))) else (none)) else (if 0 < (l0.length : Int) then (if 0 < (l1.length : Int) then (if (!((((rd_T47 l0 0).f0).toList) == (((rd_T47 l1 0).f0).toList)) || (!(((rd_T47 l0 0).f1) == ((rd_T47 l1 0).f1)))) = true then (some (([] : List (S44)), false)) else ((aumbryref04_Kids.f k l0).bind fun t115 => ((aumbryref04_Kids.f k l1).bind fun t118 => (aumbryref05_Fit.l0 k l2 t115 t118 (t115.length : Int) 0)))) else (none)) else (none)))) = some (r1, r2) := h
  clear h
  replace H := Option.bind_eq_some_iff.mp H
  obtain ⟨t101, A40, H⟩ := H
  replace H : (if t101 = true then (if 0 < (l0.length : Int) then ((aumbryref05_At.f k l2 ((rd_T47 l0 0).f0)).bind fun t103 => (if t103 < 0 then ((aumbryref04_Copy.f l1).bind fun t105 => (if l2.length < 3518437208883 then (some ((l2 ++ [(⟨(rd_T47 l0 0).f0, t105⟩ : S44)]), true)) else (none))) else (if 0 ≤ t103 then (if t103 < (l2.length : Int) then ((aumbryref04_Same.f k ((rd_T44 l2 t103).f1) l1).bind fun t112 => (some (l2, t112))) else (none)) else (none)))) else (none)) else (if 0 < (l0.length : Int) then (if 0 < (l1.length : Int) then (if (!((((rd_T47 l0 0).f0).toList) == (((rd_T47 l1 0).f0).toList)) || (!(((rd_T47 l0 0).f1) == ((rd_T47 l1 0).f1)))) = true then (some (([] : List (S44)), false)) else ((aumbryref04_Kids.f k l0).bind fun t115 => ((aumbryref04_Kids.f k l1).bind fun t118 => (aumbryref05_Fit.l0 k l2 t115 t118 (t115.length : Int) 0)))) else (none)) else (none))) = some (r1, r2) := H
  have A4 := Aside0.mk A40
  clear A40
  by_cases c5 : t101 = true
  · subst c5
    have H1 : (if 0 < (l0.length : Int) then ((aumbryref05_At.f k l2 ((rd_T47 l0 0).f0)).bind fun t103 => (if t103 < 0 then ((aumbryref04_Copy.f l1).bind fun t105 => (if l2.length < 3518437208883 then (some ((l2 ++ [(⟨(rd_T47 l0 0).f0, t105⟩ : S44)]), true)) else (none))) else (if 0 ≤ t103 then (if t103 < (l2.length : Int) then ((aumbryref04_Same.f k ((rd_T44 l2 t103).f1) l1).bind fun t112 => (some (l2, t112))) else (none)) else (none)))) else (none)) = some (r1, r2) := by rw [if_pos rfl] at H; exact H
    clear H
    have H := H1
    clear H1
    by_cases c6 : 0 < (l0.length : Int)
    · rw [if_pos c6] at H
      have c6b0 : decide (0 < (l0.length : Int)) = true := decide_eq_true c6
      have c6b1 : decide (0 < l0.length) = true := decide_eq_true (by omega)
      clear c6
      replace H := Option.bind_eq_some_iff.mp H
      obtain ⟨t103, A70, H⟩ := H
      replace H : (if t103 < 0 then ((aumbryref04_Copy.f l1).bind fun t105 => (if l2.length < 3518437208883 then (some ((l2 ++ [(⟨(rd_T47 l0 0).f0, t105⟩ : S44)]), true)) else (none))) else (if 0 ≤ t103 then (if t103 < (l2.length : Int) then ((aumbryref04_Same.f k ((rd_T44 l2 t103).f1) l1).bind fun t112 => (some (l2, t112))) else (none)) else (none))) = some (r1, r2) := H
      have A7 := Aside0.mk A70
      clear A70
      by_cases c8 : t103 < 0
      · rw [if_pos c8] at H
        have c8b0 : decide (t103 < 0) = true := decide_eq_true c8
        clear c8
        replace H := Option.bind_eq_some_iff.mp H
        obtain ⟨t105, A90, H⟩ := H
        replace H : (if l2.length < 3518437208883 then (some ((l2 ++ [(⟨(rd_T47 l0 0).f0, t105⟩ : S44)]), true)) else (none)) = some (r1, r2) := H
        have A9 := Aside0.mk A90
        clear A90
        by_cases c10 : l2.length < 3518437208883
        · rw [if_pos c10] at H
          have LMc10 := Aside0.mk c10
          clear c10
          obtain ⟨y108, hy108⟩ : ∃ y_ : List (S44), y_ = (l2 ++ [(⟨(rd_T47 l0 0).f0, t105⟩ : S44)]) := ⟨_, rfl⟩
          replace H : (some (y108, true)) = some (r1, r2) := by first | (rw [hy108]; with_reducible exact H) | (have H2_ := (Option.bind_some _ _).symm.trans H; rw [hy108]; with_reducible exact H2_) | (have H2_ := (Option.bind_some _ _).symm.trans H; with_reducible exact H2_) | with_reducible exact H | (rw [hy108]; exact H) | exact H
          have Ny108 := Aside0.mk hy108
          clear hy108
          simp only [Option.some.injEq, Prod.mk.injEq] at H
          obtain ⟨rfl, rfl⟩ := H
          go_enter Try.func27, Try.ntmps27
          try go_wp2_with (first | ((with_reducible refine gate_callee (f := 35) rfl ?_); refine goesL_ (some 15) rfl rfl Try.func35 (by kernel_rfl) rfl #[.slice A0 l0.length c0] rfl (by (try simp only [List.map_toArray, List.map_cons, List.map_nil]); first | done | rfl | (simp only [List.length_drop, List.length_take]; rfl)) ?_; (with_reducible refine (aumbryref05_Var.calls k _ _ l0 true _ ?side1 ?side2 A4.out).mono ?_); (case side1 => exact Kd.C_kept_now HR0.out (by repeat (first | (with_reducible first | exact HK.out | apply Kept.alloc | apply Kept.drewN | apply Kept.drew) | exact HK.out))); (case side2 => exact HC0.out); rintro e w' ⟨rfl, ⟨nd, rfl⟩⟩; refine ⟨_, rfl, ?_⟩; have p102 : 0 ≤ (0 : Int) := (by omega); have q102 : 0 < (l0.length : Int) := of_decide_eq_true (by first | (with_reducible assumption) | assumption); obtain ⟨ad102, e102, hx102_0, hx102_1⟩ := at_T47 (Kd.C_kept_now HR0.out HK.out) 0 p102 q102; cases e102; have qi102 : (0 < l0.length) = True := eq_true (by omega); (try rw [show ((0 : Int)).toNat = 0 from rfl] at hx102_0); (try rw [show 0 * 2 = 0 from rfl] at hx102_0); (try rw [Addr.add_zero'] at hx102_0); (try rw [show ((0 : Int)).toNat = 0 from rfl] at hx102_1); (try rw [show 0 * 2 = 0 from rfl] at hx102_1); (try rw [Addr.add_zero'] at hx102_1); replace p102 := eq_true p102; replace q102 := eq_true q102; obtain ⟨Ao11, co11, eo11⟩ := Kd.S_slice HO2.out; subst eo11) | ((with_reducible refine gate_callee (f := 19) rfl ?_); refine goesL_ (some 21) rfl rfl Try.func19 (by kernel_rfl) rfl #[.slice Ao11 l2.length co11, .string ((rd_T47 l0 0).f0)] rfl (by (try simp only [List.map_toArray, List.map_cons, List.map_nil]); first | done | rfl | (simp only [List.length_drop, List.length_take]; rfl)) ?_; (with_reducible refine (aumbryref05_At.calls k _ _ l2 ((rd_T47 l0 0).f0) t103 _ ?side1 ?side2 A7.out).mono ?_); (case side1 => repeat (first | exact (Kd.S_reads' HO2.out).2.2 | (with_reducible refine Kd.C_alloc ?_ _) | (with_reducible refine Kd.C_drewN ?_ _) | (with_reducible refine Kd.C_drew ?_))); (case side2 => exact (Kd.S_reads' HO2.out).2.1); rintro e w' ⟨rfl, ⟨nd, rfl⟩⟩; refine ⟨_, rfl, ?_⟩))
          (try (rw [drewN_self w]; generalize hq_ : World.drewN w _ = wz; have n0_ : Aside0 (Kd.S k44 44 wz w0.heap.size (fun k_ => (PQ_ k_ ∨ w.heap.size ≤ k_)) (.slice Ao11 l2.length co11) l2) := ⟨by rw [← hq_]; exact (by (with_reducible repeat (first | apply Kd.S_alloc | apply Kd.S_drewN | apply Kd.S_drew)); exact HO2.out)⟩; have n1_ : Aside0 (Kept w wz (fun k_ => P2_ k_)) := ⟨by rw [← hq_]; exact (by repeat (first | (with_reducible first | exact HK.out | apply Kept.alloc | apply Kept.drewN | apply Kept.drew) | exact HK.out))⟩; have n2_ : Aside0 (Below w0.heap.size w0 wz) := ⟨by rw [← hq_]; exact (by repeat (first | (with_reducible first | exact HB.out | apply below_alloc | apply pw_below_drewN | apply below_drew1) | exact HB.out))⟩; clear HO2 HK HB hq_; have HO2 := n0_; have HK := n1_; have HB := n2_; clear n0_ n1_ n2_))
          have n0_ := Aside0.mk (Kd.S_drew HO2.out)
          have n1_ := Aside0.mk (Kept.drew HK.out)
          have n2_ := Aside0.mk (below_drew1 HB.out)
          clear HO2
          clear HK
          clear HB
          have HO2 := n0_
          have HK := n1_
          have HB := n2_
          clear n0_ n1_ n2_
          have p104 : 0 ≤ (0 : Int) := (by omega)
          have q104 : 0 < (l0.length : Int) := of_decide_eq_true (by first | (with_reducible assumption) | assumption)
          obtain ⟨ad104, e104, hx104_0, hx104_1⟩ := at_T47 (Kd.C_kept_now HR0.out HK.out) 0 p104 q104
          have hw104_1 := hx104_1
          (try rw [show ((0 : Int)).toNat = 0 from rfl] at hw104_1)
          (try rw [show 0 * 2 = 0 from rfl] at hw104_1)
          (try rw [Addr.add_zero'] at hw104_1)
          have hw104_0 := hx104_0
          (try rw [show ((0 : Int)).toNat = 0 from rfl] at hw104_0)
          (try rw [show 0 * 2 = 0 from rfl] at hw104_0)
          (try rw [Addr.add_zero'] at hw104_0)
          obtain rfl : ad102 = ad104 := (by injection e104)
          have qi104 : (0 < l0.length) = True := eq_true (by omega)
          (try rw [show ((0 : Int)).toNat = 0 from rfl] at hx104_0)
          (try rw [show 0 * 2 = 0 from rfl] at hx104_0)
          (try rw [Addr.add_zero'] at hx104_0)
          (try rw [show ((0 : Int)).toNat = 0 from rfl] at hx104_1)
          (try rw [show 0 * 2 = 0 from rfl] at hx104_1)
          (try rw [Addr.add_zero'] at hx104_1)
          replace p104 := eq_true p104
          replace q104 := eq_true q104
          refine start_ (n := 12) (S := fun w' => w'.cell? ad102 = some (.string ((rd_T47 l0 0).f0)) ∧ w'.cell? ⟨ad102.block, ad102.off + 1, none⟩ = some (.int .i64 ((rd_T47 l0 0).f1))) (ds := [8, 9]) #[false, false, false, false, false, false, false, false, false, false, false, false] (by kernel_rfl) rfl rfl ⟨hx104_0, hx104_1⟩ (fun hHeld => ?_); refine with_tabW aumbryref05_Fit.tab4 aumbryref05_Fit.bits4 (fun HT_ HW_ => ?_)
          generalize wz.drew = w12 at HO2 HK HB hx104_0 hx104_1 hHeld ⊢
          refine pure_ (i := 0) (N := some 24) (v := ?_) (a' := ?_) #[true, false, false, false, false, false, false, false, false, false, false, false] rfl rfl (any_of HT_.out (by kernel_rfl)) (fun _ _ _ h => h) (Or.inl ⟨by rfl, ?_⟩) ?_ ?_
          rotate_left
          · intro w'
            go_simp
            with_reducible rfl
          rotate_left
          · simp only [Act.put, List.setIfInBounds_toArray, List.set_cons_zero, List.set_cons_succ, i64_w, i32_w]
            rfl
          refine pure_ (i := 1) (N := some 25) (v := ?_) (a' := ?_) #[true, true, false, false, false, false, false, false, false, false, false, false] rfl rfl (any_of HT_.out (by kernel_rfl)) (fun _ _ _ h => h) (Or.inl ⟨by rfl, ?_⟩) ?_ ?_
          rotate_left
          · intro w'
            go_simp
            with_reducible rfl
          rotate_left
          · simp only [Act.put, List.setIfInBounds_toArray, List.set_cons_zero, List.set_cons_succ, i64_w, i32_w]
            rfl
          refine pure_ (i := 2) (N := some 26) (v := ?_) (a' := ?_) #[true, true, true, false, false, false, false, false, false, false, false, false] rfl rfl (any_of HT_.out (by kernel_rfl)) (fun _ _ _ h => h) (Or.inl ⟨by rfl, ?_⟩) ?_ ?_
          rotate_left
          · intro w'
            go_simp
            with_reducible rfl
          rotate_left
          · simp only [Act.put, List.setIfInBounds_toArray, List.set_cons_zero, List.set_cons_succ, i64_w, i32_w]
            rfl
          refine pure_ (i := 3) (N := some 27) (v := ?_) (a' := ?_) #[true, true, true, true, false, false, false, false, false, false, false, false] rfl rfl (any_of HT_.out (by kernel_rfl)) (fun _ _ _ h => h) (Or.inl ⟨by rfl, ?_⟩) ?_ ?_
          rotate_left
          · intro w'
            go_simp
            with_reducible rfl
          rotate_left
          · simp only [Act.put, List.setIfInBounds_toArray, List.set_cons_zero, List.set_cons_succ, i64_w, i32_w]
            rfl
          refine pure_ (i := 5) (N := some 29) (v := ?_) (a' := ?_) #[true, true, true, true, false, true, false, false, false, false, false, false] rfl rfl (any_of HT_.out (by kernel_rfl)) (fun _ _ _ h => h) (Or.inl ⟨by rfl, ?_⟩) ?_ ?_
          rotate_left
          · intro w'
            go_simp
            with_reducible rfl
          rotate_left
          · simp only [Act.put, List.setIfInBounds_toArray, List.set_cons_zero, List.set_cons_succ, i64_w, i32_w]
            rfl
          refine take_ (i := 4) (N := some 28) (v := ?_) (a' := ?_) #[true, true, true, true, true, true, false, false, false, false, false, false] rfl rfl (take_ofW HT_.out HW_.out (by kernel_rfl)) (fun _ _ _ h => h) (Or.inl ⟨by rfl, ?_⟩) hHeld ?_ ?_
          rotate_left
          · rintro w' ⟨s0, s1⟩
            go_simp
            with_reducible rfl
          rotate_left
          · simp only [Act.put, List.setIfInBounds_toArray, List.set_cons_zero, List.set_cons_succ, i64_w, i32_w]
            rfl
          refine one_ (i := 6) (N := some 30) #[true, true, true, true, true, true, true, false, false, false, false, false] rfl rfl (one_of HT_.out (by kernel_rfl)) (by decide) (fun K hK => ?_)
          refine goes_ Try.func25 (by kernel_rfl) rfl #[.slice A1 l1.length c1] (by rfl) rfl rfl (by (try simp only [List.map_toArray, List.map_cons, List.map_nil]); first | done | rfl | (simp only [List.length_drop, List.length_take]; rfl)) ?_
          with_reducible refine (aumbryref04_Copy.calls _ _ l1 t105 _ ?side1 ?side2 A9.out).mono ?_
          (case side1 => exact Kd.C_kept_now HR1.out (by repeat (first | (with_reducible first | exact HK.out | apply Kept.alloc | apply Kept.drewN | apply Kept.drew) | exact HK.out)))
          (case side2 => exact HC1.out)
          rintro e w13 ⟨v106, rfl, ho0, hb⟩
          have HS0_ := (hb.cell (World.block_lt_of_cell? _ _ (hHeld.1))).trans (hHeld.1)
          have HS1_ := (hb.cell (World.block_lt_of_cell? _ _ (hHeld.2))).trans (hHeld.2)
          refine ⟨_, rfl, ?_⟩
          have n0_ := Aside0.mk (Kd.S_elder' (by (with_reducible repeat (first | apply Kd.S_alloc | apply Kd.S_drewN | apply Kd.S_drew)); exact HO2.out) (Kd.R_base ho0) hb)
          have n1_ := Aside0.mk (Kd.R_lower (Kd.R_newM (M := fun k_ => (PQ_ k_ ∨ w.heap.size ≤ k_)) ho0 (by first | exact HK.out.1 | exact (show Kept w _ (fun k_ => P2_ k_) from by repeat (first | (with_reducible first | exact HK.out | apply Kept.alloc | apply Kept.drewN | apply Kept.drew) | exact HK.out)).1) (fun k_ h_ => .inr h_)) (below_size (by repeat (first | (with_reducible first | exact HB.out | apply below_alloc | apply pw_below_drewN | apply below_drew1) | exact HB.out))))
          have n2_ := Aside0.mk (Kept.below (S := (fun k_ => P2_ k_)) (by repeat (first | (with_reducible first | exact HK.out | apply Kept.alloc | apply Kept.drewN | apply Kept.drew) | exact HK.out)) hb)
          have n3_ := Aside0.mk (below_step (by repeat (first | (with_reducible first | exact HB.out | apply below_alloc | apply pw_below_drewN | apply below_drew1) | exact HB.out)) hb)
          clear HO2
          clear HK
          clear HB
          have HO2 := n0_
          have HO107 := n1_
          have HK := n2_
          have HB := n3_
          clear n0_ n1_ n2_ n3_
          (try clear hb)
          (try clear hb2)
          (try clear hk)
          (try clear hi)
          (try clear ho0)
          obtain ⟨Ao14, co14, eo14⟩ := Kd.R_slice HO107.out
          (first | subst eo14 | (injection eo14 with f1_ f2_ f3_; have f4_ := f1_.symm; have f5_ := f3_.symm; clear f1_ f2_ f3_; subst f4_; subst f5_))
          refine hK.out _ _ ⟨HS0_, HS1_⟩ (fun hHeld => ?_)
          clear hK K
          refine norm_ (a' := ?_) ?_ ?_
          rotate_left
          · show Act.put _ (some 30) _ = _
            simp only [Act.put, List.setIfInBounds_toArray, List.set_cons_zero, List.set_cons_succ, i64_w, i32_w]
            rfl
          refine pure_ (i := 7) (N := some 31) (v := ?_) (a' := ?_) #[true, true, true, true, true, true, true, true, false, false, false, false] rfl rfl (any_of HT_.out (by kernel_rfl)) (fun _ _ _ h => h) (Or.inl ⟨by rfl, ?_⟩) ?_ ?_
          rotate_left
          · intro w'
            go_simp
            with_reducible rfl
          rotate_left
          · simp only [Act.put, List.setIfInBounds_toArray, List.set_cons_zero, List.set_cons_succ, i64_w, i32_w]
            rfl
          refine last_ (i := 8) (N := some 32) #[true, true, true, true, true, true, true, true, true, false, false, false] rfl rfl (one_of HT_.out (by kernel_rfl)) (by decide) (fun K hK => ?_)
          refine value_ (w1 := ?_) (v := ?_) (by rfl) rfl ?_ ?_
          rotate_left 2
          · go_simp
            constructor
            · rfl
            · rfl
          refine hK.out _ _ ?_
          clear hK K
          refine norm_ (a' := ?_) ?_ ?_
          rotate_left
          · show Act.put _ (some 32) _ = _
            simp only [Act.put, List.setIfInBounds_toArray, List.set_cons_zero, List.set_cons_succ, i64_w, i32_w]
            rfl
          refine last_ (i := 9) (N := some 33) #[true, true, true, true, true, true, true, true, true, true, false, false] rfl rfl (one_of HT_.out (by kernel_rfl)) (by decide) (fun K hK => ?_)
          refine Kd.S_append_step k44 (w0 := w0) w0.heap.size (by rfl) (.tmp 24) (.tmp 32) 25 44 (.agg #[(.string ⟨#[]⟩), (.slice none 0 0)]) 40 rfl Try.underlying25 info44 rfl (by decide) (by omega) (.slice Ao11 l2.length co11) l2 (⟨(rd_T47 l0 0).f0, t105⟩ : S44) [.string ((rd_T47 l0 0).f0), .slice Ao14 t105.length co14] (fun k_ => (PQ_ k_ ∨ w.heap.size ≤ k_)) (fun k_ => some k_ = (.slice Ao14 t105.length co14 : Value).ownBlock) rfl rfl ?aP (fun k_ hk_ => ((Kd.R_mono (ok' := fun k_ => ((fun k_ => (PQ_ k_ ∨ w.heap.size ≤ k_))) k_ ∧ some k_ ≠ (.slice Ao11 l2.length co11 : Value).ownBlock) (Kd.R_apart' (HO107.out) (Kd.S_typed HO2.out) (by decide)) (fun k_ hk => ⟨hk.1.1, hk.2⟩))).1 k_ hk_.symm) ?aF ?aO ?aB ?aS ?aL ?_
          (case aP => exact k44_mkM _ _ _ (⟨(rd_T47 l0 0).f0, t105⟩ : S44) (Kd.R_mono (Kd.R_tight rfl (Kd.R_mono (ok' := fun k_ => ((fun k_ => (PQ_ k_ ∨ w.heap.size ≤ k_))) k_ ∧ some k_ ≠ (.slice Ao11 l2.length co11 : Value).ownBlock) (Kd.R_apart' (HO107.out) (Kd.S_typed HO2.out) (by decide)) (fun k_ hk => ⟨hk.1.1, hk.2⟩))) (fun _ h_ => h_)))
          (case aB => exact (by repeat (first | (with_reducible first | exact HB.out | apply below_alloc | apply pw_below_drewN | apply below_drew1) | exact HB.out)))
          (case aF => exact (fun k_ hk => (.inr (Nat.le_trans (by first | exact HK.out.1 | exact (show Kept w _ (fun k_ => P2_ k_) from by repeat (first | (with_reducible first | exact HK.out | apply Kept.alloc | apply Kept.drewN | apply Kept.drew) | exact HK.out)).1) hk))))
          (case aO => exact (by (with_reducible repeat (first | apply Kd.S_alloc | apply Kd.S_drewN | apply Kd.S_drew)); exact Kd.S_mono HO2.out (fun k_ hk => ⟨hk.1, fun e_ => hk.2 e_⟩)))
          (case aS => exact (below_size (by repeat (first | (with_reducible first | exact HB.out | apply below_alloc | apply pw_below_drewN | apply below_drew1) | exact HB.out))))
          (case aL => have := LMc10.out; omega)
          intro v109 w15 ho hb hg hat
          have nv_ := Aside0.mk (show ∀ k_ : Nat, (v109 : Value).ownBlock = some k_ → P2_ k_ ∨ w.heap.size ≤ k_ from fun k_ e_ => hat.elim (fun h_ => HV.out k_ (h_ ▸ e_)) (fun ⟨b_, h1_, h2_⟩ => .inr (by rw [h1_] at e_; injection e_ with e_; subst e_; exact Nat.le_trans (show Kept w _ (fun k_ => P2_ k_) from by repeat (first | (with_reducible first | exact HK.out | apply Kept.alloc | apply Kept.drewN | apply Kept.drew) | exact HK.out)).1 h2_)))
          have HV2 := nv_
          rw [← Ny108.out] at ho
          have n0_ := Aside0.mk (hb)
          have n1_ := Aside0.mk (Kept.of_grown (S := (fun k_ => P2_ k_)) hg (by repeat (first | (with_reducible first | exact HK.out | apply Kept.alloc | apply Kept.drewN | apply Kept.drew) | exact HK.out)) (fun k_ e_ => HV.out k_ e_))
          have n2_ := Aside0.mk (ho)
          clear HB
          clear HK
          clear HO2
          clear HO107
          have HB := n0_
          have HK := n1_
          have HO110 := n2_
          clear n0_ n1_ n2_
          clear ho hb hg hat
          refine hK.out _ _ ?_
          clear hK K
          refine norm_ (a' := ?_) ?_ ?_
          rotate_left
          · show Act.put _ (some 33) _ = _
            simp only [Act.put, List.setIfInBounds_toArray, List.set_cons_zero, List.set_cons_succ, i64_w, i32_w]
            rfl
          refine pure_ (i := 10) (N := some 6) (v := ?_) (a' := ?_) #[true, true, true, true, true, true, true, true, true, true, true, false] rfl rfl (any_of HT_.out (by kernel_rfl)) (fun _ _ _ h => h) (Or.inl ⟨by rfl, ?_⟩) ?_ ?_
          rotate_left
          · intro w'
            go_simp
            with_reducible rfl
          rotate_left
          · simp only [Act.put, List.setIfInBounds_toArray, List.set_cons_zero, List.set_cons_succ, i64_w, i32_w]
            rfl
          refine pure_ (i := 11) (N := some 7) (v := ?_) (a' := ?_) #[true, true, true, true, true, true, true, true, true, true, true, true] rfl rfl (any_of HT_.out (by kernel_rfl)) (fun _ _ _ h => h) (Or.inl ⟨by rfl, ?_⟩) ?_ ?_
          rotate_left
          · intro w'
            go_simp
            with_reducible rfl
          rotate_left
          · simp only [Act.put, List.setIfInBounds_toArray, List.set_cons_zero, List.set_cons_succ, i64_w, i32_w]
            rfl
          refine done_ (done_of HT_.out (by kernel_rfl)) ?_
          try go_wp2
          go_ret2
          exact ⟨_, by first | rfl | (simp [errW_none, errW_some] <;> rfl) | (simp [*, errW_none, errW_some] <;> rfl), by (with_reducible repeat (first | apply Kd.S_alloc | apply Kd.S_drewN | apply Kd.S_drew)); exact HO110.out, by repeat (first | (with_reducible first | exact HB.out | apply below_alloc | apply pw_below_drewN | apply below_drew1) | exact HB.out), by repeat (first | (with_reducible first | exact HK.out | apply Kept.alloc | apply Kept.drewN | apply Kept.drew) | exact HK.out), by first | exact HV2.out | exact HV.out⟩
        · rw [if_neg c10] at H
          exact absurd H (by simp)
      · rw [if_neg c8] at H
        have c8b0 : decide (t103 < 0) = false := decide_eq_false c8
        clear c8
        by_cases c16 : 0 ≤ t103
        · rw [if_pos c16] at H
          have c16b0 : decide (0 ≤ t103) = true := decide_eq_true c16
          clear c16
          by_cases c17 : t103 < (l2.length : Int)
          · rw [if_pos c17] at H
            have c17b0 : decide (t103 < (l2.length : Int)) = true := decide_eq_true c17
            clear c17
            replace H := Option.bind_eq_some_iff.mp H
            obtain ⟨t112, A180, H⟩ := H
            replace H : (some (l2, t112)) = some (r1, r2) := H
            have A18 := Aside0.mk A180
            clear A180
            simp only [Option.some.injEq, Prod.mk.injEq] at H
            obtain ⟨rfl, rfl⟩ := H
            go_enter Try.func27, Try.ntmps27
            go_wp2_with (first | ((with_reducible refine gate_callee (f := 35) rfl ?_); refine goesL_ (some 15) rfl rfl Try.func35 (by kernel_rfl) rfl #[.slice A0 l0.length c0] rfl (by (try simp only [List.map_toArray, List.map_cons, List.map_nil]); first | done | rfl | (simp only [List.length_drop, List.length_take]; rfl)) ?_; (with_reducible refine (aumbryref05_Var.calls k _ _ l0 true _ ?side1 ?side2 A4.out).mono ?_); (case side1 => exact Kd.C_kept_now HR0.out (by repeat (first | (with_reducible first | exact HK.out | apply Kept.alloc | apply Kept.drewN | apply Kept.drew) | exact HK.out))); (case side2 => exact HC0.out); rintro e w' ⟨rfl, ⟨nd, rfl⟩⟩; refine ⟨_, rfl, ?_⟩; have p102 : 0 ≤ (0 : Int) := (by omega); have q102 : 0 < (l0.length : Int) := of_decide_eq_true (by first | (with_reducible assumption) | assumption); obtain ⟨ad102, e102, hx102_0, hx102_1⟩ := at_T47 (Kd.C_kept_now HR0.out HK.out) 0 p102 q102; cases e102; have qi102 : (0 < l0.length) = True := eq_true (by omega); (try rw [show ((0 : Int)).toNat = 0 from rfl] at hx102_0); (try rw [show 0 * 2 = 0 from rfl] at hx102_0); (try rw [Addr.add_zero'] at hx102_0); (try rw [show ((0 : Int)).toNat = 0 from rfl] at hx102_1); (try rw [show 0 * 2 = 0 from rfl] at hx102_1); (try rw [Addr.add_zero'] at hx102_1); replace p102 := eq_true p102; replace q102 := eq_true q102; obtain ⟨Ao19, co19, eo19⟩ := Kd.S_slice HO2.out; subst eo19) | ((with_reducible refine gate_callee (f := 19) rfl ?_); refine goesL_ (some 21) rfl rfl Try.func19 (by kernel_rfl) rfl #[.slice Ao19 l2.length co19, .string ((rd_T47 l0 0).f0)] rfl (by (try simp only [List.map_toArray, List.map_cons, List.map_nil]); first | done | rfl | (simp only [List.length_drop, List.length_take]; rfl)) ?_; (with_reducible refine (aumbryref05_At.calls k _ _ l2 ((rd_T47 l0 0).f0) t103 _ ?side1 ?side2 A7.out).mono ?_); (case side1 => repeat (first | exact (Kd.S_reads' HO2.out).2.2 | (with_reducible refine Kd.C_alloc ?_ _) | (with_reducible refine Kd.C_drewN ?_ _) | (with_reducible refine Kd.C_drew ?_))); (case side2 => exact (Kd.S_reads' HO2.out).2.1); rintro e w' ⟨rfl, ⟨nd, rfl⟩⟩; refine ⟨_, rfl, ?_⟩; have p111 : 0 ≤ (t103 : Int) := of_decide_eq_true (by first | (with_reducible assumption) | assumption); have q111 : t103 < (l2.length : Int) := of_decide_eq_true (by first | (with_reducible assumption) | assumption); obtain ⟨ad111, A111_1, c111_1, e111, hx111_0, hx111_1, hl111_1, hi111_1⟩ := at_T44 (Kd.S_reads' HO2.out).2.2 t103 p111 q111; cases e111; obtain ⟨ce111, hce111, hMe111, hcc111⟩ := Kd.S_get HO2.out z44 t103 p111 (by first | exact q111 | exact of_decide_eq_true (by first | (with_reducible assumption) | assumption) | (have e_ := (Kd.S_reads' HO2.out).1; omega)); obtain ⟨ve111_1, rfl, ge111_1⟩ := k44_openM hMe111; have hv111_1 := hcc111 1 _ rfl; rw [add_field _ _ 1 (by omega)] at hv111_1; replace hv111_1 := Option.some.inj (hv111_1.symm.trans hx111_1); rw [hv111_1] at ge111_1; have HL111_1 := Aside0.mk (show Kd.R k47 47 _ _ _ _ ((rd_T44 l2 t103).f1) from ge111_1); clear hv111_1 ge111_1; clear hcc111 hce111; have HR111_1 := Aside0.mk hi111_1; have HC111_1 := Aside0.mk hl111_1; clear hi111_1 hl111_1; replace p111 := eq_true p111; replace q111 := eq_true q111) | ((with_reducible refine gate_callee (f := 17) rfl ?_); refine goesL_ (some 41) rfl rfl Try.func17 (by kernel_rfl) rfl #[.slice A111_1 ((rd_T44 l2 t103).f1).length c111_1, .slice A1 l1.length c1] rfl (by (try simp only [List.map_toArray, List.map_cons, List.map_nil]); first | done | rfl | (simp only [List.length_drop, List.length_take]; rfl)) ?_; (with_reducible refine (aumbryref04_Same.calls k _ _ ((rd_T44 l2 t103).f1) _ _ l1 t112 _ ?side1 ?side2 ?side3 ?side4 A18.out).mono ?_); (case side1 => repeat (first | exact (by repeat (first | (with_reducible exact HR111_1.out) | (with_reducible refine Kd.C_alloc ?_ _) | (with_reducible refine Kd.C_drewN ?_ _) | (with_reducible refine Kd.C_drew ?_) | exact HR111_1.out)) | (with_reducible refine Kd.C_alloc ?_ _) | (with_reducible refine Kd.C_drewN ?_ _) | (with_reducible refine Kd.C_drew ?_))); (case side2 => exact HC111_1.out); (case side3 => exact Kd.C_kept_now HR1.out (by repeat (first | (with_reducible first | exact HK.out | apply Kept.alloc | apply Kept.drewN | apply Kept.drew) | exact HK.out))); (case side4 => exact HC1.out); rintro e w' ⟨rfl, ⟨nd, rfl⟩⟩; refine ⟨_, rfl, ?_⟩))
            go_ret2
            exact ⟨_, by first | rfl | (simp [errW_none, errW_some] <;> rfl) | (simp [*, errW_none, errW_some] <;> rfl), by (with_reducible repeat (first | apply Kd.S_alloc | apply Kd.S_drewN | apply Kd.S_drew)); exact HO2.out, by repeat (first | (with_reducible first | exact HB.out | apply below_alloc | apply pw_below_drewN | apply below_drew1) | exact HB.out), by repeat (first | (with_reducible first | exact HK.out | apply Kept.alloc | apply Kept.drewN | apply Kept.drew) | exact HK.out), by first | exact HV2.out | exact HV.out⟩
          · rw [if_neg c17] at H
            exact absurd H (by simp)
        · rw [if_neg c16] at H
          exact absurd H (by simp)
    · rw [if_neg c6] at H
      exact absurd H (by simp)
  · replace c5 := Bool.eq_false_iff.mpr c5
    subst c5
    have H1 : (if 0 < (l0.length : Int) then (if 0 < (l1.length : Int) then (if (!((((rd_T47 l0 0).f0).toList) == (((rd_T47 l1 0).f0).toList)) || (!(((rd_T47 l0 0).f1) == ((rd_T47 l1 0).f1)))) = true then (some (([] : List (S44)), false)) else ((aumbryref04_Kids.f k l0).bind fun t115 => ((aumbryref04_Kids.f k l1).bind fun t118 => (aumbryref05_Fit.l0 k l2 t115 t118 (t115.length : Int) 0)))) else (none)) else (none)) = some (r1, r2) := by rw [if_neg (show ¬ (false = true) by decide)] at H; exact H
    clear H
    have H := H1
    clear H1
    by_cases c20 : 0 < (l0.length : Int)
    · rw [if_pos c20] at H
      have c20b0 : decide (0 < (l0.length : Int)) = true := decide_eq_true c20
      have c20b1 : decide (0 < l0.length) = true := decide_eq_true (by omega)
      clear c20
      by_cases c21 : 0 < (l1.length : Int)
      · rw [if_pos c21] at H
        have c21b0 : decide (0 < (l1.length : Int)) = true := decide_eq_true c21
        have c21b1 : decide (0 < l1.length) = true := decide_eq_true (by omega)
        clear c21
        by_cases c22 : (!((((rd_T47 l0 0).f0).toList) == (((rd_T47 l1 0).f0).toList)) || (!(((rd_T47 l0 0).f1) == ((rd_T47 l1 0).f1)))) = true
        · rw [if_pos c22] at H
          have c22b0 : (!((((rd_T47 l0 0).f0).toList) == (((rd_T47 l1 0).f0).toList)) || (!(((rd_T47 l0 0).f1) == ((rd_T47 l1 0).f1)))) = true := c22
          clear c22
          simp only [Option.some.injEq, Prod.mk.injEq] at H
          obtain ⟨rfl, rfl⟩ := H
          go_enter Try.func27, Try.ntmps27
          try go_wp2_with (first | ((with_reducible refine gate_callee (f := 35) rfl ?_); refine goesL_ (some 15) rfl rfl Try.func35 (by kernel_rfl) rfl #[.slice A0 l0.length c0] rfl (by (try simp only [List.map_toArray, List.map_cons, List.map_nil]); first | done | rfl | (simp only [List.length_drop, List.length_take]; rfl)) ?_; (with_reducible refine (aumbryref05_Var.calls k _ _ l0 false _ ?side1 ?side2 A4.out).mono ?_); (case side1 => exact Kd.C_kept_now HR0.out (by repeat (first | (with_reducible first | exact HK.out | apply Kept.alloc | apply Kept.drewN | apply Kept.drew) | exact HK.out))); (case side2 => exact HC0.out); rintro e w' ⟨rfl, ⟨nd, rfl⟩⟩; refine ⟨_, rfl, ?_⟩))
          (try (rw [drewN_self w]; generalize hq_ : World.drewN w _ = wz; have n0_ : Aside0 (Kd.S k44 44 wz w0.heap.size (fun k_ => (PQ_ k_ ∨ w.heap.size ≤ k_)) u9000_ l2) := ⟨by rw [← hq_]; exact (by (with_reducible repeat (first | apply Kd.S_alloc | apply Kd.S_drewN | apply Kd.S_drew)); exact HO2.out)⟩; have n1_ : Aside0 (Kept w wz (fun k_ => P2_ k_)) := ⟨by rw [← hq_]; exact (by repeat (first | (with_reducible first | exact HK.out | apply Kept.alloc | apply Kept.drewN | apply Kept.drew) | exact HK.out))⟩; have n2_ : Aside0 (Below w0.heap.size w0 wz) := ⟨by rw [← hq_]; exact (by repeat (first | (with_reducible first | exact HB.out | apply below_alloc | apply pw_below_drewN | apply below_drew1) | exact HB.out))⟩; clear HO2 HK HB hq_; have HO2 := n0_; have HK := n1_; have HB := n2_; clear n0_ n1_ n2_))
          have n0_ := Aside0.mk (Kd.S_drew HO2.out)
          have n1_ := Aside0.mk (Kept.drew HK.out)
          have n2_ := Aside0.mk (below_drew1 HB.out)
          clear HO2
          clear HK
          clear HB
          have HO2 := n0_
          have HK := n1_
          have HB := n2_
          clear n0_ n1_ n2_
          have p113 : 0 ≤ (0 : Int) := (by omega)
          have q113 : 0 < (l0.length : Int) := of_decide_eq_true (by first | (with_reducible assumption) | assumption)
          obtain ⟨ad113, e113, hx113_0, hx113_1⟩ := at_T47 (Kd.C_kept_now HR0.out HK.out) 0 p113 q113
          have hw113_1 := hx113_1
          (try rw [show ((0 : Int)).toNat = 0 from rfl] at hw113_1)
          (try rw [show 0 * 2 = 0 from rfl] at hw113_1)
          (try rw [Addr.add_zero'] at hw113_1)
          have hw113_0 := hx113_0
          (try rw [show ((0 : Int)).toNat = 0 from rfl] at hw113_0)
          (try rw [show 0 * 2 = 0 from rfl] at hw113_0)
          (try rw [Addr.add_zero'] at hw113_0)
          cases e113
          have qi113 : (0 < l0.length) = True := eq_true (by omega)
          (try rw [show ((0 : Int)).toNat = 0 from rfl] at hx113_0)
          (try rw [show 0 * 2 = 0 from rfl] at hx113_0)
          (try rw [Addr.add_zero'] at hx113_0)
          (try rw [show ((0 : Int)).toNat = 0 from rfl] at hx113_1)
          (try rw [show 0 * 2 = 0 from rfl] at hx113_1)
          (try rw [Addr.add_zero'] at hx113_1)
          replace p113 := eq_true p113
          replace q113 := eq_true q113
          have p114 : 0 ≤ (0 : Int) := (by omega)
          have q114 : 0 < (l1.length : Int) := of_decide_eq_true (by first | (with_reducible assumption) | assumption)
          obtain ⟨ad114, e114, hx114_0, hx114_1⟩ := at_T47 (Kd.C_kept_now HR1.out HK.out) 0 p114 q114
          have hw114_1 := hx114_1
          (try rw [show ((0 : Int)).toNat = 0 from rfl] at hw114_1)
          (try rw [show 0 * 2 = 0 from rfl] at hw114_1)
          (try rw [Addr.add_zero'] at hw114_1)
          have hw114_0 := hx114_0
          (try rw [show ((0 : Int)).toNat = 0 from rfl] at hw114_0)
          (try rw [show 0 * 2 = 0 from rfl] at hw114_0)
          (try rw [Addr.add_zero'] at hw114_0)
          cases e114
          have qi114 : (0 < l1.length) = True := eq_true (by omega)
          (try rw [show ((0 : Int)).toNat = 0 from rfl] at hx114_0)
          (try rw [show 0 * 2 = 0 from rfl] at hx114_0)
          (try rw [Addr.add_zero'] at hx114_0)
          (try rw [show ((0 : Int)).toNat = 0 from rfl] at hx114_1)
          (try rw [show 0 * 2 = 0 from rfl] at hx114_1)
          (try rw [Addr.add_zero'] at hx114_1)
          replace p114 := eq_true p114
          replace q114 := eq_true q114
          refine start_ (n := 7) (S := fun w' => w'.cell? ad113 = some (.string ((rd_T47 l0 0).f0)) ∧ w'.cell? ⟨ad113.block, ad113.off + 1, none⟩ = some (.int .i64 ((rd_T47 l0 0).f1)) ∧ w'.cell? ad114 = some (.string ((rd_T47 l1 0).f0)) ∧ w'.cell? ⟨ad114.block, ad114.off + 1, none⟩ = some (.int .i64 ((rd_T47 l1 0).f1))) (ds := []) #[false, false, false, false, false, false, false] (by kernel_rfl) rfl rfl ⟨hx113_0, hx113_1, hx114_0, hx114_1⟩ (fun hHeld => ?_)
          generalize wz.drew = w23 at HO2 HK HB hx113_0 hx113_1 hx114_0 hx114_1 hHeld ⊢
          refine pure_ (i := 0) (N := some 42) (v := ?_) (a' := ?_) #[true, false, false, false, false, false, false] rfl rfl (by kernel_rfl) (fun _ _ _ h => h) (Or.inl ⟨by rfl, ?_⟩) ?_ ?_
          rotate_left
          · intro w'
            go_simp
            with_reducible rfl
          rotate_left
          · simp only [Act.put, List.setIfInBounds_toArray, List.set_cons_zero, List.set_cons_succ, i64_w, i32_w]
            rfl
          refine pure_ (i := 1) (N := some 43) (v := ?_) (a' := ?_) #[true, true, false, false, false, false, false] rfl rfl (by kernel_rfl) (fun _ _ _ h => h) (Or.inl ⟨by rfl, ?_⟩) ?_ ?_
          rotate_left
          · intro w'
            go_simp
            with_reducible rfl
          rotate_left
          · simp only [Act.put, List.setIfInBounds_toArray, List.set_cons_zero, List.set_cons_succ, i64_w, i32_w]
            rfl
          refine pure_ (i := 3) (N := some 45) (v := ?_) (a' := ?_) #[true, true, false, true, false, false, false] rfl rfl (by kernel_rfl) (fun _ _ _ h => h) (Or.inl ⟨by rfl, ?_⟩) ?_ ?_
          rotate_left
          · intro w'
            go_simp
            with_reducible rfl
          rotate_left
          · simp only [Act.put, List.setIfInBounds_toArray, List.set_cons_zero, List.set_cons_succ, i64_w, i32_w]
            rfl
          refine pure_ (i := 4) (N := some 46) (v := ?_) (a' := ?_) #[true, true, false, true, true, false, false] rfl rfl (by kernel_rfl) (fun _ _ _ h => h) (Or.inl ⟨by rfl, ?_⟩) ?_ ?_
          rotate_left
          · intro w'
            go_simp
            with_reducible rfl
          rotate_left
          · simp only [Act.put, List.setIfInBounds_toArray, List.set_cons_zero, List.set_cons_succ, i64_w, i32_w]
            rfl
          refine take_ (i := 2) (N := some 44) (v := ?_) (a' := ?_) #[true, true, true, true, true, false, false] rfl rfl (by kernel_rfl) (fun _ _ _ h => h) (Or.inl ⟨by rfl, ?_⟩) hHeld ?_ ?_
          rotate_left
          · rintro w' ⟨s0, s1, s2, s3⟩
            go_simp
            with_reducible rfl
          rotate_left
          · simp only [Act.put, List.setIfInBounds_toArray, List.set_cons_zero, List.set_cons_succ, i64_w, i32_w]
            rfl
          refine take_ (i := 5) (N := some 47) (v := ?_) (a' := ?_) #[true, true, true, true, true, true, false] rfl rfl (by kernel_rfl) (fun _ _ _ h => h) (Or.inl ⟨by rfl, ?_⟩) hHeld ?_ ?_
          rotate_left
          · rintro w' ⟨s0, s1, s2, s3⟩
            go_simp
            with_reducible rfl
          rotate_left
          · simp only [Act.put, List.setIfInBounds_toArray, List.set_cons_zero, List.set_cons_succ, i64_w, i32_w]
            rfl
          refine pure_ (i := 6) (N := some 48) (v := ?_) (a' := ?_) #[true, true, true, true, true, true, true] rfl rfl (by kernel_rfl) (fun _ _ _ h => h) (Or.inl ⟨by rfl, ?_⟩) ?_ ?_
          rotate_left
          · intro w'
            go_simp
            with_reducible rfl
          rotate_left
          · simp only [Act.put, List.setIfInBounds_toArray, List.set_cons_zero, List.set_cons_succ, i64_w, i32_w]
            rfl
          refine done_ (by kernel_rfl) ?_
          try go_wp2
          go_ret2
          exact ⟨_, by first | rfl | (simp [errW_none, errW_some] <;> rfl) | (simp [*, errW_none, errW_some] <;> rfl), by first | exact Kd.S_nil _ _ _ _ _ | exact Kd.N_nil _ _ _ _ _ | exact Kd.V_nil _ _ _ _ _ | exact Kd.Q_nil _ _ _ _ _ | exact Kd.R_nil _ _ _ _ _, by repeat (first | (with_reducible first | exact HB.out | apply below_alloc | apply pw_below_drewN | apply below_drew1) | exact HB.out), by repeat (first | (with_reducible first | exact HK.out | apply Kept.alloc | apply Kept.drewN | apply Kept.drew) | exact HK.out), fun k_ e_ => by simp [Value.ownBlock] at e_⟩
        · rw [if_neg c22] at H
          have c22b0 : (!((((rd_T47 l0 0).f0).toList) == (((rd_T47 l1 0).f0).toList)) || (!(((rd_T47 l0 0).f1) == ((rd_T47 l1 0).f1)))) = false := by simpa using c22
          clear c22
          replace H := Option.bind_eq_some_iff.mp H
          obtain ⟨t115, A240, H⟩ := H
          replace H : ((aumbryref04_Kids.f k l1).bind fun t118 => (aumbryref05_Fit.l0 k l2 t115 t118 (t115.length : Int) 0)) = some (r1, r2) := H
          have A24 := Aside0.mk A240
          clear A240
          replace H := Option.bind_eq_some_iff.mp H
          obtain ⟨t118, A250, H⟩ := H
          replace H : (aumbryref05_Fit.l0 k l2 t115 t118 (t115.length : Int) 0) = some (r1, r2) := H
          have A25 := Aside0.mk A250
          clear A250
          have H' := Aside0.mk H
          clear H
          go_enter Try.func27, Try.ntmps27
          try go_wp2_with (first | ((with_reducible refine gate_callee (f := 35) rfl ?_); refine goesL_ (some 15) rfl rfl Try.func35 (by kernel_rfl) rfl #[.slice A0 l0.length c0] rfl (by (try simp only [List.map_toArray, List.map_cons, List.map_nil]); first | done | rfl | (simp only [List.length_drop, List.length_take]; rfl)) ?_; (with_reducible refine (aumbryref05_Var.calls k _ _ l0 false _ ?side1 ?side2 A4.out).mono ?_); (case side1 => exact Kd.C_kept_now HR0.out (by repeat (first | (with_reducible first | exact HK.out | apply Kept.alloc | apply Kept.drewN | apply Kept.drew) | exact HK.out))); (case side2 => exact HC0.out); rintro e w' ⟨rfl, ⟨nd, rfl⟩⟩; refine ⟨_, rfl, ?_⟩))
          (try (rw [drewN_self w]; generalize hq_ : World.drewN w _ = wz; have n0_ : Aside0 (Kd.S k44 44 wz w0.heap.size (fun k_ => (PQ_ k_ ∨ w.heap.size ≤ k_)) u9000_ l2) := ⟨by rw [← hq_]; exact (by (with_reducible repeat (first | apply Kd.S_alloc | apply Kd.S_drewN | apply Kd.S_drew)); exact HO2.out)⟩; have n1_ : Aside0 (Kept w wz (fun k_ => P2_ k_)) := ⟨by rw [← hq_]; exact (by repeat (first | (with_reducible first | exact HK.out | apply Kept.alloc | apply Kept.drewN | apply Kept.drew) | exact HK.out))⟩; have n2_ : Aside0 (Below w0.heap.size w0 wz) := ⟨by rw [← hq_]; exact (by repeat (first | (with_reducible first | exact HB.out | apply below_alloc | apply pw_below_drewN | apply below_drew1) | exact HB.out))⟩; clear HO2 HK HB hq_; have HO2 := n0_; have HK := n1_; have HB := n2_; clear n0_ n1_ n2_))
          have n0_ := Aside0.mk (Kd.S_drew HO2.out)
          have n1_ := Aside0.mk (Kept.drew HK.out)
          have n2_ := Aside0.mk (below_drew1 HB.out)
          clear HO2
          clear HK
          clear HB
          have HO2 := n0_
          have HK := n1_
          have HB := n2_
          clear n0_ n1_ n2_
          have p113 : 0 ≤ (0 : Int) := (by omega)
          have q113 : 0 < (l0.length : Int) := of_decide_eq_true (by first | (with_reducible assumption) | assumption)
          obtain ⟨ad113, e113, hx113_0, hx113_1⟩ := at_T47 (Kd.C_kept_now HR0.out HK.out) 0 p113 q113
          have hw113_1 := hx113_1
          (try rw [show ((0 : Int)).toNat = 0 from rfl] at hw113_1)
          (try rw [show 0 * 2 = 0 from rfl] at hw113_1)
          (try rw [Addr.add_zero'] at hw113_1)
          have hw113_0 := hx113_0
          (try rw [show ((0 : Int)).toNat = 0 from rfl] at hw113_0)
          (try rw [show 0 * 2 = 0 from rfl] at hw113_0)
          (try rw [Addr.add_zero'] at hw113_0)
          cases e113
          have qi113 : (0 < l0.length) = True := eq_true (by omega)
          (try rw [show ((0 : Int)).toNat = 0 from rfl] at hx113_0)
          (try rw [show 0 * 2 = 0 from rfl] at hx113_0)
          (try rw [Addr.add_zero'] at hx113_0)
          (try rw [show ((0 : Int)).toNat = 0 from rfl] at hx113_1)
          (try rw [show 0 * 2 = 0 from rfl] at hx113_1)
          (try rw [Addr.add_zero'] at hx113_1)
          replace p113 := eq_true p113
          replace q113 := eq_true q113
          have p114 : 0 ≤ (0 : Int) := (by omega)
          have q114 : 0 < (l1.length : Int) := of_decide_eq_true (by first | (with_reducible assumption) | assumption)
          obtain ⟨ad114, e114, hx114_0, hx114_1⟩ := at_T47 (Kd.C_kept_now HR1.out HK.out) 0 p114 q114
          have hw114_1 := hx114_1
          (try rw [show ((0 : Int)).toNat = 0 from rfl] at hw114_1)
          (try rw [show 0 * 2 = 0 from rfl] at hw114_1)
          (try rw [Addr.add_zero'] at hw114_1)
          have hw114_0 := hx114_0
          (try rw [show ((0 : Int)).toNat = 0 from rfl] at hw114_0)
          (try rw [show 0 * 2 = 0 from rfl] at hw114_0)
          (try rw [Addr.add_zero'] at hw114_0)
          cases e114
          have qi114 : (0 < l1.length) = True := eq_true (by omega)
          (try rw [show ((0 : Int)).toNat = 0 from rfl] at hx114_0)
          (try rw [show 0 * 2 = 0 from rfl] at hx114_0)
          (try rw [Addr.add_zero'] at hx114_0)
          (try rw [show ((0 : Int)).toNat = 0 from rfl] at hx114_1)
          (try rw [show 0 * 2 = 0 from rfl] at hx114_1)
          (try rw [Addr.add_zero'] at hx114_1)
          replace p114 := eq_true p114
          replace q114 := eq_true q114
          refine start_ (n := 7) (S := fun w' => w'.cell? ad113 = some (.string ((rd_T47 l0 0).f0)) ∧ w'.cell? ⟨ad113.block, ad113.off + 1, none⟩ = some (.int .i64 ((rd_T47 l0 0).f1)) ∧ w'.cell? ad114 = some (.string ((rd_T47 l1 0).f0)) ∧ w'.cell? ⟨ad114.block, ad114.off + 1, none⟩ = some (.int .i64 ((rd_T47 l1 0).f1))) (ds := []) #[false, false, false, false, false, false, false] (by kernel_rfl) rfl rfl ⟨hx113_0, hx113_1, hx114_0, hx114_1⟩ (fun hHeld => ?_)
          generalize wz.drew = w26 at HO2 HK HB hx113_0 hx113_1 hx114_0 hx114_1 hHeld ⊢
          refine pure_ (i := 0) (N := some 42) (v := ?_) (a' := ?_) #[true, false, false, false, false, false, false] rfl rfl (by kernel_rfl) (fun _ _ _ h => h) (Or.inl ⟨by rfl, ?_⟩) ?_ ?_
          rotate_left
          · intro w'
            go_simp
            with_reducible rfl
          rotate_left
          · simp only [Act.put, List.setIfInBounds_toArray, List.set_cons_zero, List.set_cons_succ, i64_w, i32_w]
            rfl
          refine pure_ (i := 1) (N := some 43) (v := ?_) (a' := ?_) #[true, true, false, false, false, false, false] rfl rfl (by kernel_rfl) (fun _ _ _ h => h) (Or.inl ⟨by rfl, ?_⟩) ?_ ?_
          rotate_left
          · intro w'
            go_simp
            with_reducible rfl
          rotate_left
          · simp only [Act.put, List.setIfInBounds_toArray, List.set_cons_zero, List.set_cons_succ, i64_w, i32_w]
            rfl
          refine pure_ (i := 3) (N := some 45) (v := ?_) (a' := ?_) #[true, true, false, true, false, false, false] rfl rfl (by kernel_rfl) (fun _ _ _ h => h) (Or.inl ⟨by rfl, ?_⟩) ?_ ?_
          rotate_left
          · intro w'
            go_simp
            with_reducible rfl
          rotate_left
          · simp only [Act.put, List.setIfInBounds_toArray, List.set_cons_zero, List.set_cons_succ, i64_w, i32_w]
            rfl
          refine pure_ (i := 4) (N := some 46) (v := ?_) (a' := ?_) #[true, true, false, true, true, false, false] rfl rfl (by kernel_rfl) (fun _ _ _ h => h) (Or.inl ⟨by rfl, ?_⟩) ?_ ?_
          rotate_left
          · intro w'
            go_simp
            with_reducible rfl
          rotate_left
          · simp only [Act.put, List.setIfInBounds_toArray, List.set_cons_zero, List.set_cons_succ, i64_w, i32_w]
            rfl
          refine take_ (i := 2) (N := some 44) (v := ?_) (a' := ?_) #[true, true, true, true, true, false, false] rfl rfl (by kernel_rfl) (fun _ _ _ h => h) (Or.inl ⟨by rfl, ?_⟩) hHeld ?_ ?_
          rotate_left
          · rintro w' ⟨s0, s1, s2, s3⟩
            go_simp
            with_reducible rfl
          rotate_left
          · simp only [Act.put, List.setIfInBounds_toArray, List.set_cons_zero, List.set_cons_succ, i64_w, i32_w]
            rfl
          refine take_ (i := 5) (N := some 47) (v := ?_) (a' := ?_) #[true, true, true, true, true, true, false] rfl rfl (by kernel_rfl) (fun _ _ _ h => h) (Or.inl ⟨by rfl, ?_⟩) hHeld ?_ ?_
          rotate_left
          · rintro w' ⟨s0, s1, s2, s3⟩
            go_simp
            with_reducible rfl
          rotate_left
          · simp only [Act.put, List.setIfInBounds_toArray, List.set_cons_zero, List.set_cons_succ, i64_w, i32_w]
            rfl
          refine pure_ (i := 6) (N := some 48) (v := ?_) (a' := ?_) #[true, true, true, true, true, true, true] rfl rfl (by kernel_rfl) (fun _ _ _ h => h) (Or.inl ⟨by rfl, ?_⟩) ?_ ?_
          rotate_left
          · intro w'
            go_simp
            with_reducible rfl
          rotate_left
          · simp only [Act.put, List.setIfInBounds_toArray, List.set_cons_zero, List.set_cons_succ, i64_w, i32_w]
            rfl
          refine done_ (by kernel_rfl) ?_
          try go_wp2_with (first | ((with_reducible refine gate_callee (f := 36) rfl ?_); refine goesL_ (some 50) rfl rfl Try.func36 (by kernel_rfl) rfl #[.slice (some ad113) l0.length c0] rfl (by (try simp only [List.map_toArray, List.map_cons, List.map_nil]); first | done | rfl | (simp only [List.length_drop, List.length_take]; rfl)) ?_; (with_reducible refine (aumbryref04_Kids.calls k _ _ l0 t115 _ ?side1 ?side2 A24.out).mono ?_); (case side1 => exact Kd.C_kept_now HR0.out (by repeat (first | (with_reducible first | exact HK.out | apply Kept.alloc | apply Kept.drewN | apply Kept.drew) | exact HK.out))); (case side2 => exact HC0.out); rintro e w27 ⟨v116, rfl, ho0, hb⟩; refine ⟨_, rfl, ?_⟩; have n0_ := Aside0.mk (Kd.S_below (by (with_reducible repeat (first | apply Kd.S_alloc | apply Kd.S_drewN | apply Kd.S_drew)); exact HO2.out) hb); have n1_ := Aside0.mk (Kd.S_lower (Kd.S_newM (M := fun k_ => (PQ_ k_ ∨ w.heap.size ≤ k_)) ho0 (by first | exact HK.out.1 | exact (show Kept w _ (fun k_ => P2_ k_) from by repeat (first | (with_reducible first | exact HK.out | apply Kept.alloc | apply Kept.drewN | apply Kept.drew) | exact HK.out)).1) (fun k_ h_ => .inr h_)) (below_size (by repeat (first | (with_reducible first | exact HB.out | apply below_alloc | apply pw_below_drewN | apply below_drew1) | exact HB.out)))); have n2_ := Aside0.mk (Kept.below (S := (fun k_ => P2_ k_)) (by repeat (first | (with_reducible first | exact HK.out | apply Kept.alloc | apply Kept.drewN | apply Kept.drew) | exact HK.out)) hb); have n3_ := Aside0.mk (below_step (by repeat (first | (with_reducible first | exact HB.out | apply below_alloc | apply pw_below_drewN | apply below_drew1) | exact HB.out)) hb); clear HO2; clear HK; clear HB; have HO2 := n0_; have HO117 := n1_; have HK := n2_; have HB := n3_; clear n0_ n1_ n2_ n3_; (try clear hb); (try clear hb2); (try clear hk); (try clear hi); (try clear ho0)) | ((with_reducible refine gate_callee (f := 36) rfl ?_); refine goesL_ (some 52) rfl rfl Try.func36 (by kernel_rfl) rfl #[.slice (some ad114) l1.length c1] rfl (by (try simp only [List.map_toArray, List.map_cons, List.map_nil]); first | done | rfl | (simp only [List.length_drop, List.length_take]; rfl)) ?_; (with_reducible refine (aumbryref04_Kids.calls k _ _ l1 t118 _ ?side1 ?side2 A25.out).mono ?_); (case side1 => exact Kd.C_kept_now HR1.out (by repeat (first | (with_reducible first | exact HK.out | apply Kept.alloc | apply Kept.drewN | apply Kept.drew) | exact HK.out))); (case side2 => exact HC1.out); rintro e w28 ⟨v119, rfl, ho0, hb⟩; refine ⟨_, rfl, ?_⟩; have n0_ := Aside0.mk (Kd.S_below (by (with_reducible repeat (first | apply Kd.S_alloc | apply Kd.S_drewN | apply Kd.S_drew)); exact HO2.out) hb); have n1_ := Aside0.mk (Kd.S_elder' (by (with_reducible repeat (first | apply Kd.S_alloc | apply Kd.S_drewN | apply Kd.S_drew)); exact HO117.out) (Kd.S_base ho0) hb); have n2_ := Aside0.mk (Kd.S_lower (Kd.S_new' (Kd.S_newM (M := fun k_ => (PQ_ k_ ∨ w.heap.size ≤ k_)) ho0 (by first | exact HK.out.1 | exact (show Kept w _ (fun k_ => P2_ k_) from by repeat (first | (with_reducible first | exact HK.out | apply Kept.alloc | apply Kept.drewN | apply Kept.drew) | exact HK.out)).1) (fun k_ h_ => .inr h_)) (Kd.S_lt (by (with_reducible repeat (first | apply Kd.S_alloc | apply Kd.S_drewN | apply Kd.S_drew)); exact HO117.out))) (below_size (by repeat (first | (with_reducible first | exact HB.out | apply below_alloc | apply pw_below_drewN | apply below_drew1) | exact HB.out)))); have n3_ := Aside0.mk (Kept.below (S := (fun k_ => P2_ k_)) (by repeat (first | (with_reducible first | exact HK.out | apply Kept.alloc | apply Kept.drewN | apply Kept.drew) | exact HK.out)) hb); have n4_ := Aside0.mk (below_step (by repeat (first | (with_reducible first | exact HB.out | apply below_alloc | apply pw_below_drewN | apply below_drew1) | exact HB.out)) hb); clear HO2; clear HO117; clear HK; clear HB; have HO2 := n0_; have HO117 := n1_; have HO120 := n2_; have HK := n3_; have HB := n4_; clear n0_ n1_ n2_ n3_ n4_; (try clear hb); (try clear hb2); (try clear hk); (try clear hi); (try clear ho0); obtain ⟨Ao29, co29, eo29⟩ := Kd.S_slice HO117.out; subst eo29))
          go_loopg [2, 55] k (fun kq v2 v55 w' => ∃ (x2_1 : List (S44)) (x55_1 : Int), v55 = .int .i64 x55_1 ∧ Aside0 (aumbryref05_Fit.l0 kq x2_1 t115 t118 (t115.length : Int) x55_1 = some (r1, r2)) ∧ Aside0 (kq ≤ k) ∧ Aside0 (Kd.S k44 44 w' w0.heap.size (fun k_ => (PQ_ k_ ∨ w.heap.size ≤ k_)) v2 x2_1) ∧ Aside0 (Kd.S (Kd.slice 47 k47) 23 w' w0.heap.size (fun k_ => (PQ_ k_ ∨ w.heap.size ≤ k_) ∧ some k_ ≠ (v119 : Value).ownBlock) (.slice Ao29 t115.length co29) t115) ∧ Aside0 (Kd.S (Kd.slice 47 k47) 23 w' w0.heap.size (fun k_ => (PQ_ k_ ∨ w.heap.size ≤ k_) ∧ some k_ ≠ ((.slice Ao29 t115.length co29) : Value).ownBlock) v119 t118) ∧ Aside0 (Kept w w' (fun k_ => P2_ k_)) ∧ Aside0 (Below w0.heap.size w0 w') ∧ Aside0 (∀ k_ : Nat, (v2 : Value).ownBlock = some k_ → P2_ k_ ∨ w.heap.size ≤ k_))
          case atStart => exact ⟨(l2), (0), (by first | rfl | (simp; done) | (simp [*]; done)), H', ⟨Nat.le_refl _⟩, ⟨by (with_reducible repeat (first | apply Kd.S_alloc | apply Kd.S_drewN | apply Kd.S_drew)); exact HO2.out⟩, ⟨by (with_reducible repeat (first | apply Kd.S_alloc | apply Kd.S_drewN | apply Kd.S_drew)); exact Kd.S_mono HO117.out (fun _ hk => ⟨hk.1.1, hk.2⟩)⟩, ⟨by (with_reducible repeat (first | apply Kd.S_alloc | apply Kd.S_drewN | apply Kd.S_drew)); exact Kd.S_mono HO120.out (fun _ hk => ⟨hk.1.1, hk.2⟩)⟩, ⟨by repeat (first | (with_reducible first | exact HK.out | apply Kept.alloc | apply Kept.drewN | apply Kept.drew) | exact HK.out)⟩, ⟨by repeat (first | (with_reducible first | exact HB.out | apply below_alloc | apply pw_below_drewN | apply below_drew1) | exact HB.out)⟩, HV⟩
          case round =>
            clear H'
            try clear c1
            try clear p1
            try clear q1
            try clear hx1
            try clear qi1
            try clear c2
            try clear p2
            try clear c3
            try clear c5
            try clear c6
            try clear c6b0
            try clear c6b1
            try clear c8
            try clear c8b0
            try clear c10
            try clear p10
            try clear q10
            try clear hx10
            try clear qi10
            try clear c11
            try clear p11
            try clear q11
            try clear hx11
            try clear qi11
            try clear c16
            try clear c16b0
            try clear c17
            try clear c17b0
            try clear c19
            try clear c20
            try clear c20b0
            try clear c20b1
            try clear c21
            try clear c21b0
            try clear c21b1
            try clear c22
            try clear c22b0
            try clear c25
            try clear c27
            try clear hx102_0
            try clear hx102_1
            try clear hx104_0
            try clear hx104_1
            try clear hx111_0
            try clear hx111_1
            try clear hx113_0
            try clear hx113_1
            try clear hx114_0
            try clear hx114_1
            try clear p102
            try clear p104
            try clear p111
            try clear p113
            try clear p114
            try clear q102
            try clear q104
            try clear q111
            try clear q113
            try clear q114
            obtain ⟨x2_1, x55_1, rfl, HA, HK1, HO_2, HO_9, HO_10, HK, HB, HV⟩ := hrel
            cases gk with
            | zero => exact absurd HA.out (by simp [aumbryref05_Fit.l0])
            | succ k1 =>
              have H := HA.out
              clear HA
              simp only [aumbryref05_Fit.l0] at H
              by_cases c30 : x55_1 < (t115.length : Int)
              · rw [if_pos c30] at H
                have c30b0 : decide (x55_1 < (t115.length : Int)) = true := decide_eq_true c30
                clear c30
                by_cases c31 : 0 ≤ x55_1
                · rw [if_pos c31] at H
                  have c31b0 : decide (0 ≤ x55_1) = true := decide_eq_true c31
                  clear c31
                  by_cases c32 : x55_1 < (t115.length : Int)
                  · rw [if_pos c32] at H
                    have c32b0 : decide (x55_1 < (t115.length : Int)) = true := decide_eq_true c32
                    clear c32
                    by_cases c33 : x55_1 < (t118.length : Int)
                    · rw [if_pos c33] at H
                      have c33b0 : decide (x55_1 < (t118.length : Int)) = true := decide_eq_true c33
                      clear c33
                      replace H := Option.bind_eq_some_iff.mp H
                      obtain ⟨⟨t123, t126⟩, A340, H⟩ := H
                      replace H : (if t126 = true then (aumbryref05_Fit.l0 k1 t123 t115 t118 (t115.length : Int) (wrap64 (x55_1 + 1))) else (some (([] : List (S44)), false))) = some (r1, r2) := H
                      have A34 := Aside0.mk A340
                      clear A340
                      by_cases c35 : t126 = true
                      · subst c35
                        have H1 : (aumbryref05_Fit.l0 k1 t123 t115 t118 (t115.length : Int) (wrap64 (x55_1 + 1))) = some (r1, r2) := by rw [if_pos rfl] at H; exact H
                        clear H
                        have H := H1
                        clear H1
                        have H' := Aside0.mk H
                        clear H
                        try go_wp2
                        have n0_ := Aside0.mk (Kd.S_drew HO_2.out)
                        have n1_ := Aside0.mk (Kd.S_drew HO_9.out)
                        have n2_ := Aside0.mk (Kd.S_drew HO_10.out)
                        have n3_ := Aside0.mk (Kept.drew HK.out)
                        have n4_ := Aside0.mk (below_drew1 HB.out)
                        clear HO_2
                        clear HO_9
                        clear HO_10
                        clear HK
                        clear HB
                        have HO_2 := n0_
                        have HO_9 := n1_
                        have HO_10 := n2_
                        have HK := n3_
                        have HB := n4_
                        clear n0_ n1_ n2_ n3_ n4_
                        have p121 : 0 ≤ (x55_1 : Int) := of_decide_eq_true (by first | (with_reducible assumption) | assumption)
                        have q121 : x55_1 < (t115.length : Int) := of_decide_eq_true (by first | (with_reducible assumption) | assumption)
                        obtain ⟨ad121, A121_0, c121_0, e121, hx121_0, hl121_0, hi121_0⟩ := at_L3 (Kd.S_reads' HO_9.out).2.2 x55_1 p121 q121
                        cases e121
                        obtain ⟨ce121, hce121, hMe121, hcc121⟩ := Kd.S_get HO_9.out [] x55_1 p121 (by first | exact q121 | exact of_decide_eq_true (by first | (with_reducible assumption) | assumption) | (have e_ := (Kd.S_reads' HO_9.out).1; omega))
                        obtain ⟨ve121_0, rfl, ge121_0⟩ := hMe121
                        have hv121_0 := hcc121 0 _ rfl
                        rw [Nat.add_zero, show ((Kd.slice 47 k47)).sz = 1 from rfl, Nat.mul_one] at hv121_0
                        replace hv121_0 := Option.some.inj (hv121_0.symm.trans hx121_0)
                        rw [hv121_0] at ge121_0
                        have HL121_0 := Aside0.mk (show Kd.R k47 47 _ _ _ _ (rd_L3 t115 x55_1) from ge121_0)
                        clear hv121_0 ge121_0
                        clear hcc121 hce121
                        have HR121_0 := Aside0.mk hi121_0
                        have HC121_0 := Aside0.mk hl121_0
                        clear hi121_0 hl121_0
                        replace p121 := eq_true p121
                        replace q121 := eq_true q121
                        obtain ⟨Ao37, co37, eo37⟩ := Kd.S_slice HO_10.out
                        (first | subst eo37 | (injection eo37 with f1_ f2_ f3_; have f4_ := f1_.symm; have f5_ := f3_.symm; clear f1_ f2_ f3_; subst f4_; subst f5_))
                        have p122 : 0 ≤ (x55_1 : Int) := of_decide_eq_true (by first | (with_reducible assumption) | assumption)
                        have q122 : x55_1 < (t118.length : Int) := of_decide_eq_true (by first | (with_reducible assumption) | assumption)
                        obtain ⟨ad122, A122_0, c122_0, e122, hx122_0, hl122_0, hi122_0⟩ := at_L3 (Kd.S_reads' HO_10.out).2.2 x55_1 p122 q122
                        cases e122
                        obtain ⟨ce122, hce122, hMe122, hcc122⟩ := Kd.S_get HO_10.out [] x55_1 p122 (by first | exact q122 | exact of_decide_eq_true (by first | (with_reducible assumption) | assumption) | (have e_ := (Kd.S_reads' HO_10.out).1; omega))
                        obtain ⟨ve122_0, rfl, ge122_0⟩ := hMe122
                        have hv122_0 := hcc122 0 _ rfl
                        rw [Nat.add_zero, show ((Kd.slice 47 k47)).sz = 1 from rfl, Nat.mul_one] at hv122_0
                        replace hv122_0 := Option.some.inj (hv122_0.symm.trans hx122_0)
                        rw [hv122_0] at ge122_0
                        have HL122_0 := Aside0.mk (show Kd.R k47 47 _ _ _ _ (rd_L3 t118 x55_1) from ge122_0)
                        clear hv122_0 ge122_0
                        clear hcc122 hce122
                        have HR122_0 := Aside0.mk hi122_0
                        have HC122_0 := Aside0.mk hl122_0
                        clear hi122_0 hl122_0
                        replace p122 := eq_true p122
                        replace q122 := eq_true q122
                        obtain ⟨Ao38, co38, eo38⟩ := Kd.S_slice HO_2.out
                        (first | subst eo38 | (injection eo38 with f1_ f2_ f3_; have f4_ := f1_.symm; have f5_ := f3_.symm; clear f1_ f2_ f3_; subst f4_; subst f5_))
                        refine start_ (n := 15) (S := fun w' => w'.cell? (ad121.add (x55_1).toNat) = some (.slice A121_0 (rd_L3 t115 x55_1).length c121_0) ∧ w'.cell? (ad122.add (x55_1).toNat) = some (.slice A122_0 (rd_L3 t118 x55_1).length c122_0)) (ds := []) #[false, false, false, false, false, false, false, false, false, false, false, false, false, false, false] (by kernel_rfl) rfl rfl ⟨hx121_0, hx122_0⟩ (fun hHeld => ?_); refine with_tabW aumbryref05_Fit.tab12 aumbryref05_Fit.bits12 (fun HT_ HW_ => ?_)
                        generalize wr.drew = w36 at HO_2 HO_9 HO_10 HK HB HL121_0 HL122_0 HR121_0 HR122_0 hx121_0 hx122_0 hHeld ⊢
                        refine pure_ (i := 0) (N := some 59) (v := ?_) (a' := ?_) #[true, false, false, false, false, false, false, false, false, false, false, false, false, false, false] rfl rfl (any_of HT_.out (by kernel_rfl)) (fun _ _ _ h => h) (Or.inl ⟨by rfl, ?_⟩) ?_ ?_
                        rotate_left
                        · intro w'
                          go_simp
                          with_reducible rfl
                        rotate_left
                        · simp only [Act.put, List.setIfInBounds_toArray, List.set_cons_zero, List.set_cons_succ, i64_w, i32_w]
                          rfl
                        refine pure_ (i := 1) (N := some 60) (v := ?_) (a' := ?_) #[true, true, false, false, false, false, false, false, false, false, false, false, false, false, false] rfl rfl (any_of HT_.out (by kernel_rfl)) (fun _ _ _ h => h) (Or.inl ⟨by rfl, ?_⟩) ?_ ?_
                        rotate_left
                        · intro w'
                          go_simp
                          with_reducible rfl
                        rotate_left
                        · simp only [Act.put, List.setIfInBounds_toArray, List.set_cons_zero, List.set_cons_succ, i64_w, i32_w]
                          rfl
                        refine pure_ (i := 2) (N := some 61) (v := ?_) (a' := ?_) #[true, true, true, false, false, false, false, false, false, false, false, false, false, false, false] rfl rfl (any_of HT_.out (by kernel_rfl)) (fun _ _ _ h => h) (Or.inl ⟨by rfl, ?_⟩) ?_ ?_
                        rotate_left
                        · intro w'
                          go_simp
                          with_reducible rfl
                        rotate_left
                        · simp only [Act.put, List.setIfInBounds_toArray, List.set_cons_zero, List.set_cons_succ, i64_w, i32_w]
                          rfl
                        refine pure_ (i := 4) (N := some 63) (v := ?_) (a' := ?_) #[true, true, true, false, true, false, false, false, false, false, false, false, false, false, false] rfl rfl (any_of HT_.out (by kernel_rfl)) (fun _ _ _ h => h) (Or.inl ⟨by rfl, ?_⟩) ?_ ?_
                        rotate_left
                        · intro w'
                          go_simp
                          with_reducible rfl
                        rotate_left
                        · simp only [Act.put, List.setIfInBounds_toArray, List.set_cons_zero, List.set_cons_succ, i64_w, i32_w]
                          rfl
                        refine pure_ (i := 5) (N := some 64) (v := ?_) (a' := ?_) #[true, true, true, false, true, true, false, false, false, false, false, false, false, false, false] rfl rfl (any_of HT_.out (by kernel_rfl)) (fun _ _ _ h => h) (Or.inl ⟨by rfl, ?_⟩) ?_ ?_
                        rotate_left
                        · intro w'
                          go_simp
                          with_reducible rfl
                        rotate_left
                        · simp only [Act.put, List.setIfInBounds_toArray, List.set_cons_zero, List.set_cons_succ, i64_w, i32_w]
                          rfl
                        refine pure_ (i := 6) (N := some 65) (v := ?_) (a' := ?_) #[true, true, true, false, true, true, true, false, false, false, false, false, false, false, false] rfl rfl (any_of HT_.out (by kernel_rfl)) (fun _ _ _ h => h) (Or.inl ⟨by rfl, ?_⟩) ?_ ?_
                        rotate_left
                        · intro w'
                          go_simp
                          with_reducible rfl
                        rotate_left
                        · simp only [Act.put, List.setIfInBounds_toArray, List.set_cons_zero, List.set_cons_succ, i64_w, i32_w]
                          rfl
                        refine pure_ (i := 8) (N := some 67) (v := ?_) (a' := ?_) #[true, true, true, false, true, true, true, false, true, false, false, false, false, false, false] rfl rfl (any_of HT_.out (by kernel_rfl)) (fun _ _ _ h => h) (Or.inl ⟨by rfl, ?_⟩) ?_ ?_
                        rotate_left
                        · intro w'
                          go_simp
                          with_reducible rfl
                        rotate_left
                        · simp only [Act.put, List.setIfInBounds_toArray, List.set_cons_zero, List.set_cons_succ, i64_w, i32_w]
                          rfl
                        refine take_ (i := 3) (N := some 62) (v := ?_) (a' := ?_) #[true, true, true, true, true, true, true, false, true, false, false, false, false, false, false] rfl rfl (take_ofW HT_.out HW_.out (by kernel_rfl)) (fun _ _ _ h => h) (Or.inl ⟨by rfl, ?_⟩) hHeld ?_ ?_
                        rotate_left
                        · rintro w' ⟨s0, s1⟩
                          go_simp
                          with_reducible rfl
                        rotate_left
                        · simp only [Act.put, List.setIfInBounds_toArray, List.set_cons_zero, List.set_cons_succ, i64_w, i32_w]
                          rfl
                        refine take_ (i := 7) (N := some 66) (v := ?_) (a' := ?_) #[true, true, true, true, true, true, true, true, true, false, false, false, false, false, false] rfl rfl (take_ofW HT_.out HW_.out (by kernel_rfl)) (fun _ _ _ h => h) (Or.inl ⟨by rfl, ?_⟩) hHeld ?_ ?_
                        rotate_left
                        · rintro w' ⟨s0, s1⟩
                          go_simp
                          with_reducible rfl
                        rotate_left
                        · simp only [Act.put, List.setIfInBounds_toArray, List.set_cons_zero, List.set_cons_succ, i64_w, i32_w]
                          rfl
                        refine one_ (i := 9) (N := some 68) #[true, true, true, true, true, true, true, true, true, true, false, false, false, false, false] rfl rfl (one_of HT_.out (by kernel_rfl)) (by decide) (fun K hK => ?_)
                        refine goes_ Try.func27 (by kernel_rfl) rfl #[.slice A121_0 (rd_L3 t115 x55_1).length c121_0, .slice A122_0 (rd_L3 t118 x55_1).length c122_0, .slice Ao38 x2_1.length co38] (by rfl) rfl rfl (by (try simp only [List.map_toArray, List.map_cons, List.map_nil]); first | done | rfl | (simp only [List.length_drop, List.length_take]; rfl)) ?_
                        with_reducible refine (ih k1 (by have := HK1.out; omega) _ _ (rd_L3 t115 x55_1) _ _ (rd_L3 t118 x55_1) (fun k_ => some k_ = (.slice Ao38 x2_1.length co38 : Value).ownBlock) (fun k_ => (PQ_ k_ ∨ w.heap.size ≤ k_)) (.slice Ao38 x2_1.length co38) x2_1 t123 true w0 _ ?side1 ?side2 ?side3 ?side4 ?side5 ?side6 ?side7 A34.out).mono ?_
                        (case side1 => repeat (first | (with_reducible first | exact HB.out | apply below_alloc | apply pw_below_drewN | apply below_drew1) | exact HB.out))
                        (case side2 => exact Kd.C_kept_own ((Kd.R_apart' HL121_0.out (Kd.S_typed HO_2.out) (by decide))) (fun k_ hk_ hs_ => (hk_.2) hs_))
                        (case side3 => exact HC121_0.out)
                        (case side4 => exact Kd.C_kept_own ((Kd.R_apart' HL122_0.out (Kd.S_typed HO_2.out) (by decide))) (fun k_ hk_ hs_ => (hk_.2) hs_))
                        (case side5 => exact HC122_0.out)
                        (case side6 => exact HO_2.out)
                        (case side7 => exact fun k_ e_ => e_.symm)
                        rintro e w39 ⟨v124, rfl, ho0, hb, hkp, hv⟩
                        have HS0_ := cell_kept (hHeld.1) hkp (by first | (rw [add_block]; exact (fun hs_ => (((Kd.S_R (Kd.S_apart' HO_9.out (Kd.S_typed HO_2.out) (by decide))).1 _ rfl).2) hs_)) | (show ¬ _; simp only [add_block]; exact (fun hs_ => (((Kd.S_R (Kd.S_apart' HO_9.out (Kd.S_typed HO_2.out) (by decide))).1 _ rfl).2) hs_)) | exact (fun hs_ => (((Kd.S_R (Kd.S_apart' HO_9.out (Kd.S_typed HO_2.out) (by decide))).1 _ rfl).2) hs_))
                        have HS1_ := cell_kept (hHeld.2) hkp (by first | (rw [add_block]; exact (fun hs_ => (((Kd.S_R (Kd.S_apart' HO_10.out (Kd.S_typed HO_2.out) (by decide))).1 _ rfl).2) hs_)) | (show ¬ _; simp only [add_block]; exact (fun hs_ => (((Kd.S_R (Kd.S_apart' HO_10.out (Kd.S_typed HO_2.out) (by decide))).1 _ rfl).2) hs_)) | exact (fun hs_ => (((Kd.S_R (Kd.S_apart' HO_10.out (Kd.S_typed HO_2.out) (by decide))).1 _ rfl).2) hs_))
                        refine ⟨_, rfl, ?_⟩
                        have n0_ := Aside0.mk (Kd.S_mono (ok' := fun k_ => (PQ_ k_ ∨ w.heap.size ≤ k_) ∧ some k_ ≠ (.slice (some ad122) t118.length co37 : Value).ownBlock) (Kd.S_keptB ((Kd.S_apart' HO_9.out (Kd.S_typed HO_2.out) (by decide))) hkp (fun k_ hk_ hs_ => (hk_.2) hs_)) (fun k_ hk_ => ⟨hk_.1.1.1, hk_.1.1.2⟩))
                        have n1_ := Aside0.mk (Kd.S_mono (ok' := fun k_ => (PQ_ k_ ∨ w.heap.size ≤ k_) ∧ some k_ ≠ (.slice (some ad121) t115.length co29 : Value).ownBlock) (Kd.S_keptB ((Kd.S_apart' HO_10.out (Kd.S_typed HO_2.out) (by decide))) hkp (fun k_ hk_ hs_ => (hk_.2) hs_)) (fun k_ hk_ => ⟨hk_.1.1.1, hk_.1.1.2⟩))
                        have n2_ := Aside0.mk (Kd.S_mono (ok' := fun k_ => (PQ_ k_ ∨ w.heap.size ≤ k_)) ho0 (fun k_ hk_ => Or.elim hk_ (fun hs_ => hs_) (fun hn_ => (.inr (Nat.le_trans (by first | exact HK.out.1 | exact (show Kept w _ (fun k_ => P2_ k_) from by repeat (first | (with_reducible first | exact HK.out | apply Kept.alloc | apply Kept.drewN | apply Kept.drew) | exact HK.out)).1) hn_)))))
                        have n3_ := Aside0.mk (Kept.then_ (S := (fun k_ => P2_ k_)) (by repeat (first | (with_reducible first | exact HK.out | apply Kept.alloc | apply Kept.drewN | apply Kept.drew) | exact HK.out)) hkp (fun k_ hs_ => HV.out k_ hs_.symm))
                        have n4_ := Aside0.mk (hb)
                        have n5_ := Aside0.mk (show ∀ k_ : Nat, (v124 : Value).ownBlock = some k_ → P2_ k_ ∨ w.heap.size ≤ k_ from fun k_ e_ => (hv k_ e_).elim (fun e2_ => HV.out k_ e2_.symm) (fun hn_ => .inr (Nat.le_trans (show Kept w _ (fun k_ => P2_ k_) from by repeat (first | (with_reducible first | exact HK.out | apply Kept.alloc | apply Kept.drewN | apply Kept.drew) | exact HK.out)).1 hn_)))
                        clear HV hv
                        have HV := n5_
                        clear n5_
                        clear HO_9
                        clear HO_10
                        clear HK
                        clear HB
                        clear HO_2
                        clear HL121_0
                        clear HL122_0
                        have HO_9 := n0_
                        have HO_10 := n1_
                        have HO125 := n2_
                        have HK := n3_
                        have HB := n4_
                        clear n0_ n1_ n2_ n3_ n4_
                        (try clear hb)
                        (try clear hkp)
                        (try clear ho0)
                        refine hK.out _ _ ⟨HS0_, HS1_⟩ (fun hHeld => ?_)
                        clear hK K
                        refine norm_ (a' := ?_) ?_ ?_
                        rotate_left
                        · show Act.put _ (some 68) _ = _
                          simp only [Act.put, List.setIfInBounds_toArray, List.set_cons_zero, List.set_cons_succ, i64_w, i32_w]
                          rfl
                        refine pure_ (i := 10) (N := some 58) (v := ?_) (a' := ?_) #[true, true, true, true, true, true, true, true, true, true, true, false, false, false, false] rfl rfl (any_of HT_.out (by kernel_rfl)) (fun _ _ _ h => h) (Or.inl ⟨by rfl, ?_⟩) ?_ ?_
                        rotate_left
                        · intro w'
                          go_simp
                          with_reducible rfl
                        rotate_left
                        · simp only [Act.put, List.setIfInBounds_toArray, List.set_cons_zero, List.set_cons_succ, i64_w, i32_w]
                          rfl
                        refine pure_ (i := 11) (N := some 69) (v := ?_) (a' := ?_) #[true, true, true, true, true, true, true, true, true, true, true, true, false, false, false] rfl rfl (any_of HT_.out (by kernel_rfl)) (fun _ _ _ h => h) (Or.inl ⟨by rfl, ?_⟩) ?_ ?_
                        rotate_left
                        · intro w'
                          go_simp
                          with_reducible rfl
                        rotate_left
                        · simp only [Act.put, List.setIfInBounds_toArray, List.set_cons_zero, List.set_cons_succ, i64_w, i32_w]
                          rfl
                        refine pure_ (i := 12) (N := some 70) (v := ?_) (a' := ?_) #[true, true, true, true, true, true, true, true, true, true, true, true, true, false, false] rfl rfl (any_of HT_.out (by kernel_rfl)) (fun _ _ _ h => h) (Or.inl ⟨by rfl, ?_⟩) ?_ ?_
                        rotate_left
                        · intro w'
                          go_simp
                          with_reducible rfl
                        rotate_left
                        · simp only [Act.put, List.setIfInBounds_toArray, List.set_cons_zero, List.set_cons_succ, i64_w, i32_w]
                          rfl
                        refine pure_ (i := 13) (N := some 12) (v := ?_) (a' := ?_) #[true, true, true, true, true, true, true, true, true, true, true, true, true, true, false] rfl rfl (any_of HT_.out (by kernel_rfl)) (fun _ _ _ h => h) (Or.inl ⟨by rfl, ?_⟩) ?_ ?_
                        rotate_left
                        · intro w'
                          go_simp
                          with_reducible rfl
                        rotate_left
                        · simp only [Act.put, List.setIfInBounds_toArray, List.set_cons_zero, List.set_cons_succ, i64_w, i32_w]
                          rfl
                        refine pure_ (i := 14) (N := some 13) (v := ?_) (a' := ?_) #[true, true, true, true, true, true, true, true, true, true, true, true, true, true, true] rfl rfl (any_of HT_.out (by kernel_rfl)) (fun _ _ _ h => h) (Or.inl ⟨by rfl, ?_⟩) ?_ ?_
                        rotate_left
                        · intro w'
                          go_simp
                          with_reducible rfl
                        rotate_left
                        · simp only [Act.put, List.setIfInBounds_toArray, List.set_cons_zero, List.set_cons_succ, i64_w, i32_w]
                          rfl
                        refine done_ (done_of HT_.out (by kernel_rfl)) ?_
                        try go_wp2
                        go_roundg k1
                        case measure => have := HK1.out; omega
                        case rel => exact ⟨(t123), (wrap64 (x55_1 + 1)), (by first | rfl | (simp; done) | (simp [*]; done)), H', ⟨by have := HK1.out; omega⟩, ⟨by (with_reducible repeat (first | apply Kd.S_alloc | apply Kd.S_drewN | apply Kd.S_drew)); exact HO125.out⟩, ⟨by (with_reducible repeat (first | apply Kd.S_alloc | apply Kd.S_drewN | apply Kd.S_drew)); exact HO_9.out⟩, ⟨by (with_reducible repeat (first | apply Kd.S_alloc | apply Kd.S_drewN | apply Kd.S_drew)); exact HO_10.out⟩, ⟨by repeat (first | (with_reducible first | exact HK.out | apply Kept.alloc | apply Kept.drewN | apply Kept.drew) | exact HK.out)⟩, ⟨by repeat (first | (with_reducible first | exact HB.out | apply below_alloc | apply pw_below_drewN | apply below_drew1) | exact HB.out)⟩, HV⟩
                      · replace c35 := Bool.eq_false_iff.mpr c35
                        subst c35
                        have H1 : (some (([] : List (S44)), false)) = some (r1, r2) := by rw [if_neg (show ¬ (false = true) by decide)] at H; exact H
                        clear H
                        have H := H1
                        clear H1
                        simp only [Option.some.injEq, Prod.mk.injEq] at H
                        obtain ⟨rfl, rfl⟩ := H
                        try go_wp2
                        have n0_ := Aside0.mk (Kd.S_drew HO_2.out)
                        have n1_ := Aside0.mk (Kd.S_drew HO_9.out)
                        have n2_ := Aside0.mk (Kd.S_drew HO_10.out)
                        have n3_ := Aside0.mk (Kept.drew HK.out)
                        have n4_ := Aside0.mk (below_drew1 HB.out)
                        clear HO_2
                        clear HO_9
                        clear HO_10
                        clear HK
                        clear HB
                        have HO_2 := n0_
                        have HO_9 := n1_
                        have HO_10 := n2_
                        have HK := n3_
                        have HB := n4_
                        clear n0_ n1_ n2_ n3_ n4_
                        have p121 : 0 ≤ (x55_1 : Int) := of_decide_eq_true (by first | (with_reducible assumption) | assumption)
                        have q121 : x55_1 < (t115.length : Int) := of_decide_eq_true (by first | (with_reducible assumption) | assumption)
                        obtain ⟨ad121, A121_0, c121_0, e121, hx121_0, hl121_0, hi121_0⟩ := at_L3 (Kd.S_reads' HO_9.out).2.2 x55_1 p121 q121
                        cases e121
                        obtain ⟨ce121, hce121, hMe121, hcc121⟩ := Kd.S_get HO_9.out [] x55_1 p121 (by first | exact q121 | exact of_decide_eq_true (by first | (with_reducible assumption) | assumption) | (have e_ := (Kd.S_reads' HO_9.out).1; omega))
                        obtain ⟨ve121_0, rfl, ge121_0⟩ := hMe121
                        have hv121_0 := hcc121 0 _ rfl
                        rw [Nat.add_zero, show ((Kd.slice 47 k47)).sz = 1 from rfl, Nat.mul_one] at hv121_0
                        replace hv121_0 := Option.some.inj (hv121_0.symm.trans hx121_0)
                        rw [hv121_0] at ge121_0
                        have HL121_0 := Aside0.mk (show Kd.R k47 47 _ _ _ _ (rd_L3 t115 x55_1) from ge121_0)
                        clear hv121_0 ge121_0
                        clear hcc121 hce121
                        have HR121_0 := Aside0.mk hi121_0
                        have HC121_0 := Aside0.mk hl121_0
                        clear hi121_0 hl121_0
                        replace p121 := eq_true p121
                        replace q121 := eq_true q121
                        obtain ⟨Ao41, co41, eo41⟩ := Kd.S_slice HO_10.out
                        (first | subst eo41 | (injection eo41 with f1_ f2_ f3_; have f4_ := f1_.symm; have f5_ := f3_.symm; clear f1_ f2_ f3_; subst f4_; subst f5_))
                        have p122 : 0 ≤ (x55_1 : Int) := of_decide_eq_true (by first | (with_reducible assumption) | assumption)
                        have q122 : x55_1 < (t118.length : Int) := of_decide_eq_true (by first | (with_reducible assumption) | assumption)
                        obtain ⟨ad122, A122_0, c122_0, e122, hx122_0, hl122_0, hi122_0⟩ := at_L3 (Kd.S_reads' HO_10.out).2.2 x55_1 p122 q122
                        cases e122
                        obtain ⟨ce122, hce122, hMe122, hcc122⟩ := Kd.S_get HO_10.out [] x55_1 p122 (by first | exact q122 | exact of_decide_eq_true (by first | (with_reducible assumption) | assumption) | (have e_ := (Kd.S_reads' HO_10.out).1; omega))
                        obtain ⟨ve122_0, rfl, ge122_0⟩ := hMe122
                        have hv122_0 := hcc122 0 _ rfl
                        rw [Nat.add_zero, show ((Kd.slice 47 k47)).sz = 1 from rfl, Nat.mul_one] at hv122_0
                        replace hv122_0 := Option.some.inj (hv122_0.symm.trans hx122_0)
                        rw [hv122_0] at ge122_0
                        have HL122_0 := Aside0.mk (show Kd.R k47 47 _ _ _ _ (rd_L3 t118 x55_1) from ge122_0)
                        clear hv122_0 ge122_0
                        clear hcc122 hce122
                        have HR122_0 := Aside0.mk hi122_0
                        have HC122_0 := Aside0.mk hl122_0
                        clear hi122_0 hl122_0
                        replace p122 := eq_true p122
                        replace q122 := eq_true q122
                        obtain ⟨Ao42, co42, eo42⟩ := Kd.S_slice HO_2.out
                        (first | subst eo42 | (injection eo42 with f1_ f2_ f3_; have f4_ := f1_.symm; have f5_ := f3_.symm; clear f1_ f2_ f3_; subst f4_; subst f5_))
                        refine start_ (n := 15) (S := fun w' => w'.cell? (ad121.add (x55_1).toNat) = some (.slice A121_0 (rd_L3 t115 x55_1).length c121_0) ∧ w'.cell? (ad122.add (x55_1).toNat) = some (.slice A122_0 (rd_L3 t118 x55_1).length c122_0)) (ds := []) #[false, false, false, false, false, false, false, false, false, false, false, false, false, false, false] (by kernel_rfl) rfl rfl ⟨hx121_0, hx122_0⟩ (fun hHeld => ?_); refine with_tabW aumbryref05_Fit.tab12 aumbryref05_Fit.bits12 (fun HT_ HW_ => ?_)
                        generalize wr.drew = w40 at HO_2 HO_9 HO_10 HK HB HL121_0 HL122_0 HR121_0 HR122_0 hx121_0 hx122_0 hHeld ⊢
                        refine pure_ (i := 0) (N := some 59) (v := ?_) (a' := ?_) #[true, false, false, false, false, false, false, false, false, false, false, false, false, false, false] rfl rfl (any_of HT_.out (by kernel_rfl)) (fun _ _ _ h => h) (Or.inl ⟨by rfl, ?_⟩) ?_ ?_
                        rotate_left
                        · intro w'
                          go_simp
                          with_reducible rfl
                        rotate_left
                        · simp only [Act.put, List.setIfInBounds_toArray, List.set_cons_zero, List.set_cons_succ, i64_w, i32_w]
                          rfl
                        refine pure_ (i := 1) (N := some 60) (v := ?_) (a' := ?_) #[true, true, false, false, false, false, false, false, false, false, false, false, false, false, false] rfl rfl (any_of HT_.out (by kernel_rfl)) (fun _ _ _ h => h) (Or.inl ⟨by rfl, ?_⟩) ?_ ?_
                        rotate_left
                        · intro w'
                          go_simp
                          with_reducible rfl
                        rotate_left
                        · simp only [Act.put, List.setIfInBounds_toArray, List.set_cons_zero, List.set_cons_succ, i64_w, i32_w]
                          rfl
                        refine pure_ (i := 2) (N := some 61) (v := ?_) (a' := ?_) #[true, true, true, false, false, false, false, false, false, false, false, false, false, false, false] rfl rfl (any_of HT_.out (by kernel_rfl)) (fun _ _ _ h => h) (Or.inl ⟨by rfl, ?_⟩) ?_ ?_
                        rotate_left
                        · intro w'
                          go_simp
                          with_reducible rfl
                        rotate_left
                        · simp only [Act.put, List.setIfInBounds_toArray, List.set_cons_zero, List.set_cons_succ, i64_w, i32_w]
                          rfl
                        refine pure_ (i := 4) (N := some 63) (v := ?_) (a' := ?_) #[true, true, true, false, true, false, false, false, false, false, false, false, false, false, false] rfl rfl (any_of HT_.out (by kernel_rfl)) (fun _ _ _ h => h) (Or.inl ⟨by rfl, ?_⟩) ?_ ?_
                        rotate_left
                        · intro w'
                          go_simp
                          with_reducible rfl
                        rotate_left
                        · simp only [Act.put, List.setIfInBounds_toArray, List.set_cons_zero, List.set_cons_succ, i64_w, i32_w]
                          rfl
                        refine pure_ (i := 5) (N := some 64) (v := ?_) (a' := ?_) #[true, true, true, false, true, true, false, false, false, false, false, false, false, false, false] rfl rfl (any_of HT_.out (by kernel_rfl)) (fun _ _ _ h => h) (Or.inl ⟨by rfl, ?_⟩) ?_ ?_
                        rotate_left
                        · intro w'
                          go_simp
                          with_reducible rfl
                        rotate_left
                        · simp only [Act.put, List.setIfInBounds_toArray, List.set_cons_zero, List.set_cons_succ, i64_w, i32_w]
                          rfl
                        refine pure_ (i := 6) (N := some 65) (v := ?_) (a' := ?_) #[true, true, true, false, true, true, true, false, false, false, false, false, false, false, false] rfl rfl (any_of HT_.out (by kernel_rfl)) (fun _ _ _ h => h) (Or.inl ⟨by rfl, ?_⟩) ?_ ?_
                        rotate_left
                        · intro w'
                          go_simp
                          with_reducible rfl
                        rotate_left
                        · simp only [Act.put, List.setIfInBounds_toArray, List.set_cons_zero, List.set_cons_succ, i64_w, i32_w]
                          rfl
                        refine pure_ (i := 8) (N := some 67) (v := ?_) (a' := ?_) #[true, true, true, false, true, true, true, false, true, false, false, false, false, false, false] rfl rfl (any_of HT_.out (by kernel_rfl)) (fun _ _ _ h => h) (Or.inl ⟨by rfl, ?_⟩) ?_ ?_
                        rotate_left
                        · intro w'
                          go_simp
                          with_reducible rfl
                        rotate_left
                        · simp only [Act.put, List.setIfInBounds_toArray, List.set_cons_zero, List.set_cons_succ, i64_w, i32_w]
                          rfl
                        refine take_ (i := 3) (N := some 62) (v := ?_) (a' := ?_) #[true, true, true, true, true, true, true, false, true, false, false, false, false, false, false] rfl rfl (take_ofW HT_.out HW_.out (by kernel_rfl)) (fun _ _ _ h => h) (Or.inl ⟨by rfl, ?_⟩) hHeld ?_ ?_
                        rotate_left
                        · rintro w' ⟨s0, s1⟩
                          go_simp
                          with_reducible rfl
                        rotate_left
                        · simp only [Act.put, List.setIfInBounds_toArray, List.set_cons_zero, List.set_cons_succ, i64_w, i32_w]
                          rfl
                        refine take_ (i := 7) (N := some 66) (v := ?_) (a' := ?_) #[true, true, true, true, true, true, true, true, true, false, false, false, false, false, false] rfl rfl (take_ofW HT_.out HW_.out (by kernel_rfl)) (fun _ _ _ h => h) (Or.inl ⟨by rfl, ?_⟩) hHeld ?_ ?_
                        rotate_left
                        · rintro w' ⟨s0, s1⟩
                          go_simp
                          with_reducible rfl
                        rotate_left
                        · simp only [Act.put, List.setIfInBounds_toArray, List.set_cons_zero, List.set_cons_succ, i64_w, i32_w]
                          rfl
                        refine one_ (i := 9) (N := some 68) #[true, true, true, true, true, true, true, true, true, true, false, false, false, false, false] rfl rfl (one_of HT_.out (by kernel_rfl)) (by decide) (fun K hK => ?_)
                        refine goes_ Try.func27 (by kernel_rfl) rfl #[.slice A121_0 (rd_L3 t115 x55_1).length c121_0, .slice A122_0 (rd_L3 t118 x55_1).length c122_0, .slice Ao42 x2_1.length co42] (by rfl) rfl rfl (by (try simp only [List.map_toArray, List.map_cons, List.map_nil]); first | done | rfl | (simp only [List.length_drop, List.length_take]; rfl)) ?_
                        with_reducible refine (ih k1 (by have := HK1.out; omega) _ _ (rd_L3 t115 x55_1) _ _ (rd_L3 t118 x55_1) (fun k_ => some k_ = (.slice Ao42 x2_1.length co42 : Value).ownBlock) (fun k_ => (PQ_ k_ ∨ w.heap.size ≤ k_)) (.slice Ao42 x2_1.length co42) x2_1 t123 false w0 _ ?side1 ?side2 ?side3 ?side4 ?side5 ?side6 ?side7 A34.out).mono ?_
                        (case side1 => repeat (first | (with_reducible first | exact HB.out | apply below_alloc | apply pw_below_drewN | apply below_drew1) | exact HB.out))
                        (case side2 => exact Kd.C_kept_own ((Kd.R_apart' HL121_0.out (Kd.S_typed HO_2.out) (by decide))) (fun k_ hk_ hs_ => (hk_.2) hs_))
                        (case side3 => exact HC121_0.out)
                        (case side4 => exact Kd.C_kept_own ((Kd.R_apart' HL122_0.out (Kd.S_typed HO_2.out) (by decide))) (fun k_ hk_ hs_ => (hk_.2) hs_))
                        (case side5 => exact HC122_0.out)
                        (case side6 => exact HO_2.out)
                        (case side7 => exact fun k_ e_ => e_.symm)
                        rintro e w43 ⟨v124, rfl, ho0, hb, hkp, hv⟩
                        have HS0_ := cell_kept (hHeld.1) hkp (by first | (rw [add_block]; exact (fun hs_ => (((Kd.S_R (Kd.S_apart' HO_9.out (Kd.S_typed HO_2.out) (by decide))).1 _ rfl).2) hs_)) | (show ¬ _; simp only [add_block]; exact (fun hs_ => (((Kd.S_R (Kd.S_apart' HO_9.out (Kd.S_typed HO_2.out) (by decide))).1 _ rfl).2) hs_)) | exact (fun hs_ => (((Kd.S_R (Kd.S_apart' HO_9.out (Kd.S_typed HO_2.out) (by decide))).1 _ rfl).2) hs_))
                        have HS1_ := cell_kept (hHeld.2) hkp (by first | (rw [add_block]; exact (fun hs_ => (((Kd.S_R (Kd.S_apart' HO_10.out (Kd.S_typed HO_2.out) (by decide))).1 _ rfl).2) hs_)) | (show ¬ _; simp only [add_block]; exact (fun hs_ => (((Kd.S_R (Kd.S_apart' HO_10.out (Kd.S_typed HO_2.out) (by decide))).1 _ rfl).2) hs_)) | exact (fun hs_ => (((Kd.S_R (Kd.S_apart' HO_10.out (Kd.S_typed HO_2.out) (by decide))).1 _ rfl).2) hs_))
                        refine ⟨_, rfl, ?_⟩
                        have n0_ := Aside0.mk (Kd.S_mono (ok' := fun k_ => (PQ_ k_ ∨ w.heap.size ≤ k_) ∧ some k_ ≠ (.slice (some ad122) t118.length co41 : Value).ownBlock) (Kd.S_keptB ((Kd.S_apart' HO_9.out (Kd.S_typed HO_2.out) (by decide))) hkp (fun k_ hk_ hs_ => (hk_.2) hs_)) (fun k_ hk_ => ⟨hk_.1.1.1, hk_.1.1.2⟩))
                        have n1_ := Aside0.mk (Kd.S_mono (ok' := fun k_ => (PQ_ k_ ∨ w.heap.size ≤ k_) ∧ some k_ ≠ (.slice (some ad121) t115.length co29 : Value).ownBlock) (Kd.S_keptB ((Kd.S_apart' HO_10.out (Kd.S_typed HO_2.out) (by decide))) hkp (fun k_ hk_ hs_ => (hk_.2) hs_)) (fun k_ hk_ => ⟨hk_.1.1.1, hk_.1.1.2⟩))
                        have n2_ := Aside0.mk (Kd.S_mono (ok' := fun k_ => (PQ_ k_ ∨ w.heap.size ≤ k_)) ho0 (fun k_ hk_ => Or.elim hk_ (fun hs_ => hs_) (fun hn_ => (.inr (Nat.le_trans (by first | exact HK.out.1 | exact (show Kept w _ (fun k_ => P2_ k_) from by repeat (first | (with_reducible first | exact HK.out | apply Kept.alloc | apply Kept.drewN | apply Kept.drew) | exact HK.out)).1) hn_)))))
                        have n3_ := Aside0.mk (Kept.then_ (S := (fun k_ => P2_ k_)) (by repeat (first | (with_reducible first | exact HK.out | apply Kept.alloc | apply Kept.drewN | apply Kept.drew) | exact HK.out)) hkp (fun k_ hs_ => HV.out k_ hs_.symm))
                        have n4_ := Aside0.mk (hb)
                        have n5_ := Aside0.mk (show ∀ k_ : Nat, (v124 : Value).ownBlock = some k_ → P2_ k_ ∨ w.heap.size ≤ k_ from fun k_ e_ => (hv k_ e_).elim (fun e2_ => HV.out k_ e2_.symm) (fun hn_ => .inr (Nat.le_trans (show Kept w _ (fun k_ => P2_ k_) from by repeat (first | (with_reducible first | exact HK.out | apply Kept.alloc | apply Kept.drewN | apply Kept.drew) | exact HK.out)).1 hn_)))
                        clear HV hv
                        have HV := n5_
                        clear n5_
                        clear HO_9
                        clear HO_10
                        clear HK
                        clear HB
                        clear HO_2
                        clear HL121_0
                        clear HL122_0
                        have HO_9 := n0_
                        have HO_10 := n1_
                        have HO125 := n2_
                        have HK := n3_
                        have HB := n4_
                        clear n0_ n1_ n2_ n3_ n4_
                        (try clear hb)
                        (try clear hkp)
                        (try clear ho0)
                        refine hK.out _ _ ⟨HS0_, HS1_⟩ (fun hHeld => ?_)
                        clear hK K
                        refine norm_ (a' := ?_) ?_ ?_
                        rotate_left
                        · show Act.put _ (some 68) _ = _
                          simp only [Act.put, List.setIfInBounds_toArray, List.set_cons_zero, List.set_cons_succ, i64_w, i32_w]
                          rfl
                        refine pure_ (i := 10) (N := some 58) (v := ?_) (a' := ?_) #[true, true, true, true, true, true, true, true, true, true, true, false, false, false, false] rfl rfl (any_of HT_.out (by kernel_rfl)) (fun _ _ _ h => h) (Or.inl ⟨by rfl, ?_⟩) ?_ ?_
                        rotate_left
                        · intro w'
                          go_simp
                          with_reducible rfl
                        rotate_left
                        · simp only [Act.put, List.setIfInBounds_toArray, List.set_cons_zero, List.set_cons_succ, i64_w, i32_w]
                          rfl
                        refine pure_ (i := 11) (N := some 69) (v := ?_) (a' := ?_) #[true, true, true, true, true, true, true, true, true, true, true, true, false, false, false] rfl rfl (any_of HT_.out (by kernel_rfl)) (fun _ _ _ h => h) (Or.inl ⟨by rfl, ?_⟩) ?_ ?_
                        rotate_left
                        · intro w'
                          go_simp
                          with_reducible rfl
                        rotate_left
                        · simp only [Act.put, List.setIfInBounds_toArray, List.set_cons_zero, List.set_cons_succ, i64_w, i32_w]
                          rfl
                        refine pure_ (i := 12) (N := some 70) (v := ?_) (a' := ?_) #[true, true, true, true, true, true, true, true, true, true, true, true, true, false, false] rfl rfl (any_of HT_.out (by kernel_rfl)) (fun _ _ _ h => h) (Or.inl ⟨by rfl, ?_⟩) ?_ ?_
                        rotate_left
                        · intro w'
                          go_simp
                          with_reducible rfl
                        rotate_left
                        · simp only [Act.put, List.setIfInBounds_toArray, List.set_cons_zero, List.set_cons_succ, i64_w, i32_w]
                          rfl
                        refine pure_ (i := 13) (N := some 12) (v := ?_) (a' := ?_) #[true, true, true, true, true, true, true, true, true, true, true, true, true, true, false] rfl rfl (any_of HT_.out (by kernel_rfl)) (fun _ _ _ h => h) (Or.inl ⟨by rfl, ?_⟩) ?_ ?_
                        rotate_left
                        · intro w'
                          go_simp
                          with_reducible rfl
                        rotate_left
                        · simp only [Act.put, List.setIfInBounds_toArray, List.set_cons_zero, List.set_cons_succ, i64_w, i32_w]
                          rfl
                        refine pure_ (i := 14) (N := some 13) (v := ?_) (a' := ?_) #[true, true, true, true, true, true, true, true, true, true, true, true, true, true, true] rfl rfl (any_of HT_.out (by kernel_rfl)) (fun _ _ _ h => h) (Or.inl ⟨by rfl, ?_⟩) ?_ ?_
                        rotate_left
                        · intro w'
                          go_simp
                          with_reducible rfl
                        rotate_left
                        · simp only [Act.put, List.setIfInBounds_toArray, List.set_cons_zero, List.set_cons_succ, i64_w, i32_w]
                          rfl
                        refine done_ (done_of HT_.out (by kernel_rfl)) ?_
                        try go_wp2
                        go_ret2
                        exact ⟨_, by first | rfl | (simp [errW_none, errW_some] <;> rfl) | (simp [*, errW_none, errW_some] <;> rfl), by first | exact Kd.S_nil _ _ _ _ _ | exact Kd.N_nil _ _ _ _ _ | exact Kd.V_nil _ _ _ _ _ | exact Kd.Q_nil _ _ _ _ _ | exact Kd.R_nil _ _ _ _ _, by repeat (first | (with_reducible first | exact HB.out | apply below_alloc | apply pw_below_drewN | apply below_drew1) | exact HB.out), by repeat (first | (with_reducible first | exact HK.out | apply Kept.alloc | apply Kept.drewN | apply Kept.drew) | exact HK.out), fun k_ e_ => by simp [Value.ownBlock] at e_⟩
                    · rw [if_neg c33] at H
                      exact absurd H (by simp)
                  · rw [if_neg c32] at H
                    exact absurd H (by simp)
                · rw [if_neg c31] at H
                  exact absurd H (by simp)
              · rw [if_neg c30] at H
                have c30b0 : decide (x55_1 < (t115.length : Int)) = false := decide_eq_false c30
                clear c30
                simp only [Option.some.injEq, Prod.mk.injEq] at H
                obtain ⟨rfl, rfl⟩ := H
                go_wp2
                go_ret2
                exact ⟨_, by first | rfl | (simp [errW_none, errW_some] <;> rfl) | (simp [*, errW_none, errW_some] <;> rfl), by (with_reducible repeat (first | apply Kd.S_alloc | apply Kd.S_drewN | apply Kd.S_drew)); exact HO_2.out, by repeat (first | (with_reducible first | exact HB.out | apply below_alloc | apply pw_below_drewN | apply below_drew1) | exact HB.out), by repeat (first | (with_reducible first | exact HK.out | apply Kept.alloc | apply Kept.drewN | apply Kept.drew) | exact HK.out), by first | exact HV2.out | exact HV.out⟩
      · rw [if_neg c21] at H
        exact absurd H (by simp)
    · rw [if_neg c20] at H
      exact absurd H (by simp)

theorem aumbryref05_Fit.calls (k : Nat) : ∀ (A0 : Option Addr) (c0 : Nat) (l0 : List (S47)) (A1 : Option Addr) (c1 : Nat) (l1 : List (S47)) (P2_ : Nat → Prop) (u9000_ : Value) (l2 : List (S44)) (r1 : List (S44)) (r2 : Bool) (w0 w : World) (hB : Below w0.heap.size w0 w) (hr0 : ∀ W_, Kept w W_ (fun k_ => P2_ k_) → Kd.C k47 W_ A0 l0.length l0) (hc0 : l0.length ≤ c0) (hr1 : ∀ W_, Kept w W_ (fun k_ => P2_ k_) → Kd.C k47 W_ A1 l1.length l1) (hc1 : l1.length ≤ c1) (ho2 : Kd.S k44 44 w w0.heap.size P2_ u9000_ l2) (h : aumbryref05_Fit.f k l0 l1 l2 = some (r1, r2)),
    Calls Try.prog 27 #[.slice A0 l0.length c0, .slice A1 l1.length c1, u9000_] w fun e w' => ∃ v0_ : Value, e = .returned (.tuple #[v0_, .bool r2]) ∧ Kd.S k44 44 w' w0.heap.size (fun k_ => (P2_ k_ ∨ w.heap.size ≤ k_)) v0_ r1 ∧ Below w0.heap.size w0 w' ∧ Kept w w' (fun k_ => P2_ k_) := by
  intro A0 c0 l0 A1 c1 l1 P2_ u9000_ l2 r1 r2 w0 w hB hr0 hc0 hr1 hc1 ho2 h
  refine (aumbryref05_Fit.callsN k A0 c0 l0 A1 c1 l1 P2_ P2_ u9000_ l2 r1 r2 w0 w hB hr0 hc0 hr1 hc1 ho2 (fun k_ e_ => (Kd.S_R ho2).1 k_ e_) h).mono ?_
  rintro e w' ⟨v0_, he, ho, hb, hk, _⟩
  exact ⟨v0_, he, ho, hb, hk⟩

end Go.Proofs.Ytlfhonekcmlomaa.P

-- ==== PF12
namespace Go.Proofs.Ytlfhonekcmlomaa.P
open Go.RowKit Go.Proofs.YtlfhonekcmlomaaW.PrintWords Go.Proofs.YtlfhonekcmlomaaW.PrintLast Go.Proofs.YtlfhonekcmlomaaW.PrintMore
attribute [local go_sem] max2_int min2_int max_two min_two max_three min_three max_four min_four   -- for this text's walks alone
set_option linter.unusedVariables false
set_option linter.unusedSimpArgs false

/-! ### aumbryref05_Match: function 12 -/
def aumbryref05_Match.f (k : Nat) (l0 : List (S47)) (l1 : List (S47)) : Option ((List (S44)) × Bool × Int) := (aumbryref04_Check.f k l0).bind fun t101 => (if t101 = 0 then ((aumbryref04_Check.f k l1).bind fun t102 => (if t102 = 0 then ((aumbryref05_Fit.f k l0 l1 ([] : List (S44))).bind fun bt103 => (if bt103.2 = true then (some (bt103.1, true, 0)) else (some (([] : List (S44)), false, 0)))) else (some (([] : List (S44)), false, t102)))) else (some (([] : List (S44)), false, t101)))
theorem aumbryref05_Match.mono : ∀ a0 a1 k, LeO (aumbryref05_Match.f k a0 a1) (aumbryref05_Match.f (k + 1) a0 a1) := by
  intro a0 a1 k
  unfold aumbryref05_Match.f
  repeat' first
      | (with_reducible exact aumbryref04_Check.mono _ _)
      | (with_reducible exact aumbryref05_Fit.mono _ _ _ _)
      | (with_reducible exact LeO.refl _)
      | (with_reducible exact LeO.none _)
      | (with_reducible refine LeO.ite ?_ ?_)
      | (with_reducible refine LeO.bind ?_ (fun _ => ?_))
      | exact aumbryref04_Check.mono _ _
      | exact aumbryref05_Fit.mono _ _ _ _
      | exact LeO.none _
      | refine LeO.ite ?_ ?_
      | refine LeO.bind ?_ (fun _ => ?_)
set_option maxHeartbeats 8000000 in
set_option maxRecDepth 100000 in
theorem aumbryref05_Match.calls (k : Nat) (A0 : Option Addr) (c0 : Nat) (l0 : List (S47)) (A1 : Option Addr) (c1 : Nat) (l1 : List (S47)) (r1 : List (S44)) (r2 : Bool) (r3 : Int) (w : World) (hr0 : Kd.C k47 w A0 l0.length l0) (hc0 : l0.length ≤ c0) (hr1 : Kd.C k47 w A1 l1.length l1) (hc1 : l1.length ≤ c1) (h : aumbryref05_Match.f k l0 l1 = some (r1, r2, r3)) :
    Calls Try.prog 12 #[.slice A0 l0.length c0, .slice A1 l1.length c1] w fun e w' => ∃ v0_ : Value, e = .returned (.tuple #[v0_, .bool r2, .int .i64 r3]) ∧ Kd.S k44 44 w' w.heap.size (fun _ => True) v0_ r1 ∧ Below w.heap.size w w' := by
  have HR0 := Aside0.mk hr0
  have HC0 := Aside0.mk hc0
  clear hr0 hc0
  have HR1 := Aside0.mk hr1
  have HC1 := Aside0.mk hc1
  clear hr1 hc1
  have HB := Aside0.mk (Below.refl w.heap.size w)
  have H : ((aumbryref04_Check.f k l0).bind fun t101 => (if t101 = 0 then ((aumbryref04_Check.f k l1).bind fun t102 => (if t102 = 0 then ((aumbryref05_Fit.f k l0 l1 ([] : List (S44))).bind fun bt103 => (if bt103.2 = true then (some (bt103.1, true, 0)) else (some (([] : List (S44)), false, 0)))) else (some (([] : List (S44)), false, t102)))) else (some (([] : List (S44)), false, t101)))) = some (r1, r2, r3) := h
  clear h
  replace H := Option.bind_eq_some_iff.mp H
  obtain ⟨t101, A30, H⟩ := H
  replace H : (if t101 = 0 then ((aumbryref04_Check.f k l1).bind fun t102 => (if t102 = 0 then ((aumbryref05_Fit.f k l0 l1 ([] : List (S44))).bind fun bt103 => (if bt103.2 = true then (some (bt103.1, true, 0)) else (some (([] : List (S44)), false, 0)))) else (some (([] : List (S44)), false, t102)))) else (some (([] : List (S44)), false, t101))) = some (r1, r2, r3) := H
  have A3 := Aside0.mk A30
  clear A30
  by_cases c4 : t101 = 0
  · rw [if_pos c4] at H
    have c4b0 : (t101 == 0) = true := beq_iff_eq.mpr c4
    have c4b1 : (t101 != 0) = false := bne_eq_false_iff_eq.mpr c4
    clear c4
    replace H := Option.bind_eq_some_iff.mp H
    obtain ⟨t102, A50, H⟩ := H
    replace H : (if t102 = 0 then ((aumbryref05_Fit.f k l0 l1 ([] : List (S44))).bind fun bt103 => (if bt103.2 = true then (some (bt103.1, true, 0)) else (some (([] : List (S44)), false, 0)))) else (some (([] : List (S44)), false, t102))) = some (r1, r2, r3) := H
    have A5 := Aside0.mk A50
    clear A50
    by_cases c6 : t102 = 0
    · rw [if_pos c6] at H
      have c6b0 : (t102 == 0) = true := beq_iff_eq.mpr c6
      have c6b1 : (t102 != 0) = false := bne_eq_false_iff_eq.mpr c6
      clear c6
      replace H := Option.bind_eq_some_iff.mp H
      obtain ⟨⟨t103, t106⟩, A70, H⟩ := H
      replace H : (if t106 = true then (some (t103, true, 0)) else (some (([] : List (S44)), false, 0))) = some (r1, r2, r3) := H
      have A7 := Aside0.mk A70
      clear A70
      by_cases c8 : t106 = true
      · subst c8
        have H1 : (some (t103, true, 0)) = some (r1, r2, r3) := by rw [if_pos rfl] at H; exact H
        clear H
        have H := H1
        clear H1
        simp only [Option.some.injEq, Prod.mk.injEq] at H
        obtain ⟨rfl, rfl, rfl⟩ := H
        go_enter Try.func12, Try.ntmps12
        go_wp2_with (first | ((with_reducible refine gate_callee (f := 26) rfl ?_); refine goesL_ (some 12) rfl rfl Try.func26 (by kernel_rfl) rfl #[.slice A0 l0.length c0] rfl (by (try simp only [List.map_toArray, List.map_cons, List.map_nil]); first | done | rfl | (simp only [List.length_drop, List.length_take]; rfl)) ?_; (with_reducible refine (aumbryref04_Check.calls k _ _ l0 t101 _ ?side1 ?side2 A3.out).mono ?_); (case side1 => repeat (first | exact HR0.out | (with_reducible refine Kd.C_alloc ?_ _) | (with_reducible refine Kd.C_drewN ?_ _) | (with_reducible refine Kd.C_drew ?_))); (case side2 => exact HC0.out); rintro e w' ⟨rfl, ⟨nd, rfl⟩⟩; refine ⟨_, rfl, ?_⟩) | ((with_reducible refine gate_callee (f := 26) rfl ?_); refine goesL_ (some 17) rfl rfl Try.func26 (by kernel_rfl) rfl #[.slice A1 l1.length c1] rfl (by (try simp only [List.map_toArray, List.map_cons, List.map_nil]); first | done | rfl | (simp only [List.length_drop, List.length_take]; rfl)) ?_; (with_reducible refine (aumbryref04_Check.calls k _ _ l1 t102 _ ?side1 ?side2 A5.out).mono ?_); (case side1 => repeat (first | exact HR1.out | (with_reducible refine Kd.C_alloc ?_ _) | (with_reducible refine Kd.C_drewN ?_ _) | (with_reducible refine Kd.C_drew ?_))); (case side2 => exact HC1.out); rintro e w' ⟨rfl, ⟨nd, rfl⟩⟩; refine ⟨_, rfl, ?_⟩) | ((with_reducible refine gate_callee (f := 27) rfl ?_); refine goesL_ (some 24) rfl rfl Try.func27 (by kernel_rfl) rfl #[.slice A0 l0.length c0, .slice A1 l1.length c1, .slice none 0 0] rfl (by (try simp only [List.map_toArray, List.map_cons, List.map_nil]); first | done | rfl | (simp only [List.length_drop, List.length_take]; rfl)) ?_; (refine (aumbryref05_Fit.calls k _ _ l0 _ _ l1 (fun k_ => some k_ = (.slice none 0 0 : Value).ownBlock) (.slice none 0 0) ([] : List (S44)) t103 true w _ ?side1 ?side2 ?side3 ?side4 ?side5 ?side6 A7.out).mono ?_); (case side1 => repeat (first | (with_reducible first | exact HB.out | apply below_alloc | apply pw_below_drewN | apply below_drew1) | exact HB.out)); (case side2 => exact Kd.C_kept_came k47_heap HR0.out (by repeat (first | (with_reducible first | exact HB.out | apply below_alloc | apply pw_below_drewN | apply below_drew1) | exact HB.out)) (fun k_ hs_ => (fun e_ => by simp [Value.ownBlock] at e_) hs_)); (case side3 => exact HC0.out); (case side4 => exact Kd.C_kept_came k47_heap HR1.out (by repeat (first | (with_reducible first | exact HB.out | apply below_alloc | apply pw_below_drewN | apply below_drew1) | exact HB.out)) (fun k_ hs_ => (fun e_ => by simp [Value.ownBlock] at e_) hs_)); (case side5 => exact HC1.out); (case side6 => exact Kd.S_nil _ _ _ _ _); rintro e w9 ⟨v104, rfl, ho0, hb, hkp⟩; refine ⟨_, rfl, ?_⟩; have n0_ := Aside0.mk (Kd.S_mono (ok' := fun k_ => True) ho0 (fun k_ hk_ => trivial)); have n1_ := Aside0.mk (hb); clear HB; have HO105 := n0_; have HB := n1_; clear n0_ n1_; (try clear hb); (try clear hkp); (try clear ho0)))
        go_ret3
        exact ⟨_, by first | rfl | (simp [errW_none, errW_some] <;> rfl) | (simp [*, errW_none, errW_some] <;> rfl), by (with_reducible repeat (first | apply Kd.S_alloc | apply Kd.S_drewN | apply Kd.S_drew)); exact HO105.out, by repeat (first | (with_reducible first | exact HB.out | apply below_alloc | apply pw_below_drewN | apply below_drew1) | exact HB.out)⟩
      · replace c8 := Bool.eq_false_iff.mpr c8
        subst c8
        have H1 : (some (([] : List (S44)), false, 0)) = some (r1, r2, r3) := by rw [if_neg (show ¬ (false = true) by decide)] at H; exact H
        clear H
        have H := H1
        clear H1
        simp only [Option.some.injEq, Prod.mk.injEq] at H
        obtain ⟨rfl, rfl, rfl⟩ := H
        go_enter Try.func12, Try.ntmps12
        go_wp2_with (first | ((with_reducible refine gate_callee (f := 26) rfl ?_); refine goesL_ (some 12) rfl rfl Try.func26 (by kernel_rfl) rfl #[.slice A0 l0.length c0] rfl (by (try simp only [List.map_toArray, List.map_cons, List.map_nil]); first | done | rfl | (simp only [List.length_drop, List.length_take]; rfl)) ?_; (with_reducible refine (aumbryref04_Check.calls k _ _ l0 t101 _ ?side1 ?side2 A3.out).mono ?_); (case side1 => repeat (first | exact HR0.out | (with_reducible refine Kd.C_alloc ?_ _) | (with_reducible refine Kd.C_drewN ?_ _) | (with_reducible refine Kd.C_drew ?_))); (case side2 => exact HC0.out); rintro e w' ⟨rfl, ⟨nd, rfl⟩⟩; refine ⟨_, rfl, ?_⟩) | ((with_reducible refine gate_callee (f := 26) rfl ?_); refine goesL_ (some 17) rfl rfl Try.func26 (by kernel_rfl) rfl #[.slice A1 l1.length c1] rfl (by (try simp only [List.map_toArray, List.map_cons, List.map_nil]); first | done | rfl | (simp only [List.length_drop, List.length_take]; rfl)) ?_; (with_reducible refine (aumbryref04_Check.calls k _ _ l1 t102 _ ?side1 ?side2 A5.out).mono ?_); (case side1 => repeat (first | exact HR1.out | (with_reducible refine Kd.C_alloc ?_ _) | (with_reducible refine Kd.C_drewN ?_ _) | (with_reducible refine Kd.C_drew ?_))); (case side2 => exact HC1.out); rintro e w' ⟨rfl, ⟨nd, rfl⟩⟩; refine ⟨_, rfl, ?_⟩) | ((with_reducible refine gate_callee (f := 27) rfl ?_); refine goesL_ (some 24) rfl rfl Try.func27 (by kernel_rfl) rfl #[.slice A0 l0.length c0, .slice A1 l1.length c1, .slice none 0 0] rfl (by (try simp only [List.map_toArray, List.map_cons, List.map_nil]); first | done | rfl | (simp only [List.length_drop, List.length_take]; rfl)) ?_; (refine (aumbryref05_Fit.calls k _ _ l0 _ _ l1 (fun k_ => some k_ = (.slice none 0 0 : Value).ownBlock) (.slice none 0 0) ([] : List (S44)) t103 false w _ ?side1 ?side2 ?side3 ?side4 ?side5 ?side6 A7.out).mono ?_); (case side1 => repeat (first | (with_reducible first | exact HB.out | apply below_alloc | apply pw_below_drewN | apply below_drew1) | exact HB.out)); (case side2 => exact Kd.C_kept_came k47_heap HR0.out (by repeat (first | (with_reducible first | exact HB.out | apply below_alloc | apply pw_below_drewN | apply below_drew1) | exact HB.out)) (fun k_ hs_ => (fun e_ => by simp [Value.ownBlock] at e_) hs_)); (case side3 => exact HC0.out); (case side4 => exact Kd.C_kept_came k47_heap HR1.out (by repeat (first | (with_reducible first | exact HB.out | apply below_alloc | apply pw_below_drewN | apply below_drew1) | exact HB.out)) (fun k_ hs_ => (fun e_ => by simp [Value.ownBlock] at e_) hs_)); (case side5 => exact HC1.out); (case side6 => exact Kd.S_nil _ _ _ _ _); rintro e w10 ⟨v104, rfl, ho0, hb, hkp⟩; refine ⟨_, rfl, ?_⟩; have n0_ := Aside0.mk (Kd.S_mono (ok' := fun k_ => True) ho0 (fun k_ hk_ => trivial)); have n1_ := Aside0.mk (hb); clear HB; have HO105 := n0_; have HB := n1_; clear n0_ n1_; (try clear hb); (try clear hkp); (try clear ho0)))
        go_ret3
        exact ⟨_, by first | rfl | (simp [errW_none, errW_some] <;> rfl) | (simp [*, errW_none, errW_some] <;> rfl), by first | exact Kd.S_nil _ _ _ _ _ | exact Kd.N_nil _ _ _ _ _ | exact Kd.V_nil _ _ _ _ _ | exact Kd.Q_nil _ _ _ _ _ | exact Kd.R_nil _ _ _ _ _, by repeat (first | (with_reducible first | exact HB.out | apply below_alloc | apply pw_below_drewN | apply below_drew1) | exact HB.out)⟩
    · rw [if_neg c6] at H
      have c6b0 : (t102 == 0) = false := beq_eq_false_iff_ne.mpr c6
      have c6b1 : (t102 != 0) = true := bne_iff_ne.mpr c6
      simp only [Option.some.injEq, Prod.mk.injEq] at H
      obtain ⟨rfl, rfl, rfl⟩ := H
      go_enter Try.func12, Try.ntmps12
      go_wp2_with (first | ((with_reducible refine gate_callee (f := 26) rfl ?_); refine goesL_ (some 12) rfl rfl Try.func26 (by kernel_rfl) rfl #[.slice A0 l0.length c0] rfl (by (try simp only [List.map_toArray, List.map_cons, List.map_nil]); first | done | rfl | (simp only [List.length_drop, List.length_take]; rfl)) ?_; (with_reducible refine (aumbryref04_Check.calls k _ _ l0 t101 _ ?side1 ?side2 A3.out).mono ?_); (case side1 => repeat (first | exact HR0.out | (with_reducible refine Kd.C_alloc ?_ _) | (with_reducible refine Kd.C_drewN ?_ _) | (with_reducible refine Kd.C_drew ?_))); (case side2 => exact HC0.out); rintro e w' ⟨rfl, ⟨nd, rfl⟩⟩; refine ⟨_, rfl, ?_⟩) | ((with_reducible refine gate_callee (f := 26) rfl ?_); refine goesL_ (some 17) rfl rfl Try.func26 (by kernel_rfl) rfl #[.slice A1 l1.length c1] rfl (by (try simp only [List.map_toArray, List.map_cons, List.map_nil]); first | done | rfl | (simp only [List.length_drop, List.length_take]; rfl)) ?_; (with_reducible refine (aumbryref04_Check.calls k _ _ l1 t102 _ ?side1 ?side2 A5.out).mono ?_); (case side1 => repeat (first | exact HR1.out | (with_reducible refine Kd.C_alloc ?_ _) | (with_reducible refine Kd.C_drewN ?_ _) | (with_reducible refine Kd.C_drew ?_))); (case side2 => exact HC1.out); rintro e w' ⟨rfl, ⟨nd, rfl⟩⟩; refine ⟨_, rfl, ?_⟩))
      go_ret3
      exact ⟨_, by first | rfl | (simp [errW_none, errW_some] <;> rfl) | (simp [*, errW_none, errW_some] <;> rfl), by first | exact Kd.S_nil _ _ _ _ _ | exact Kd.N_nil _ _ _ _ _ | exact Kd.V_nil _ _ _ _ _ | exact Kd.Q_nil _ _ _ _ _ | exact Kd.R_nil _ _ _ _ _, by repeat (first | (with_reducible first | exact HB.out | apply below_alloc | apply pw_below_drewN | apply below_drew1) | exact HB.out)⟩
  · rw [if_neg c4] at H
    have c4b0 : (t101 == 0) = false := beq_eq_false_iff_ne.mpr c4
    have c4b1 : (t101 != 0) = true := bne_iff_ne.mpr c4
    simp only [Option.some.injEq, Prod.mk.injEq] at H
    obtain ⟨rfl, rfl, rfl⟩ := H
    go_enter Try.func12, Try.ntmps12
    go_wp2_with (first | ((with_reducible refine gate_callee (f := 26) rfl ?_); refine goesL_ (some 12) rfl rfl Try.func26 (by kernel_rfl) rfl #[.slice A0 l0.length c0] rfl (by (try simp only [List.map_toArray, List.map_cons, List.map_nil]); first | done | rfl | (simp only [List.length_drop, List.length_take]; rfl)) ?_; (with_reducible refine (aumbryref04_Check.calls k _ _ l0 t101 _ ?side1 ?side2 A3.out).mono ?_); (case side1 => repeat (first | exact HR0.out | (with_reducible refine Kd.C_alloc ?_ _) | (with_reducible refine Kd.C_drewN ?_ _) | (with_reducible refine Kd.C_drew ?_))); (case side2 => exact HC0.out); rintro e w' ⟨rfl, ⟨nd, rfl⟩⟩; refine ⟨_, rfl, ?_⟩))
    go_ret3
    exact ⟨_, by first | rfl | (simp [errW_none, errW_some] <;> rfl) | (simp [*, errW_none, errW_some] <;> rfl), by first | exact Kd.S_nil _ _ _ _ _ | exact Kd.N_nil _ _ _ _ _ | exact Kd.V_nil _ _ _ _ _ | exact Kd.Q_nil _ _ _ _ _ | exact Kd.R_nil _ _ _ _ _, by repeat (first | (with_reducible first | exact HB.out | apply below_alloc | apply pw_below_drewN | apply below_drew1) | exact HB.out)⟩

end Go.Proofs.Ytlfhonekcmlomaa.P

-- ==== PF13
namespace Go.Proofs.Ytlfhonekcmlomaa.P
open Go.RowKit Go.Proofs.YtlfhonekcmlomaaW.PrintWords Go.Proofs.YtlfhonekcmlomaaW.PrintLast Go.Proofs.YtlfhonekcmlomaaW.PrintMore
attribute [local go_sem] max2_int min2_int max_two min_two max_three min_three max_four min_four   -- for this text's walks alone
set_option linter.unusedVariables false
set_option linter.unusedSimpArgs false

/-! ### aumbryref05_Same: function 13 -/
def aumbryref05_Same.l0 : Nat → List (S44) → List (S44) → Int → Int → Option (Bool)
  | 0, _, _, _, _ => none
  | k + 1, x0, x1, x12, x13 => if x13 < x12 then (if 0 ≤ x13 then (if x13 < (x0.length : Int) then (if x13 < (x1.length : Int) then (if ((rd_T44 x0 x13).f0).toList = ((rd_T44 x1 x13).f0).toList then ((aumbryref04_Same.f k ((rd_T44 x0 x13).f1) ((rd_T44 x1 x13).f1)).bind fun t105 => (if t105 = true then (aumbryref05_Same.l0 k x0 x1 x12 (wrap64 (x13 + 1))) else (some false))) else (some false)) else (none)) else (none)) else (none)) else (some true)
def aumbryref05_Same.f (k : Nat) (l0 : List (S44)) (l1 : List (S44)) : Option (Bool) := if (l0.length : Int) = (l1.length : Int) then (aumbryref05_Same.l0 k l0 l1 (l0.length : Int) 0) else (some false)
theorem aumbryref05_Same.mono_l : ∀ k, (∀ y0 y1 y2 y3, LeO (aumbryref05_Same.l0 k y0 y1 y2 y3) (aumbryref05_Same.l0 (k + 1) y0 y1 y2 y3))
  | 0 => fun _ _ _ _ r h => by simp [aumbryref05_Same.l0] at h
  | k + 1 => by
    have ih0 := aumbryref05_Same.mono_l k
    · intro y0 y1 y2 y3
      unfold aumbryref05_Same.l0
      repeat' first
      | (with_reducible exact ih0 _ _ _ _)
      | (with_reducible exact aumbryref04_Same.mono _ _ _)
      | (with_reducible exact LeO.refl _)
      | (with_reducible exact LeO.none _)
      | (with_reducible refine LeO.ite ?_ ?_)
      | (with_reducible refine LeO.bind ?_ (fun _ => ?_))
      | exact ih0 _ _ _ _
      | exact aumbryref04_Same.mono _ _ _
      | exact LeO.none _
      | refine LeO.ite ?_ ?_
      | refine LeO.bind ?_ (fun _ => ?_)
theorem aumbryref05_Same.mono : ∀ a0 a1 k, LeO (aumbryref05_Same.f k a0 a1) (aumbryref05_Same.f (k + 1) a0 a1) := by
  intro a0 a1 k
  have ih0 := aumbryref05_Same.mono_l k
  unfold aumbryref05_Same.f
  repeat' first
      | (with_reducible exact ih0 _ _ _ _)
      | (with_reducible exact aumbryref04_Same.mono _ _ _)
      | (with_reducible exact LeO.refl _)
      | (with_reducible exact LeO.none _)
      | (with_reducible refine LeO.ite ?_ ?_)
      | (with_reducible refine LeO.bind ?_ (fun _ => ?_))
      | exact ih0 _ _ _ _
      | exact aumbryref04_Same.mono _ _ _
      | exact LeO.none _
      | refine LeO.ite ?_ ?_
      | refine LeO.bind ?_ (fun _ => ?_)
set_option maxHeartbeats 8000000 in
set_option maxRecDepth 100000 in
theorem aumbryref05_Same.calls (k : Nat) (A0 : Option Addr) (c0 : Nat) (l0 : List (S44)) (A1 : Option Addr) (c1 : Nat) (l1 : List (S44)) (r : Bool) (w : World) (hr0 : Kd.C k44 w A0 l0.length l0) (hc0 : l0.length ≤ c0) (hr1 : Kd.C k44 w A1 l1.length l1) (hc1 : l1.length ≤ c1) (h : aumbryref05_Same.f k l0 l1 = some r) :
    Calls Try.prog 13 #[.slice A0 l0.length c0, .slice A1 l1.length c1] w fun e w' => e = .returned (.bool r) ∧ Drawn0 w w' := by
  have HR0 := Aside0.mk hr0
  have HC0 := Aside0.mk hc0
  clear hr0 hc0
  have HR1 := Aside0.mk hr1
  have HC1 := Aside0.mk hc1
  clear hr1 hc1
  have H : (if (l0.length : Int) = (l1.length : Int) then (aumbryref05_Same.l0 k l0 l1 (l0.length : Int) 0) else (some false)) = some r := h
  clear h
  by_cases c3 : (l0.length : Int) = (l1.length : Int)
  · rw [if_pos c3] at H
    have c3b0 : ((l0.length : Int) == (l1.length : Int)) = true := beq_iff_eq.mpr c3
    have c3b1 : ((l0.length : Int) != (l1.length : Int)) = false := bne_eq_false_iff_eq.mpr c3
    have c3b2 : (l0.length == l1.length) = true := by first | simpa using c3 | (simp at c3 ⊢; omega)
    clear c3
    have H' := Aside0.mk H
    clear H
    go_enter Try.func13, Try.ntmps13
    go_wp2
    repeat (go_quiet (fail); try go_wp2)
    go_loopg [13] k (fun kq v13 w' => ∃ (x13_1 : Int), v13 = .int .i64 x13_1 ∧ Aside0 (aumbryref05_Same.l0 kq l0 l1 (l0.length : Int) x13_1 = some r) ∧ Aside0 (kq ≤ k) ∧ Drawn0 w w')
    case atStart => exact ⟨(0), (by first | rfl | (simp; done) | (simp [*]; done)), H', ⟨Nat.le_refl _⟩, by repeat (first | exact Drawn0.refl _ | apply Drawn0.step)⟩
    case round =>
      clear H'
      try clear c1
      try clear p2
      try clear c3
      try clear c3b0
      try clear c3b1
      try clear c3b2
      obtain ⟨x13_1, rfl, HA, HK1, ⟨m1, rfl⟩⟩ := hrel
      cases gk with
      | zero => exact absurd HA.out (by simp [aumbryref05_Same.l0])
      | succ k1 =>
        have H := HA.out
        clear HA
        simp only [aumbryref05_Same.l0] at H
        by_cases c4 : x13_1 < (l0.length : Int)
        · rw [if_pos c4] at H
          have c4b0 : decide (x13_1 < (l0.length : Int)) = true := decide_eq_true c4
          clear c4
          by_cases c5 : 0 ≤ x13_1
          · rw [if_pos c5] at H
            have c5b0 : decide (0 ≤ x13_1) = true := decide_eq_true c5
            clear c5
            by_cases c6 : x13_1 < (l0.length : Int)
            · rw [if_pos c6] at H
              have c6b0 : decide (x13_1 < (l0.length : Int)) = true := decide_eq_true c6
              clear c6
              by_cases c7 : x13_1 < (l1.length : Int)
              · rw [if_pos c7] at H
                have c7b0 : decide (x13_1 < (l1.length : Int)) = true := decide_eq_true c7
                clear c7
                by_cases c8 : ((rd_T44 l0 x13_1).f0).toList = ((rd_T44 l1 x13_1).f0).toList
                · rw [if_pos c8] at H
                  have c8b0 : (((rd_T44 l0 x13_1).f0).toList == ((rd_T44 l1 x13_1).f0).toList) = true := beq_iff_eq.mpr c8
                  have c8b1 : (((rd_T44 l0 x13_1).f0).toList != ((rd_T44 l1 x13_1).f0).toList) = false := bne_eq_false_iff_eq.mpr c8
                  clear c8
                  replace H := Option.bind_eq_some_iff.mp H
                  obtain ⟨t105, A90, H⟩ := H
                  replace H : (if t105 = true then (aumbryref05_Same.l0 k1 l0 l1 (l0.length : Int) (wrap64 (x13_1 + 1))) else (some false)) = some r := H
                  have A9 := Aside0.mk A90
                  clear A90
                  by_cases c10 : t105 = true
                  · subst c10
                    have H1 : (aumbryref05_Same.l0 k1 l0 l1 (l0.length : Int) (wrap64 (x13_1 + 1))) = some r := by rw [if_pos rfl] at H; exact H
                    clear H
                    have H := H1
                    clear H1
                    have H' := Aside0.mk H
                    clear H
                    have p101 : 0 ≤ (x13_1 : Int) := of_decide_eq_true (by first | (with_reducible assumption) | assumption)
                    have q101 : x13_1 < (l0.length : Int) := of_decide_eq_true (by first | (with_reducible assumption) | assumption)
                    obtain ⟨ad101, A101_1, c101_1, e101, hx101_0, hx101_1, hl101_1, hi101_1⟩ := at_T44 HR0.out x13_1 p101 q101
                    cases e101
                    have HR101_1 := Aside0.mk hi101_1
                    have HC101_1 := Aside0.mk hl101_1
                    clear hi101_1 hl101_1
                    replace p101 := eq_true p101
                    replace q101 := eq_true q101
                    have p102 : 0 ≤ (x13_1 : Int) := of_decide_eq_true (by first | (with_reducible assumption) | assumption)
                    have q102 : x13_1 < (l1.length : Int) := of_decide_eq_true (by first | (with_reducible assumption) | assumption)
                    obtain ⟨ad102, A102_1, c102_1, e102, hx102_0, hx102_1, hl102_1, hi102_1⟩ := at_T44 HR1.out x13_1 p102 q102
                    cases e102
                    have HR102_1 := Aside0.mk hi102_1
                    have HC102_1 := Aside0.mk hl102_1
                    clear hi102_1 hl102_1
                    replace p102 := eq_true p102
                    replace q102 := eq_true q102
                    have p103 : 0 ≤ (x13_1 : Int) := of_decide_eq_true (by first | (with_reducible assumption) | assumption)
                    have q103 : x13_1 < (l0.length : Int) := of_decide_eq_true (by first | (with_reducible assumption) | assumption)
                    obtain ⟨ad103, A103_1, c103_1, e103, hx103_0, hx103_1, hl103_1, hi103_1⟩ := at_T44 HR0.out x13_1 p103 q103
                    obtain rfl : ad101 = ad103 := (by injection e103)
                    have HR103_1 := Aside0.mk hi103_1
                    have HC103_1 := Aside0.mk hl103_1
                    clear hi103_1 hl103_1
                    replace p103 := eq_true p103
                    replace q103 := eq_true q103
                    have ea_ := Option.some.inj (hx101_1.symm.trans hx103_1)
                    injection ea_ with ea_ en_ ec_
                    subst ea_
                    subst ec_
                    clear en_
                    have p104 : 0 ≤ (x13_1 : Int) := of_decide_eq_true (by first | (with_reducible assumption) | assumption)
                    have q104 : x13_1 < (l1.length : Int) := of_decide_eq_true (by first | (with_reducible assumption) | assumption)
                    obtain ⟨ad104, A104_1, c104_1, e104, hx104_0, hx104_1, hl104_1, hi104_1⟩ := at_T44 HR1.out x13_1 p104 q104
                    obtain rfl : ad102 = ad104 := (by injection e104)
                    have HR104_1 := Aside0.mk hi104_1
                    have HC104_1 := Aside0.mk hl104_1
                    clear hi104_1 hl104_1
                    replace p104 := eq_true p104
                    replace q104 := eq_true q104
                    have ea_ := Option.some.inj (hx102_1.symm.trans hx104_1)
                    injection ea_ with ea_ en_ ec_
                    subst ea_
                    subst ec_
                    clear en_
                    go_wp2_with (first | (go_at_call 17; (with_reducible refine (aumbryref04_Same.calls k1 _ _ ((rd_T44 l0 x13_1).f1) _ _ ((rd_T44 l1 x13_1).f1) true _ ?side1 ?side2 ?side3 ?side4 A9.out).mono ?_); (case side1 => repeat (first | exact HR103_1.out | (with_reducible refine Kd.C_alloc ?_ _) | (with_reducible refine Kd.C_drewN ?_ _) | (with_reducible refine Kd.C_drew ?_))); (case side2 => exact HC103_1.out); (case side3 => repeat (first | exact HR104_1.out | (with_reducible refine Kd.C_alloc ?_ _) | (with_reducible refine Kd.C_drewN ?_ _) | (with_reducible refine Kd.C_drew ?_))); (case side4 => exact HC104_1.out); rintro e w' ⟨rfl, ⟨nd, rfl⟩⟩; (try first | exact ⟨rfl, _, World.drewN_drewN _ _ _⟩ | exact ⟨rfl, _, Eq.trans (World.drewN_drewN _ _ _) (congrArg (World.drewN _) (Nat.add_assoc _ _ _))⟩)))
                    repeat (go_quiet (first | (go_at_call 17; (with_reducible refine (aumbryref04_Same.calls k1 _ _ ((rd_T44 l0 x13_1).f1) _ _ ((rd_T44 l1 x13_1).f1) true _ ?side1 ?side2 ?side3 ?side4 A9.out).mono ?_); (case side1 => repeat (first | exact HR103_1.out | (with_reducible refine Kd.C_alloc ?_ _) | (with_reducible refine Kd.C_drewN ?_ _) | (with_reducible refine Kd.C_drew ?_))); (case side2 => exact HC103_1.out); (case side3 => repeat (first | exact HR104_1.out | (with_reducible refine Kd.C_alloc ?_ _) | (with_reducible refine Kd.C_drewN ?_ _) | (with_reducible refine Kd.C_drew ?_))); (case side4 => exact HC104_1.out); rintro e w' ⟨rfl, ⟨nd, rfl⟩⟩; (try first | exact ⟨rfl, _, World.drewN_drewN _ _ _⟩ | exact ⟨rfl, _, Eq.trans (World.drewN_drewN _ _ _) (congrArg (World.drewN _) (Nat.add_assoc _ _ _))⟩))); try go_wp2_with (first | (go_at_call 17; (with_reducible refine (aumbryref04_Same.calls k1 _ _ ((rd_T44 l0 x13_1).f1) _ _ ((rd_T44 l1 x13_1).f1) true _ ?side1 ?side2 ?side3 ?side4 A9.out).mono ?_); (case side1 => repeat (first | exact HR103_1.out | (with_reducible refine Kd.C_alloc ?_ _) | (with_reducible refine Kd.C_drewN ?_ _) | (with_reducible refine Kd.C_drew ?_))); (case side2 => exact HC103_1.out); (case side3 => repeat (first | exact HR104_1.out | (with_reducible refine Kd.C_alloc ?_ _) | (with_reducible refine Kd.C_drewN ?_ _) | (with_reducible refine Kd.C_drew ?_))); (case side4 => exact HC104_1.out); rintro e w' ⟨rfl, ⟨nd, rfl⟩⟩; (try first | exact ⟨rfl, _, World.drewN_drewN _ _ _⟩ | exact ⟨rfl, _, Eq.trans (World.drewN_drewN _ _ _) (congrArg (World.drewN _) (Nat.add_assoc _ _ _))⟩))))
                    go_roundg k1
                    case measure => have := HK1.out; omega
                    case rel => exact ⟨(wrap64 (x13_1 + 1)), (by first | rfl | (simp; done) | (simp [*]; done)), H', ⟨by have := HK1.out; omega⟩, by repeat (first | exact Drawn0.refl _ | apply Drawn0.step)⟩
                  · replace c10 := Bool.eq_false_iff.mpr c10
                    subst c10
                    have H1 : (some false) = some r := by rw [if_neg (show ¬ (false = true) by decide)] at H; exact H
                    clear H
                    have H := H1
                    clear H1
                    obtain rfl := Option.some.inj H
                    have p101 : 0 ≤ (x13_1 : Int) := of_decide_eq_true (by first | (with_reducible assumption) | assumption)
                    have q101 : x13_1 < (l0.length : Int) := of_decide_eq_true (by first | (with_reducible assumption) | assumption)
                    obtain ⟨ad101, A101_1, c101_1, e101, hx101_0, hx101_1, hl101_1, hi101_1⟩ := at_T44 HR0.out x13_1 p101 q101
                    cases e101
                    have HR101_1 := Aside0.mk hi101_1
                    have HC101_1 := Aside0.mk hl101_1
                    clear hi101_1 hl101_1
                    replace p101 := eq_true p101
                    replace q101 := eq_true q101
                    have p102 : 0 ≤ (x13_1 : Int) := of_decide_eq_true (by first | (with_reducible assumption) | assumption)
                    have q102 : x13_1 < (l1.length : Int) := of_decide_eq_true (by first | (with_reducible assumption) | assumption)
                    obtain ⟨ad102, A102_1, c102_1, e102, hx102_0, hx102_1, hl102_1, hi102_1⟩ := at_T44 HR1.out x13_1 p102 q102
                    cases e102
                    have HR102_1 := Aside0.mk hi102_1
                    have HC102_1 := Aside0.mk hl102_1
                    clear hi102_1 hl102_1
                    replace p102 := eq_true p102
                    replace q102 := eq_true q102
                    have p103 : 0 ≤ (x13_1 : Int) := of_decide_eq_true (by first | (with_reducible assumption) | assumption)
                    have q103 : x13_1 < (l0.length : Int) := of_decide_eq_true (by first | (with_reducible assumption) | assumption)
                    obtain ⟨ad103, A103_1, c103_1, e103, hx103_0, hx103_1, hl103_1, hi103_1⟩ := at_T44 HR0.out x13_1 p103 q103
                    obtain rfl : ad101 = ad103 := (by injection e103)
                    have HR103_1 := Aside0.mk hi103_1
                    have HC103_1 := Aside0.mk hl103_1
                    clear hi103_1 hl103_1
                    replace p103 := eq_true p103
                    replace q103 := eq_true q103
                    have ea_ := Option.some.inj (hx101_1.symm.trans hx103_1)
                    injection ea_ with ea_ en_ ec_
                    subst ea_
                    subst ec_
                    clear en_
                    have p104 : 0 ≤ (x13_1 : Int) := of_decide_eq_true (by first | (with_reducible assumption) | assumption)
                    have q104 : x13_1 < (l1.length : Int) := of_decide_eq_true (by first | (with_reducible assumption) | assumption)
                    obtain ⟨ad104, A104_1, c104_1, e104, hx104_0, hx104_1, hl104_1, hi104_1⟩ := at_T44 HR1.out x13_1 p104 q104
                    obtain rfl : ad102 = ad104 := (by injection e104)
                    have HR104_1 := Aside0.mk hi104_1
                    have HC104_1 := Aside0.mk hl104_1
                    clear hi104_1 hl104_1
                    replace p104 := eq_true p104
                    replace q104 := eq_true q104
                    have ea_ := Option.some.inj (hx102_1.symm.trans hx104_1)
                    injection ea_ with ea_ en_ ec_
                    subst ea_
                    subst ec_
                    clear en_
                    go_wp2_with (first | (go_at_call 17; (with_reducible refine (aumbryref04_Same.calls k1 _ _ ((rd_T44 l0 x13_1).f1) _ _ ((rd_T44 l1 x13_1).f1) false _ ?side1 ?side2 ?side3 ?side4 A9.out).mono ?_); (case side1 => repeat (first | exact HR103_1.out | (with_reducible refine Kd.C_alloc ?_ _) | (with_reducible refine Kd.C_drewN ?_ _) | (with_reducible refine Kd.C_drew ?_))); (case side2 => exact HC103_1.out); (case side3 => repeat (first | exact HR104_1.out | (with_reducible refine Kd.C_alloc ?_ _) | (with_reducible refine Kd.C_drewN ?_ _) | (with_reducible refine Kd.C_drew ?_))); (case side4 => exact HC104_1.out); rintro e w' ⟨rfl, ⟨nd, rfl⟩⟩; (try first | exact ⟨rfl, _, World.drewN_drewN _ _ _⟩ | exact ⟨rfl, _, Eq.trans (World.drewN_drewN _ _ _) (congrArg (World.drewN _) (Nat.add_assoc _ _ _))⟩)))
                    repeat (go_quiet (first | (go_at_call 17; (with_reducible refine (aumbryref04_Same.calls k1 _ _ ((rd_T44 l0 x13_1).f1) _ _ ((rd_T44 l1 x13_1).f1) false _ ?side1 ?side2 ?side3 ?side4 A9.out).mono ?_); (case side1 => repeat (first | exact HR103_1.out | (with_reducible refine Kd.C_alloc ?_ _) | (with_reducible refine Kd.C_drewN ?_ _) | (with_reducible refine Kd.C_drew ?_))); (case side2 => exact HC103_1.out); (case side3 => repeat (first | exact HR104_1.out | (with_reducible refine Kd.C_alloc ?_ _) | (with_reducible refine Kd.C_drewN ?_ _) | (with_reducible refine Kd.C_drew ?_))); (case side4 => exact HC104_1.out); rintro e w' ⟨rfl, ⟨nd, rfl⟩⟩; (try first | exact ⟨rfl, _, World.drewN_drewN _ _ _⟩ | exact ⟨rfl, _, Eq.trans (World.drewN_drewN _ _ _) (congrArg (World.drewN _) (Nat.add_assoc _ _ _))⟩))); try go_wp2_with (first | (go_at_call 17; (with_reducible refine (aumbryref04_Same.calls k1 _ _ ((rd_T44 l0 x13_1).f1) _ _ ((rd_T44 l1 x13_1).f1) false _ ?side1 ?side2 ?side3 ?side4 A9.out).mono ?_); (case side1 => repeat (first | exact HR103_1.out | (with_reducible refine Kd.C_alloc ?_ _) | (with_reducible refine Kd.C_drewN ?_ _) | (with_reducible refine Kd.C_drew ?_))); (case side2 => exact HC103_1.out); (case side3 => repeat (first | exact HR104_1.out | (with_reducible refine Kd.C_alloc ?_ _) | (with_reducible refine Kd.C_drewN ?_ _) | (with_reducible refine Kd.C_drew ?_))); (case side4 => exact HC104_1.out); rintro e w' ⟨rfl, ⟨nd, rfl⟩⟩; (try first | exact ⟨rfl, _, World.drewN_drewN _ _ _⟩ | exact ⟨rfl, _, Eq.trans (World.drewN_drewN _ _ _) (congrArg (World.drewN _) (Nat.add_assoc _ _ _))⟩))))
                    go_ret
                    exact ⟨by first | rfl | (simp; done) | (simp [*]; done), by repeat (first | exact Drawn0.refl _ | apply Drawn0.step)⟩
                · rw [if_neg c8] at H
                  have c8b0 : (((rd_T44 l0 x13_1).f0).toList == ((rd_T44 l1 x13_1).f0).toList) = false := beq_eq_false_iff_ne.mpr c8
                  have c8b1 : (((rd_T44 l0 x13_1).f0).toList != ((rd_T44 l1 x13_1).f0).toList) = true := bne_iff_ne.mpr c8
                  obtain rfl := Option.some.inj H
                  have p101 : 0 ≤ (x13_1 : Int) := of_decide_eq_true (by first | (with_reducible assumption) | assumption)
                  have q101 : x13_1 < (l0.length : Int) := of_decide_eq_true (by first | (with_reducible assumption) | assumption)
                  obtain ⟨ad101, A101_1, c101_1, e101, hx101_0, hx101_1, hl101_1, hi101_1⟩ := at_T44 HR0.out x13_1 p101 q101
                  cases e101
                  have HR101_1 := Aside0.mk hi101_1
                  have HC101_1 := Aside0.mk hl101_1
                  clear hi101_1 hl101_1
                  replace p101 := eq_true p101
                  replace q101 := eq_true q101
                  have p102 : 0 ≤ (x13_1 : Int) := of_decide_eq_true (by first | (with_reducible assumption) | assumption)
                  have q102 : x13_1 < (l1.length : Int) := of_decide_eq_true (by first | (with_reducible assumption) | assumption)
                  obtain ⟨ad102, A102_1, c102_1, e102, hx102_0, hx102_1, hl102_1, hi102_1⟩ := at_T44 HR1.out x13_1 p102 q102
                  cases e102
                  have HR102_1 := Aside0.mk hi102_1
                  have HC102_1 := Aside0.mk hl102_1
                  clear hi102_1 hl102_1
                  replace p102 := eq_true p102
                  replace q102 := eq_true q102
                  go_wp2
                  repeat (go_quiet (fail); try go_wp2)
                  go_ret
                  exact ⟨by first | rfl | (simp; done) | (simp [*]; done), by repeat (first | exact Drawn0.refl _ | apply Drawn0.step)⟩
              · rw [if_neg c7] at H
                exact absurd H (by simp)
            · rw [if_neg c6] at H
              exact absurd H (by simp)
          · rw [if_neg c5] at H
            exact absurd H (by simp)
        · rw [if_neg c4] at H
          have c4b0 : decide (x13_1 < (l0.length : Int)) = false := decide_eq_false c4
          clear c4
          obtain rfl := Option.some.inj H
          go_wp2
          repeat (go_quiet (fail); try go_wp2)
          go_ret
          exact ⟨by first | rfl | (simp; done) | (simp [*]; done), by repeat (first | exact Drawn0.refl _ | apply Drawn0.step)⟩
  · rw [if_neg c3] at H
    have c3b0 : ((l0.length : Int) == (l1.length : Int)) = false := beq_eq_false_iff_ne.mpr c3
    have c3b1 : ((l0.length : Int) != (l1.length : Int)) = true := bne_iff_ne.mpr c3
    have c3b2 : (l0.length == l1.length) = false := by first | simpa using c3 | (simp at c3 ⊢; omega)
    obtain rfl := Option.some.inj H
    go_enter Try.func13, Try.ntmps13
    go_wp2
    repeat (go_quiet (fail); try go_wp2)
    go_ret
    exact ⟨by first | rfl | (simp; done) | (simp [*]; done), by repeat (first | exact Drawn0.refl _ | apply Drawn0.step)⟩

end Go.Proofs.Ytlfhonekcmlomaa.P

-- ==== PF14
namespace Go.Proofs.Ytlfhonekcmlomaa.P
open Go.RowKit Go.Proofs.YtlfhonekcmlomaaW.PrintWords Go.Proofs.YtlfhonekcmlomaaW.PrintLast Go.Proofs.YtlfhonekcmlomaaW.PrintMore
attribute [local go_sem] max2_int min2_int max_two min_two max_three min_three max_four min_four   -- for this text's walks alone
set_option linter.unusedVariables false
set_option linter.unusedSimpArgs false

/-! ### match_Fill: function 14 -/
mutual
def match_Fill.l0 : Nat → List (S47) → List (S44) → List (S47) → List (S44) → Int → Int → Option ((List (S47)) × Int)
  | 0, _, _, _, _, _, _ => none
  | k + 1, x0, x1, x7, x24, x25, x26 => if x26 < x25 then (if 0 ≤ x26 then (if x26 < (x24.length : Int) then ((name_Kind.f k ((rd_T44 x24 x26).f0)).bind fun t107 => (if t107 = 2 then (if ((rd_T44 x24 x26).f0).size ≤ 9223372036854775807 then (if mapHas x7 ((rd_T44 x24 x26).f0) = true then (some (([] : List (S47)), 9)) else ((term_Check.f k ((rd_T44 x24 x26).f1)).bind fun t108 => (if t108 = 0 then (if x7.length < 9223372036854775807 ∧ ((rd_T44 x24 x26).f0).size ≤ 9223372036854775807 ∧ 0 ≤ x26 ∧ x26 ≤ 9223372036854775807 then (match_Fill.l0 k x0 x1 (mapPut x7 ((rd_T44 x24 x26).f0) x26) x24 x25 (wrap64 (x26 + 1))) else (none)) else (some (([] : List (S47)), t108))))) else (none)) else (some (([] : List (S47)), 4)))) else (none)) else (none)) else (match_Fill.l1 k x1 x7 ([] : List (S47)) x0 (x0.length : Int) 0)
def match_Fill.l1 : Nat → List (S44) → List (S47) → List (S47) → List (S47) → Int → Int → Option ((List (S47)) × Int)
  | 0, _, _, _, _, _, _ => none
  | k + 1, x1, x7, x13, x54, x55, x56 => if x56 < x55 then (if 0 ≤ x56 then (if x56 < (x54.length : Int) then (if ((rd_T47 x54 x56).f0).size ≤ 9223372036854775807 then ((match_variable.f k ((rd_T47 x54 x56).f0) ((rd_T47 x54 x56).f1)).bind fun t114 => (if t114 = true then (if (mapHas x7 ((rd_T47 x54 x56).f0) = true) then (if 0 ≤ (mapAt x7 ((rd_T47 x54 x56).f0)) then (if (mapAt x7 ((rd_T47 x54 x56).f0)) < (x1.length : Int) then (if x13.length + ((rd_T44 x1 (mapAt x7 ((rd_T47 x54 x56).f0))).f1).length < 5864062014805 then (match_Fill.l1 k x1 x7 (x13 ++ ((rd_T44 x1 (mapAt x7 ((rd_T47 x54 x56).f0))).f1)) x54 x55 (wrap64 (x56 + 1))) else (none)) else (none)) else (none)) else (some (([] : List (S47)), 7))) else (if x13.length < 5864062014805 then (match_Fill.l1 k x1 x7 (x13 ++ [(⟨(rd_T47 x54 x56).f0, (rd_T47 x54 x56).f1⟩ : S47)]) x54 x55 (wrap64 (x56 + 1))) else (none)))) else (none)) else (none)) else (none)) else (if (x13.length : Int) > 64 then (some (([] : List (S47)), 6)) else (some (x13, 0)))
end
def match_Fill.f (k : Nat) (l0 : List (S47)) (l1 : List (S44)) : Option ((List (S47)) × Int) := (term_Check.f k l0).bind fun t101 => (if t101 = 0 then (match_Fill.l0 k l0 l1 (([] : List (S47))) l1 (l1.length : Int) 0) else (some (([] : List (S47)), t101)))
theorem match_Fill.mono_l : ∀ k, (∀ y0 y1 y2 y3 y4 y5, LeO (match_Fill.l0 k y0 y1 y2 y3 y4 y5) (match_Fill.l0 (k + 1) y0 y1 y2 y3 y4 y5)) ∧ (∀ y0 y1 y2 y3 y4 y5, LeO (match_Fill.l1 k y0 y1 y2 y3 y4 y5) (match_Fill.l1 (k + 1) y0 y1 y2 y3 y4 y5))
  | 0 => ⟨fun _ _ _ _ _ _ r h => by simp [match_Fill.l0] at h, fun _ _ _ _ _ _ r h => by simp [match_Fill.l1] at h⟩
  | k + 1 => by
    obtain ⟨ih0, ih1⟩ := match_Fill.mono_l k
    refine ⟨?_, ?_⟩
    · intro y0 y1 y2 y3 y4 y5
      unfold match_Fill.l0
      repeat' first
      | (with_reducible exact ih0 _ _ _ _ _ _)
      | (with_reducible exact ih1 _ _ _ _ _ _)
      | (with_reducible exact match_variable.mono _ _ _)
      | (with_reducible exact name_Kind.mono _ _)
      | (with_reducible exact term_Check.mono _ _)
      | (with_reducible exact LeO.refl _)
      | (with_reducible exact LeO.none _)
      | (with_reducible refine LeO.ite ?_ ?_)
      | (with_reducible refine LeO.bind ?_ (fun _ => ?_))
      | exact ih0 _ _ _ _ _ _
      | exact ih1 _ _ _ _ _ _
      | exact match_variable.mono _ _ _
      | exact name_Kind.mono _ _
      | exact term_Check.mono _ _
      | exact LeO.none _
      | refine LeO.ite ?_ ?_
      | refine LeO.bind ?_ (fun _ => ?_)
    · intro y0 y1 y2 y3 y4 y5
      unfold match_Fill.l1
      repeat' first
      | (with_reducible exact ih0 _ _ _ _ _ _)
      | (with_reducible exact ih1 _ _ _ _ _ _)
      | (with_reducible exact match_variable.mono _ _ _)
      | (with_reducible exact name_Kind.mono _ _)
      | (with_reducible exact term_Check.mono _ _)
      | (with_reducible exact LeO.refl _)
      | (with_reducible exact LeO.none _)
      | (with_reducible refine LeO.ite ?_ ?_)
      | (with_reducible refine LeO.bind ?_ (fun _ => ?_))
      | exact ih0 _ _ _ _ _ _
      | exact ih1 _ _ _ _ _ _
      | exact match_variable.mono _ _ _
      | exact name_Kind.mono _ _
      | exact term_Check.mono _ _
      | exact LeO.none _
      | refine LeO.ite ?_ ?_
      | refine LeO.bind ?_ (fun _ => ?_)
theorem match_Fill.mono : ∀ a0 a1 k, LeO (match_Fill.f k a0 a1) (match_Fill.f (k + 1) a0 a1) := by
  intro a0 a1 k
  obtain ⟨ih0, ih1⟩ := match_Fill.mono_l k
  unfold match_Fill.f
  repeat' first
      | (with_reducible exact ih0 _ _ _ _ _ _)
      | (with_reducible exact ih1 _ _ _ _ _ _)
      | (with_reducible exact match_variable.mono _ _ _)
      | (with_reducible exact name_Kind.mono _ _)
      | (with_reducible exact term_Check.mono _ _)
      | (with_reducible exact LeO.refl _)
      | (with_reducible exact LeO.none _)
      | (with_reducible refine LeO.ite ?_ ?_)
      | (with_reducible refine LeO.bind ?_ (fun _ => ?_))
      | exact ih0 _ _ _ _ _ _
      | exact ih1 _ _ _ _ _ _
      | exact match_variable.mono _ _ _
      | exact name_Kind.mono _ _
      | exact term_Check.mono _ _
      | exact LeO.none _
      | refine LeO.ite ?_ ?_
      | refine LeO.bind ?_ (fun _ => ?_)
set_option maxHeartbeats 8000000 in
set_option maxRecDepth 100000 in
theorem match_Fill.calls (k : Nat) (A0 : Option Addr) (c0 : Nat) (l0 : List (S47)) (A1 : Option Addr) (c1 : Nat) (l1 : List (S44)) (r1 : List (S47)) (r2 : Int) (w : World) (hr0 : Kd.C k47 w A0 l0.length l0) (hc0 : l0.length ≤ c0) (hr1 : Kd.C k44 w A1 l1.length l1) (hc1 : l1.length ≤ c1) (h : match_Fill.f k l0 l1 = some (r1, r2)) :
    Calls Try.prog 14 #[.slice A0 l0.length c0, .slice A1 l1.length c1] w fun e w' => ∃ v0_ : Value, e = .returned (.tuple #[v0_, .int .i64 r2]) ∧ Kd.R k47 47 w' w.heap.size (fun _ => True) v0_ r1 ∧ Below w.heap.size w w' := by
  have hu44 := Try.underlying44
  have hu47 := Try.underlying47
  have HR0 := Aside0.mk hr0
  have HC0 := Aside0.mk hc0
  clear hr0 hc0
  have HR1 := Aside0.mk hr1
  have HC1 := Aside0.mk hc1
  clear hr1 hc1
  have HB := Aside0.mk (Below.refl w.heap.size w)
  have H : ((term_Check.f k l0).bind fun t101 => (if t101 = 0 then (match_Fill.l0 k l0 l1 (([] : List (S47))) l1 (l1.length : Int) 0) else (some (([] : List (S47)), t101)))) = some (r1, r2) := h
  clear h
  replace H := Option.bind_eq_some_iff.mp H
  obtain ⟨t101, A30, H⟩ := H
  replace H : (if t101 = 0 then (match_Fill.l0 k l0 l1 (([] : List (S47))) l1 (l1.length : Int) 0) else (some (([] : List (S47)), t101))) = some (r1, r2) := H
  have A3 := Aside0.mk A30
  clear A30
  by_cases c4 : t101 = 0
  · rw [if_pos c4] at H
    have c4b0 : (t101 == 0) = true := beq_iff_eq.mpr c4
    have c4b1 : (t101 != 0) = false := bne_eq_false_iff_eq.mpr c4
    clear c4
    obtain ⟨y102, hy102⟩ : ∃ y_ : List (S47), y_ = (([] : List (S47))) := ⟨_, rfl⟩
    replace H : (match_Fill.l0 k l0 l1 y102 l1 (l1.length : Int) 0) = some (r1, r2) := by first | (rw [hy102]; with_reducible exact H) | (have H2_ := (Option.bind_some _ _).symm.trans H; rw [hy102]; with_reducible exact H2_) | (have H2_ := (Option.bind_some _ _).symm.trans H; with_reducible exact H2_) | with_reducible exact H | (rw [hy102]; exact H) | exact H
    have Ny102 := Aside0.mk hy102
    clear hy102
    have H' := Aside0.mk H
    clear H
    go_enter Try.func14, Try.ntmps14
    go_wp2_with (first | ((with_reducible refine gate_callee (f := 20) rfl ?_); refine goesL_ (some 19) rfl rfl Try.func20 (by kernel_rfl) rfl #[.slice A0 l0.length c0] rfl (by (try simp only [List.map_toArray, List.map_cons, List.map_nil]); first | done | rfl | (simp only [List.length_drop, List.length_take]; rfl)) ?_; (with_reducible refine (term_Check.calls k _ _ l0 t101 _ ?side1 ?side2 A3.out).mono ?_); (case side1 => repeat (first | exact HR0.out | (with_reducible refine Kd.C_alloc ?_ _) | (with_reducible refine Kd.C_drewN ?_ _) | (with_reducible refine Kd.C_drew ?_))); (case side2 => exact HC0.out); rintro e w5 ⟨rfl, hb⟩; refine ⟨_, rfl, ?_⟩; have n0_ := Aside0.mk (below_step (by repeat (first | (with_reducible first | exact HB.out | apply below_alloc | apply pw_below_drewN | apply below_drew1) | exact HB.out)) hb); clear HB; have HB := n0_; clear n0_; (try clear hb); (try clear hb2); (try clear hk); (try clear hi)) | ((with_reducible refine gate_dst (N := 23) rfl ?_); refine Kd.P_make k47 (N := 23) rfl rfl rfl ?_; intro v103 w6 ho7 hb; rw [← Ny102.out] at ho7; have n0_ := Aside0.mk (Kd.P_lower ho7 (below_size (by repeat (first | (with_reducible first | exact HB.out | apply below_alloc | apply pw_below_drewN | apply below_drew1) | exact HB.out)))); have n1_ := Aside0.mk (below_step (by repeat (first | (with_reducible first | exact HB.out | apply below_alloc | apply pw_below_drewN | apply below_drew1) | exact HB.out)) hb); clear HB; have HO104 := n0_; have HB := n1_; clear n0_ n1_; clear hb ho7))
    go_loopg [26] k (fun kq v26 w' => ∃ (x7_1 : List (S47)) (x26_1 : Int), v26 = .int .i64 x26_1 ∧ Aside0 (match_Fill.l0 kq l0 l1 x7_1 l1 (l1.length : Int) x26_1 = some (r1, r2)) ∧ Aside0 (kq ≤ k) ∧ Aside0 (Kd.P k47 51 w' w.heap.size (fun _ => True) v103 x7_1) ∧ Aside0 (Below w.heap.size w w'))
    case atStart => exact ⟨(y102), (0), (by first | rfl | (simp; done) | (simp [*]; done)), H', ⟨Nat.le_refl _⟩, ⟨by (with_reducible repeat (first | apply Kd.P_alloc | apply Kd.P_drewN | apply Kd.P_drew)); exact HO104.out⟩, ⟨by repeat (first | (with_reducible first | exact HB.out | apply below_alloc | apply pw_below_drewN | apply below_drew1) | exact HB.out)⟩⟩
    case round =>
      clear H'
      try clear c1
      try clear c2
      try clear p2
      try clear c4
      try clear c4b0
      try clear c4b1
      obtain ⟨x7_1, x26_1, rfl, HA, HK1, HO_7, HB⟩ := hrel
      cases gk with
      | zero => exact absurd HA.out (by simp [match_Fill.l0])
      | succ k1 =>
        have H := HA.out
        clear HA
        simp only [match_Fill.l0] at H
        by_cases c8 : x26_1 < (l1.length : Int)
        · rw [if_pos c8] at H
          have c8b0 : decide (x26_1 < (l1.length : Int)) = true := decide_eq_true c8
          clear c8
          by_cases c9 : 0 ≤ x26_1
          · rw [if_pos c9] at H
            have c9b0 : decide (0 ≤ x26_1) = true := decide_eq_true c9
            clear c9
            by_cases c10 : x26_1 < (l1.length : Int)
            · rw [if_pos c10] at H
              have c10b0 : decide (x26_1 < (l1.length : Int)) = true := decide_eq_true c10
              clear c10
              replace H := Option.bind_eq_some_iff.mp H
              obtain ⟨t107, A110, H⟩ := H
              replace H : (if t107 = 2 then (if ((rd_T44 l1 x26_1).f0).size ≤ 9223372036854775807 then (if mapHas x7_1 ((rd_T44 l1 x26_1).f0) = true then (some (([] : List (S47)), 9)) else ((term_Check.f k1 ((rd_T44 l1 x26_1).f1)).bind fun t108 => (if t108 = 0 then (if x7_1.length < 9223372036854775807 ∧ ((rd_T44 l1 x26_1).f0).size ≤ 9223372036854775807 ∧ 0 ≤ x26_1 ∧ x26_1 ≤ 9223372036854775807 then (match_Fill.l0 k1 l0 l1 (mapPut x7_1 ((rd_T44 l1 x26_1).f0) x26_1) l1 (l1.length : Int) (wrap64 (x26_1 + 1))) else (none)) else (some (([] : List (S47)), t108))))) else (none)) else (some (([] : List (S47)), 4))) = some (r1, r2) := H
              have A11 := Aside0.mk A110
              clear A110
              by_cases c12 : t107 = 2
              · rw [if_pos c12] at H
                have c12b0 : (t107 == 2) = true := beq_iff_eq.mpr c12
                have c12b1 : (t107 != 2) = false := bne_eq_false_iff_eq.mpr c12
                clear c12
                by_cases c13 : ((rd_T44 l1 x26_1).f0).size ≤ 9223372036854775807
                · rw [if_pos c13] at H
                  have LMc13 := Aside0.mk c13
                  clear c13
                  by_cases c14 : mapHas x7_1 ((rd_T44 l1 x26_1).f0) = true
                  · rw [if_pos c14] at H
                    have c14b0 : mapHas x7_1 ((rd_T44 l1 x26_1).f0) = true := c14
                    clear c14
                    simp only [Option.some.injEq, Prod.mk.injEq] at H
                    obtain ⟨rfl, rfl⟩ := H
                    have p105 : 0 ≤ (x26_1 : Int) := of_decide_eq_true (by first | (with_reducible assumption) | assumption)
                    have q105 : x26_1 < (l1.length : Int) := of_decide_eq_true (by first | (with_reducible assumption) | assumption)
                    obtain ⟨ad105, A105_1, c105_1, e105, hx105_0, hx105_1, hl105_1, hi105_1⟩ := at_T44 HR1.out x26_1 p105 q105
                    cases e105
                    replace hx105_0 := (HB.out.cell (World.block_lt_of_cell? w _ hx105_0)).trans hx105_0
                    replace hx105_1 := (HB.out.cell (World.block_lt_of_cell? w _ hx105_1)).trans hx105_1
                    have HR105_1 := Aside0.mk hi105_1
                    have HC105_1 := Aside0.mk hl105_1
                    clear hi105_1 hl105_1
                    replace p105 := eq_true p105
                    replace q105 := eq_true q105
                    go_wp2_with (first | ((with_reducible refine gate_dst (N := 9) rfl ?_); refine box_event ?hg (N := 9) ?hd (cs := #[.string (⟨#[]⟩ : ByteArray), .slice none 0 0]) (t := 44) ?hr ?_; (case hd => rfl); (case hg => rfl); (case hr => first | (go_simp; done) | (go_simp; rfl)); intro gb106 hg w15 hbox hb; have n0_ := Aside0.mk (Kd.P_below (by (with_reducible repeat (first | apply Kd.P_alloc | apply Kd.P_drewN | apply Kd.P_drew)); exact HO_7.out) hb); have n1_ := Aside0.mk (below_step (by repeat (first | (with_reducible first | exact HB.out | apply below_alloc | apply pw_below_drewN | apply below_drew1) | exact HB.out)) hb); have n2_ := Aside0.mk (hbox); have n3_ := Aside0.mk ((by rw [hg]; exact (below_size (by repeat (first | (with_reducible first | exact HB.out | apply below_alloc | apply pw_below_drewN | apply below_drew1) | exact HB.out))) : w.heap.size ≤ gb106)); have n4_ := Aside0.mk ((by rw [hg]; exact (below_size (by repeat (first | (with_reducible first | exact HB.out | apply below_alloc | apply pw_below_drewN | apply below_drew1) | exact HB.out))) : w.heap.size ≤ gb106)); clear HO_7; clear HB; have HO_7 := n0_; have HB := n1_; have BK106 := n2_; have GW106 := n3_; have GE106 := n4_; clear n0_ n1_ n2_ n3_ n4_; clear hb hbox hg; have hcz16_0 : w15.cell? ⟨gb106, 0, none⟩ = some (.string (⟨#[]⟩ : ByteArray)) := (blk_cell BK106.out 0).trans rfl; have hcz16_1 : w15.cell? ⟨gb106, 1, none⟩ = some (.slice none 0 0) := (blk_cell BK106.out 1).trans rfl; have hfz16_0 := blk_frozen BK106.out 0; have hfz16_1 := blk_frozen BK106.out 1) | ((with_reducible refine gate_callee (f := 28) rfl ?_); refine goesL_ (some 33) rfl rfl Try.func28 (by kernel_rfl) rfl #[.string ((rd_T44 l1 x26_1).f0)] rfl (by (try simp only [List.map_toArray, List.map_cons, List.map_nil]); first | done | rfl | (simp only [List.length_drop, List.length_take]; rfl)) ?_; (with_reducible refine (name_Kind.calls k1 ((rd_T44 l1 x26_1).f0) t107 _ A11.out).mono ?_); rintro e w' ⟨rfl, ⟨nd, rfl⟩⟩; refine ⟨_, rfl, ?_⟩) | ((with_reducible refine gate_dst (N := 39) rfl ?_); refine Kd.P_look (v := v103) (m := x7_1) (s := ((rd_T44 l1 x26_1).f0)) rfl rfl rfl rfl LMc13.out (by (with_reducible repeat (first | apply Kd.P_alloc | apply Kd.P_drewN | apply Kd.P_drew)); exact (Kd.P_mono (Kd.P_far (p := ⟨gb106, 1, none⟩) (Kd.P_far (p := ⟨gb106, 0, none⟩) (Kd.P_types HO_7.out BK106.out (by decide)) (fun _ hk => hk.2) (.string ((rd_T44 l1 x26_1).f0))) (fun _ hk => hk.2) (.slice A105_1 ((rd_T44 l1 x26_1).f1).length c105_1)) (fun _ h_ => h_.1))) ?_))
                    go_ret2
                    exact ⟨_, by first | rfl | (simp [errW_none, errW_some] <;> rfl) | (simp [*, errW_none, errW_some] <;> rfl), by first | exact Kd.R_nil _ _ _ _ _ | exact Kd.N_nil _ _ _ _ _ | exact Kd.V_nil _ _ _ _ _ | exact Kd.Q_nil _ _ _ _ _ | exact Kd.S_nil _ _ _ _ _, by repeat (first | (with_reducible first | exact HB.out | apply below_alloc | apply pw_below_drewN | apply below_drew1 | refine below_set ?_ GE106.out) | exact HB.out)⟩
                  · rw [if_neg c14] at H
                    have c14b0 : mapHas x7_1 ((rd_T44 l1 x26_1).f0) = false := by simpa using c14
                    clear c14
                    replace H := Option.bind_eq_some_iff.mp H
                    obtain ⟨t108, A170, H⟩ := H
                    replace H : (if t108 = 0 then (if x7_1.length < 9223372036854775807 ∧ ((rd_T44 l1 x26_1).f0).size ≤ 9223372036854775807 ∧ 0 ≤ x26_1 ∧ x26_1 ≤ 9223372036854775807 then (match_Fill.l0 k1 l0 l1 (mapPut x7_1 ((rd_T44 l1 x26_1).f0) x26_1) l1 (l1.length : Int) (wrap64 (x26_1 + 1))) else (none)) else (some (([] : List (S47)), t108))) = some (r1, r2) := H
                    have A17 := Aside0.mk A170
                    clear A170
                    by_cases c18 : t108 = 0
                    · rw [if_pos c18] at H
                      have c18b0 : (t108 == 0) = true := beq_iff_eq.mpr c18
                      have c18b1 : (t108 != 0) = false := bne_eq_false_iff_eq.mpr c18
                      clear c18
                      by_cases c19 : x7_1.length < 9223372036854775807 ∧ ((rd_T44 l1 x26_1).f0).size ≤ 9223372036854775807 ∧ 0 ≤ x26_1 ∧ x26_1 ≤ 9223372036854775807
                      · rw [if_pos c19] at H
                        have LMc19 := Aside0.mk c19
                        clear c19
                        obtain ⟨y109, hy109⟩ : ∃ y_ : List (S47), y_ = (mapPut x7_1 ((rd_T44 l1 x26_1).f0) x26_1) := ⟨_, rfl⟩
                        replace H : (match_Fill.l0 k1 l0 l1 y109 l1 (l1.length : Int) (wrap64 (x26_1 + 1))) = some (r1, r2) := by first | (rw [hy109]; with_reducible exact H) | (have H2_ := (Option.bind_some _ _).symm.trans H; rw [hy109]; with_reducible exact H2_) | (have H2_ := (Option.bind_some _ _).symm.trans H; with_reducible exact H2_) | with_reducible exact H | (rw [hy109]; exact H) | exact H
                        have Ny109 := Aside0.mk hy109
                        clear hy109
                        have H' := Aside0.mk H
                        clear H
                        have p105 : 0 ≤ (x26_1 : Int) := of_decide_eq_true (by first | (with_reducible assumption) | assumption)
                        have q105 : x26_1 < (l1.length : Int) := of_decide_eq_true (by first | (with_reducible assumption) | assumption)
                        obtain ⟨ad105, A105_1, c105_1, e105, hx105_0, hx105_1, hl105_1, hi105_1⟩ := at_T44 HR1.out x26_1 p105 q105
                        cases e105
                        replace hx105_0 := (HB.out.cell (World.block_lt_of_cell? w _ hx105_0)).trans hx105_0
                        replace hx105_1 := (HB.out.cell (World.block_lt_of_cell? w _ hx105_1)).trans hx105_1
                        have HR105_1 := Aside0.mk hi105_1
                        have HC105_1 := Aside0.mk hl105_1
                        clear hi105_1 hl105_1
                        replace p105 := eq_true p105
                        replace q105 := eq_true q105
                        go_wp2_with (first | ((with_reducible refine gate_dst (N := 9) rfl ?_); refine box_event ?hg (N := 9) ?hd (cs := #[.string (⟨#[]⟩ : ByteArray), .slice none 0 0]) (t := 44) ?hr ?_; (case hd => rfl); (case hg => rfl); (case hr => first | (go_simp; done) | (go_simp; rfl)); intro gb106 hg w20 hbox hb; have n0_ := Aside0.mk (Kd.P_below (by (with_reducible repeat (first | apply Kd.P_alloc | apply Kd.P_drewN | apply Kd.P_drew)); exact HO_7.out) hb); have n1_ := Aside0.mk (below_step (by repeat (first | (with_reducible first | exact HB.out | apply below_alloc | apply pw_below_drewN | apply below_drew1) | exact HB.out)) hb); have n2_ := Aside0.mk (hbox); have n3_ := Aside0.mk ((by rw [hg]; exact (below_size (by repeat (first | (with_reducible first | exact HB.out | apply below_alloc | apply pw_below_drewN | apply below_drew1) | exact HB.out))) : w.heap.size ≤ gb106)); have n4_ := Aside0.mk ((by rw [hg]; exact (below_size (by repeat (first | (with_reducible first | exact HB.out | apply below_alloc | apply pw_below_drewN | apply below_drew1) | exact HB.out))) : w.heap.size ≤ gb106)); clear HO_7; clear HB; have HO_7 := n0_; have HB := n1_; have BK106 := n2_; have GW106 := n3_; have GE106 := n4_; clear n0_ n1_ n2_ n3_ n4_; clear hb hbox hg; have hcz21_0 : w20.cell? ⟨gb106, 0, none⟩ = some (.string (⟨#[]⟩ : ByteArray)) := (blk_cell BK106.out 0).trans rfl; have hcz21_1 : w20.cell? ⟨gb106, 1, none⟩ = some (.slice none 0 0) := (blk_cell BK106.out 1).trans rfl; have hfz21_0 := blk_frozen BK106.out 0; have hfz21_1 := blk_frozen BK106.out 1) | ((with_reducible refine gate_callee (f := 28) rfl ?_); refine goesL_ (some 33) rfl rfl Try.func28 (by kernel_rfl) rfl #[.string ((rd_T44 l1 x26_1).f0)] rfl (by (try simp only [List.map_toArray, List.map_cons, List.map_nil]); first | done | rfl | (simp only [List.length_drop, List.length_take]; rfl)) ?_; (with_reducible refine (name_Kind.calls k1 ((rd_T44 l1 x26_1).f0) t107 _ A11.out).mono ?_); rintro e w' ⟨rfl, ⟨nd, rfl⟩⟩; refine ⟨_, rfl, ?_⟩) | ((with_reducible refine gate_dst (N := 39) rfl ?_); refine Kd.P_look (v := v103) (m := x7_1) (s := ((rd_T44 l1 x26_1).f0)) rfl rfl rfl rfl LMc13.out (by (with_reducible repeat (first | apply Kd.P_alloc | apply Kd.P_drewN | apply Kd.P_drew)); exact (Kd.P_mono (Kd.P_far (p := ⟨gb106, 1, none⟩) (Kd.P_far (p := ⟨gb106, 0, none⟩) (Kd.P_types HO_7.out BK106.out (by decide)) (fun _ hk => hk.2) (.string ((rd_T44 l1 x26_1).f0))) (fun _ hk => hk.2) (.slice A105_1 ((rd_T44 l1 x26_1).f1).length c105_1)) (fun _ h_ => h_.1))) ?_) | ((with_reducible refine gate_callee (f := 20) rfl ?_); refine goesL_ (some 45) rfl rfl Try.func20 (by kernel_rfl) rfl #[.slice A105_1 ((rd_T44 l1 x26_1).f1).length c105_1] rfl (by (try simp only [List.map_toArray, List.map_cons, List.map_nil]); first | done | rfl | (simp only [List.length_drop, List.length_take]; rfl)) ?_; (with_reducible refine (term_Check.calls k1 _ _ ((rd_T44 l1 x26_1).f1) t108 _ ?side1 ?side2 A17.out).mono ?_); (case side1 => exact Kd.C_below HR105_1.out (by repeat (first | (with_reducible first | exact HB.out | apply below_alloc | apply pw_below_drewN | apply below_drew1 | refine below_set ?_ GE106.out) | exact HB.out))); (case side2 => exact HC105_1.out); rintro e w22 ⟨rfl, hb⟩; refine ⟨_, rfl, ?_⟩; have n0_ := Aside0.mk (Kd.P_below (by (with_reducible repeat (first | apply Kd.P_alloc | apply Kd.P_drewN | apply Kd.P_drew)); exact (Kd.P_mono (Kd.P_far (p := ⟨gb106, 1, none⟩) (Kd.P_far (p := ⟨gb106, 0, none⟩) (Kd.P_types HO_7.out BK106.out (by decide)) (fun _ hk => hk.2) (.string ((rd_T44 l1 x26_1).f0))) (fun _ hk => hk.2) (.slice A105_1 ((rd_T44 l1 x26_1).f1).length c105_1)) (fun _ h_ => h_.1))) hb); have n1_ := Aside0.mk (blk_below (g := gb106) (o := .cells #[.string ((rd_T44 l1 x26_1).f0), .slice A105_1 ((rd_T44 l1 x26_1).f1).length c105_1] 44 (0, 0)) (by (with_reducible repeat (first | refine blk_drewN ?_ _ | refine blk_drew ?_ | refine blk_alloc ?_ _)); refine blk_put (cs := #[.string ((rd_T44 l1 x26_1).f0), .slice none 0 0]) ?_ 1 _ rfl; (with_reducible repeat (first | refine blk_drewN ?_ _ | refine blk_drew ?_ | refine blk_alloc ?_ _)); refine blk_put (cs := #[.string (⟨#[]⟩ : ByteArray), .slice none 0 0]) ?_ 0 _ rfl; (with_reducible repeat (first | refine blk_drewN ?_ _ | refine blk_drew ?_ | refine blk_alloc ?_ _)); exact BK106.out) hb); have n2_ := Aside0.mk (below_step (by repeat (first | (with_reducible first | exact HB.out | apply below_alloc | apply pw_below_drewN | apply below_drew1 | refine below_set ?_ GE106.out) | exact HB.out)) hb); clear HO_7; clear BK106; clear HB; have HO_7 := n0_; have BK106 := n1_; have HB := n2_; clear n0_ n1_ n2_; (try clear hb); (try clear hb2); (try clear hk); (try clear hi); have hcz23_0 : w22.cell? ⟨gb106, 0, none⟩ = some (.string ((rd_T44 l1 x26_1).f0)) := (blk_cell BK106.out 0).trans rfl; have hcz23_1 : w22.cell? ⟨gb106, 1, none⟩ = some (.slice A105_1 ((rd_T44 l1 x26_1).f1).length c105_1) := (blk_cell BK106.out 1).trans rfl; have hfz23_0 := blk_frozen BK106.out 0; have hfz23_1 := blk_frozen BK106.out 1) | (at_mapUpdate; refine Kd.P_put (v := v103) (m := x7_1) (s := ((rd_T44 l1 x26_1).f0)) (n := x26_1) rfl rfl rfl rfl rfl LMc19.out (by (with_reducible repeat (first | apply Kd.P_alloc | apply Kd.P_drewN | apply Kd.P_drew)); exact HO_7.out) ?_; intro w24 ho hm; rw [← Ny109.out] at ho; have n0_ := Aside0.mk (blk_mapped (g := gb106) (o := .cells #[.string ((rd_T44 l1 x26_1).f0), .slice A105_1 ((rd_T44 l1 x26_1).f1).length c105_1] 44 (0, 0)) (by (with_reducible repeat (first | refine blk_drewN ?_ _ | refine blk_drew ?_ | refine blk_alloc ?_ _)); exact BK106.out) hm); have n1_ := Aside0.mk (below_mapped (by repeat (first | (with_reducible first | exact HB.out | apply below_alloc | apply pw_below_drewN | apply below_drew1 | refine below_set ?_ GE106.out) | exact HB.out)) hm); have n2_ := Aside0.mk (ho); clear BK106; clear HB; clear HO_7; have BK106 := n0_; have HB := n1_; have HO_7 := n2_; clear n0_ n1_ n2_; clear ho hm))
                        go_roundg k1
                        case measure => have := HK1.out; omega
                        case rel => exact ⟨(y109), (wrap64 (x26_1 + 1)), (by first | rfl | (simp; done) | (simp [*]; done)), H', ⟨by have := HK1.out; omega⟩, ⟨by (with_reducible repeat (first | apply Kd.P_alloc | apply Kd.P_drewN | apply Kd.P_drew)); exact HO_7.out⟩, ⟨by repeat (first | (with_reducible first | exact HB.out | apply below_alloc | apply pw_below_drewN | apply below_drew1 | refine below_set ?_ GE106.out) | exact HB.out)⟩⟩
                      · rw [if_neg c19] at H
                        exact absurd H (by simp)
                    · rw [if_neg c18] at H
                      have c18b0 : (t108 == 0) = false := beq_eq_false_iff_ne.mpr c18
                      have c18b1 : (t108 != 0) = true := bne_iff_ne.mpr c18
                      simp only [Option.some.injEq, Prod.mk.injEq] at H
                      obtain ⟨rfl, rfl⟩ := H
                      have p105 : 0 ≤ (x26_1 : Int) := of_decide_eq_true (by first | (with_reducible assumption) | assumption)
                      have q105 : x26_1 < (l1.length : Int) := of_decide_eq_true (by first | (with_reducible assumption) | assumption)
                      obtain ⟨ad105, A105_1, c105_1, e105, hx105_0, hx105_1, hl105_1, hi105_1⟩ := at_T44 HR1.out x26_1 p105 q105
                      cases e105
                      replace hx105_0 := (HB.out.cell (World.block_lt_of_cell? w _ hx105_0)).trans hx105_0
                      replace hx105_1 := (HB.out.cell (World.block_lt_of_cell? w _ hx105_1)).trans hx105_1
                      have HR105_1 := Aside0.mk hi105_1
                      have HC105_1 := Aside0.mk hl105_1
                      clear hi105_1 hl105_1
                      replace p105 := eq_true p105
                      replace q105 := eq_true q105
                      go_wp2_with (first | ((with_reducible refine gate_dst (N := 9) rfl ?_); refine box_event ?hg (N := 9) ?hd (cs := #[.string (⟨#[]⟩ : ByteArray), .slice none 0 0]) (t := 44) ?hr ?_; (case hd => rfl); (case hg => rfl); (case hr => first | (go_simp; done) | (go_simp; rfl)); intro gb106 hg w25 hbox hb; have n0_ := Aside0.mk (Kd.P_below (by (with_reducible repeat (first | apply Kd.P_alloc | apply Kd.P_drewN | apply Kd.P_drew)); exact HO_7.out) hb); have n1_ := Aside0.mk (below_step (by repeat (first | (with_reducible first | exact HB.out | apply below_alloc | apply pw_below_drewN | apply below_drew1) | exact HB.out)) hb); have n2_ := Aside0.mk (hbox); have n3_ := Aside0.mk ((by rw [hg]; exact (below_size (by repeat (first | (with_reducible first | exact HB.out | apply below_alloc | apply pw_below_drewN | apply below_drew1) | exact HB.out))) : w.heap.size ≤ gb106)); have n4_ := Aside0.mk ((by rw [hg]; exact (below_size (by repeat (first | (with_reducible first | exact HB.out | apply below_alloc | apply pw_below_drewN | apply below_drew1) | exact HB.out))) : w.heap.size ≤ gb106)); clear HO_7; clear HB; have HO_7 := n0_; have HB := n1_; have BK106 := n2_; have GW106 := n3_; have GE106 := n4_; clear n0_ n1_ n2_ n3_ n4_; clear hb hbox hg; have hcz26_0 : w25.cell? ⟨gb106, 0, none⟩ = some (.string (⟨#[]⟩ : ByteArray)) := (blk_cell BK106.out 0).trans rfl; have hcz26_1 : w25.cell? ⟨gb106, 1, none⟩ = some (.slice none 0 0) := (blk_cell BK106.out 1).trans rfl; have hfz26_0 := blk_frozen BK106.out 0; have hfz26_1 := blk_frozen BK106.out 1) | ((with_reducible refine gate_callee (f := 28) rfl ?_); refine goesL_ (some 33) rfl rfl Try.func28 (by kernel_rfl) rfl #[.string ((rd_T44 l1 x26_1).f0)] rfl (by (try simp only [List.map_toArray, List.map_cons, List.map_nil]); first | done | rfl | (simp only [List.length_drop, List.length_take]; rfl)) ?_; (with_reducible refine (name_Kind.calls k1 ((rd_T44 l1 x26_1).f0) t107 _ A11.out).mono ?_); rintro e w' ⟨rfl, ⟨nd, rfl⟩⟩; refine ⟨_, rfl, ?_⟩) | ((with_reducible refine gate_dst (N := 39) rfl ?_); refine Kd.P_look (v := v103) (m := x7_1) (s := ((rd_T44 l1 x26_1).f0)) rfl rfl rfl rfl LMc13.out (by (with_reducible repeat (first | apply Kd.P_alloc | apply Kd.P_drewN | apply Kd.P_drew)); exact (Kd.P_mono (Kd.P_far (p := ⟨gb106, 1, none⟩) (Kd.P_far (p := ⟨gb106, 0, none⟩) (Kd.P_types HO_7.out BK106.out (by decide)) (fun _ hk => hk.2) (.string ((rd_T44 l1 x26_1).f0))) (fun _ hk => hk.2) (.slice A105_1 ((rd_T44 l1 x26_1).f1).length c105_1)) (fun _ h_ => h_.1))) ?_) | ((with_reducible refine gate_callee (f := 20) rfl ?_); refine goesL_ (some 45) rfl rfl Try.func20 (by kernel_rfl) rfl #[.slice A105_1 ((rd_T44 l1 x26_1).f1).length c105_1] rfl (by (try simp only [List.map_toArray, List.map_cons, List.map_nil]); first | done | rfl | (simp only [List.length_drop, List.length_take]; rfl)) ?_; (with_reducible refine (term_Check.calls k1 _ _ ((rd_T44 l1 x26_1).f1) t108 _ ?side1 ?side2 A17.out).mono ?_); (case side1 => exact Kd.C_below HR105_1.out (by repeat (first | (with_reducible first | exact HB.out | apply below_alloc | apply pw_below_drewN | apply below_drew1 | refine below_set ?_ GE106.out) | exact HB.out))); (case side2 => exact HC105_1.out); rintro e w27 ⟨rfl, hb⟩; refine ⟨_, rfl, ?_⟩; have n0_ := Aside0.mk (Kd.P_below (by (with_reducible repeat (first | apply Kd.P_alloc | apply Kd.P_drewN | apply Kd.P_drew)); exact (Kd.P_mono (Kd.P_far (p := ⟨gb106, 1, none⟩) (Kd.P_far (p := ⟨gb106, 0, none⟩) (Kd.P_types HO_7.out BK106.out (by decide)) (fun _ hk => hk.2) (.string ((rd_T44 l1 x26_1).f0))) (fun _ hk => hk.2) (.slice A105_1 ((rd_T44 l1 x26_1).f1).length c105_1)) (fun _ h_ => h_.1))) hb); have n1_ := Aside0.mk (blk_below (g := gb106) (o := .cells #[.string ((rd_T44 l1 x26_1).f0), .slice A105_1 ((rd_T44 l1 x26_1).f1).length c105_1] 44 (0, 0)) (by (with_reducible repeat (first | refine blk_drewN ?_ _ | refine blk_drew ?_ | refine blk_alloc ?_ _)); refine blk_put (cs := #[.string ((rd_T44 l1 x26_1).f0), .slice none 0 0]) ?_ 1 _ rfl; (with_reducible repeat (first | refine blk_drewN ?_ _ | refine blk_drew ?_ | refine blk_alloc ?_ _)); refine blk_put (cs := #[.string (⟨#[]⟩ : ByteArray), .slice none 0 0]) ?_ 0 _ rfl; (with_reducible repeat (first | refine blk_drewN ?_ _ | refine blk_drew ?_ | refine blk_alloc ?_ _)); exact BK106.out) hb); have n2_ := Aside0.mk (below_step (by repeat (first | (with_reducible first | exact HB.out | apply below_alloc | apply pw_below_drewN | apply below_drew1 | refine below_set ?_ GE106.out) | exact HB.out)) hb); clear HO_7; clear BK106; clear HB; have HO_7 := n0_; have BK106 := n1_; have HB := n2_; clear n0_ n1_ n2_; (try clear hb); (try clear hb2); (try clear hk); (try clear hi)))
                      go_ret2
                      exact ⟨_, by first | rfl | (simp [errW_none, errW_some] <;> rfl) | (simp [*, errW_none, errW_some] <;> rfl), by first | exact Kd.R_nil _ _ _ _ _ | exact Kd.N_nil _ _ _ _ _ | exact Kd.V_nil _ _ _ _ _ | exact Kd.Q_nil _ _ _ _ _ | exact Kd.S_nil _ _ _ _ _, by repeat (first | (with_reducible first | exact HB.out | apply below_alloc | apply pw_below_drewN | apply below_drew1 | refine below_set ?_ GE106.out) | exact HB.out)⟩
                · rw [if_neg c13] at H
                  exact absurd H (by simp)
              · rw [if_neg c12] at H
                have c12b0 : (t107 == 2) = false := beq_eq_false_iff_ne.mpr c12
                have c12b1 : (t107 != 2) = true := bne_iff_ne.mpr c12
                simp only [Option.some.injEq, Prod.mk.injEq] at H
                obtain ⟨rfl, rfl⟩ := H
                have p105 : 0 ≤ (x26_1 : Int) := of_decide_eq_true (by first | (with_reducible assumption) | assumption)
                have q105 : x26_1 < (l1.length : Int) := of_decide_eq_true (by first | (with_reducible assumption) | assumption)
                obtain ⟨ad105, A105_1, c105_1, e105, hx105_0, hx105_1, hl105_1, hi105_1⟩ := at_T44 HR1.out x26_1 p105 q105
                cases e105
                replace hx105_0 := (HB.out.cell (World.block_lt_of_cell? w _ hx105_0)).trans hx105_0
                replace hx105_1 := (HB.out.cell (World.block_lt_of_cell? w _ hx105_1)).trans hx105_1
                have HR105_1 := Aside0.mk hi105_1
                have HC105_1 := Aside0.mk hl105_1
                clear hi105_1 hl105_1
                replace p105 := eq_true p105
                replace q105 := eq_true q105
                go_wp2_with (first | ((with_reducible refine gate_dst (N := 9) rfl ?_); refine box_event ?hg (N := 9) ?hd (cs := #[.string (⟨#[]⟩ : ByteArray), .slice none 0 0]) (t := 44) ?hr ?_; (case hd => rfl); (case hg => rfl); (case hr => first | (go_simp; done) | (go_simp; rfl)); intro gb106 hg w28 hbox hb; have n0_ := Aside0.mk (Kd.P_below (by (with_reducible repeat (first | apply Kd.P_alloc | apply Kd.P_drewN | apply Kd.P_drew)); exact HO_7.out) hb); have n1_ := Aside0.mk (below_step (by repeat (first | (with_reducible first | exact HB.out | apply below_alloc | apply pw_below_drewN | apply below_drew1) | exact HB.out)) hb); have n2_ := Aside0.mk (hbox); have n3_ := Aside0.mk ((by rw [hg]; exact (below_size (by repeat (first | (with_reducible first | exact HB.out | apply below_alloc | apply pw_below_drewN | apply below_drew1) | exact HB.out))) : w.heap.size ≤ gb106)); have n4_ := Aside0.mk ((by rw [hg]; exact (below_size (by repeat (first | (with_reducible first | exact HB.out | apply below_alloc | apply pw_below_drewN | apply below_drew1) | exact HB.out))) : w.heap.size ≤ gb106)); clear HO_7; clear HB; have HO_7 := n0_; have HB := n1_; have BK106 := n2_; have GW106 := n3_; have GE106 := n4_; clear n0_ n1_ n2_ n3_ n4_; clear hb hbox hg; have hcz29_0 : w28.cell? ⟨gb106, 0, none⟩ = some (.string (⟨#[]⟩ : ByteArray)) := (blk_cell BK106.out 0).trans rfl; have hcz29_1 : w28.cell? ⟨gb106, 1, none⟩ = some (.slice none 0 0) := (blk_cell BK106.out 1).trans rfl; have hfz29_0 := blk_frozen BK106.out 0; have hfz29_1 := blk_frozen BK106.out 1) | ((with_reducible refine gate_callee (f := 28) rfl ?_); refine goesL_ (some 33) rfl rfl Try.func28 (by kernel_rfl) rfl #[.string ((rd_T44 l1 x26_1).f0)] rfl (by (try simp only [List.map_toArray, List.map_cons, List.map_nil]); first | done | rfl | (simp only [List.length_drop, List.length_take]; rfl)) ?_; (with_reducible refine (name_Kind.calls k1 ((rd_T44 l1 x26_1).f0) t107 _ A11.out).mono ?_); rintro e w' ⟨rfl, ⟨nd, rfl⟩⟩; refine ⟨_, rfl, ?_⟩))
                go_ret2
                exact ⟨_, by first | rfl | (simp [errW_none, errW_some] <;> rfl) | (simp [*, errW_none, errW_some] <;> rfl), by first | exact Kd.R_nil _ _ _ _ _ | exact Kd.N_nil _ _ _ _ _ | exact Kd.V_nil _ _ _ _ _ | exact Kd.Q_nil _ _ _ _ _ | exact Kd.S_nil _ _ _ _ _, by repeat (first | (with_reducible first | exact HB.out | apply below_alloc | apply pw_below_drewN | apply below_drew1 | refine below_set ?_ GE106.out) | exact HB.out)⟩
            · rw [if_neg c10] at H
              exact absurd H (by simp)
          · rw [if_neg c9] at H
            exact absurd H (by simp)
        · rw [if_neg c8] at H
          have c8b0 : decide (x26_1 < (l1.length : Int)) = false := decide_eq_false c8
          clear c8
          have H' := Aside0.mk H
          clear H
          go_wp2
          go_loopg [13, 56] k1 (fun kq v13 v56 w' => ∃ (x13_2 : List (S47)) (x56_2 : Int), v56 = .int .i64 x56_2 ∧ Aside0 (match_Fill.l1 kq l1 x7_1 x13_2 l0 (l0.length : Int) x56_2 = some (r1, r2)) ∧ Aside0 (kq ≤ k1) ∧ Aside0 (Kd.P k47 51 w' w.heap.size (fun _ => True) v103 x7_1) ∧ Aside0 (Kd.R k47 47 w' w.heap.size (fun _ => True) v13 x13_2) ∧ Aside0 (Below w.heap.size w w'))
          case atStart => exact ⟨(([] : List (S47))), (0), (by first | rfl | (simp; done) | (simp [*]; done)), H', ⟨Nat.le_refl _⟩, ⟨by (with_reducible repeat (first | apply Kd.P_alloc | apply Kd.P_drewN | apply Kd.P_drew)); exact HO_7.out⟩, ⟨by first | exact Kd.R_nil _ _ _ _ _ | exact Kd.N_nil _ _ _ _ _ | exact Kd.V_nil _ _ _ _ _ | exact Kd.Q_nil _ _ _ _ _ | exact Kd.S_nil _ _ _ _ _⟩, ⟨by repeat (first | (with_reducible first | exact HB.out | apply below_alloc | apply pw_below_drewN | apply below_drew1) | exact HB.out)⟩⟩
          case round =>
            clear H'
            try clear c1
            try clear p1
            try clear q1
            try clear hx1
            try clear c2
            try clear p2
            try clear c4
            try clear c4b0
            try clear c4b1
            try clear p6
            try clear c8
            try clear c8b0
            try clear c9
            try clear c9b0
            try clear c10
            try clear c10b0
            try clear p10
            try clear q10
            try clear hx10
            try clear c12
            try clear c12b0
            try clear c12b1
            try clear c13
            try clear c14
            try clear c14b0
            try clear c18
            try clear c18b0
            try clear c18b1
            try clear c19
            try clear c20
            try clear c28
            try clear hcz16_0
            try clear hcz16_1
            try clear hcz21_0
            try clear hcz21_1
            try clear hcz23_0
            try clear hcz23_1
            try clear hcz26_0
            try clear hcz26_1
            try clear hcz29_0
            try clear hcz29_1
            try clear hfz16_0
            try clear hfz16_1
            try clear hfz21_0
            try clear hfz21_1
            try clear hfz23_0
            try clear hfz23_1
            try clear hfz26_0
            try clear hfz26_1
            try clear hfz29_0
            try clear hfz29_1
            try clear hx105_0
            try clear hx105_1
            try clear p105
            try clear p2
            try clear q105
            obtain ⟨x13_2, x56_2, rfl, HA, HK2, HO_7, HO_13, HB⟩ := hrel
            cases gk with
            | zero => exact absurd HA.out (by simp [match_Fill.l1])
            | succ k2 =>
              have H := HA.out
              clear HA
              simp only [match_Fill.l1] at H
              by_cases c30 : x56_2 < (l0.length : Int)
              · rw [if_pos c30] at H
                have c30b0 : decide (x56_2 < (l0.length : Int)) = true := decide_eq_true c30
                clear c30
                by_cases c31 : 0 ≤ x56_2
                · rw [if_pos c31] at H
                  have c31b0 : decide (0 ≤ x56_2) = true := decide_eq_true c31
                  clear c31
                  by_cases c32 : x56_2 < (l0.length : Int)
                  · rw [if_pos c32] at H
                    have c32b0 : decide (x56_2 < (l0.length : Int)) = true := decide_eq_true c32
                    clear c32
                    by_cases c33 : ((rd_T47 l0 x56_2).f0).size ≤ 9223372036854775807
                    · rw [if_pos c33] at H
                      have LMc33 := Aside0.mk c33
                      clear c33
                      replace H := Option.bind_eq_some_iff.mp H
                      obtain ⟨t114, A340, H⟩ := H
                      replace H : (if t114 = true then (if (mapHas x7_1 ((rd_T47 l0 x56_2).f0) = true) then (if 0 ≤ (mapAt x7_1 ((rd_T47 l0 x56_2).f0)) then (if (mapAt x7_1 ((rd_T47 l0 x56_2).f0)) < (l1.length : Int) then (if x13_2.length + ((rd_T44 l1 (mapAt x7_1 ((rd_T47 l0 x56_2).f0))).f1).length < 5864062014805 then (match_Fill.l1 k2 l1 x7_1 (x13_2 ++ ((rd_T44 l1 (mapAt x7_1 ((rd_T47 l0 x56_2).f0))).f1)) l0 (l0.length : Int) (wrap64 (x56_2 + 1))) else (none)) else (none)) else (none)) else (some (([] : List (S47)), 7))) else (if x13_2.length < 5864062014805 then (match_Fill.l1 k2 l1 x7_1 (x13_2 ++ [(⟨(rd_T47 l0 x56_2).f0, (rd_T47 l0 x56_2).f1⟩ : S47)]) l0 (l0.length : Int) (wrap64 (x56_2 + 1))) else (none))) = some (r1, r2) := H
                      have A34 := Aside0.mk A340
                      clear A340
                      by_cases c35 : t114 = true
                      · subst c35
                        have H1 : (if (mapHas x7_1 ((rd_T47 l0 x56_2).f0) = true) then (if 0 ≤ (mapAt x7_1 ((rd_T47 l0 x56_2).f0)) then (if (mapAt x7_1 ((rd_T47 l0 x56_2).f0)) < (l1.length : Int) then (if x13_2.length + ((rd_T44 l1 (mapAt x7_1 ((rd_T47 l0 x56_2).f0))).f1).length < 5864062014805 then (match_Fill.l1 k2 l1 x7_1 (x13_2 ++ ((rd_T44 l1 (mapAt x7_1 ((rd_T47 l0 x56_2).f0))).f1)) l0 (l0.length : Int) (wrap64 (x56_2 + 1))) else (none)) else (none)) else (none)) else (some (([] : List (S47)), 7))) = some (r1, r2) := by rw [if_pos rfl] at H; exact H
                        clear H
                        have H := H1
                        clear H1
                        by_cases c36 : (mapHas x7_1 ((rd_T47 l0 x56_2).f0) = true)
                        · rw [if_pos c36] at H
                          have c36b0 : mapHas x7_1 ((rd_T47 l0 x56_2).f0) = true := c36
                          clear c36
                          by_cases c37 : 0 ≤ (mapAt x7_1 ((rd_T47 l0 x56_2).f0))
                          · rw [if_pos c37] at H
                            have c37b0 : decide (0 ≤ (mapAt x7_1 ((rd_T47 l0 x56_2).f0))) = true := decide_eq_true c37
                            clear c37
                            by_cases c38 : (mapAt x7_1 ((rd_T47 l0 x56_2).f0)) < (l1.length : Int)
                            · rw [if_pos c38] at H
                              have c38b0 : decide ((mapAt x7_1 ((rd_T47 l0 x56_2).f0)) < (l1.length : Int)) = true := decide_eq_true c38
                              clear c38
                              by_cases c39 : x13_2.length + ((rd_T44 l1 (mapAt x7_1 ((rd_T47 l0 x56_2).f0))).f1).length < 5864062014805
                              · rw [if_pos c39] at H
                                have LMc39 := Aside0.mk c39
                                clear c39
                                obtain ⟨y116, hy116⟩ : ∃ y_ : List (S47), y_ = (x13_2 ++ ((rd_T44 l1 (mapAt x7_1 ((rd_T47 l0 x56_2).f0))).f1)) := ⟨_, rfl⟩
                                replace H : (match_Fill.l1 k2 l1 x7_1 y116 l0 (l0.length : Int) (wrap64 (x56_2 + 1))) = some (r1, r2) := by first | (rw [hy116]; with_reducible exact H) | (have H2_ := (Option.bind_some _ _).symm.trans H; rw [hy116]; with_reducible exact H2_) | (have H2_ := (Option.bind_some _ _).symm.trans H; with_reducible exact H2_) | with_reducible exact H | (rw [hy116]; exact H) | exact H
                                have Ny116 := Aside0.mk hy116
                                clear hy116
                                have H' := Aside0.mk H
                                clear H
                                have p112 : 0 ≤ (x56_2 : Int) := of_decide_eq_true (by first | (with_reducible assumption) | assumption)
                                have q112 : x56_2 < (l0.length : Int) := of_decide_eq_true (by first | (with_reducible assumption) | assumption)
                                obtain ⟨ad112, e112, hx112_0, hx112_1⟩ := at_T47 HR0.out x56_2 p112 q112
                                cases e112
                                replace hx112_0 := (HB.out.cell (World.block_lt_of_cell? w _ hx112_0)).trans hx112_0
                                replace hx112_1 := (HB.out.cell (World.block_lt_of_cell? w _ hx112_1)).trans hx112_1
                                replace p112 := eq_true p112
                                replace q112 := eq_true q112
                                go_wp2_with (first | ((with_reducible refine gate_dst (N := 15) rfl ?_); refine box_event ?hg (N := 15) ?hd (cs := #[.string (⟨#[]⟩ : ByteArray), .int .i64 0]) (t := 47) ?hr ?_; (case hd => rfl); (case hg => rfl); (case hr => first | (go_simp; done) | (go_simp; rfl)); intro gb113 hg w40 hbox hb; have n0_ := Aside0.mk (Kd.P_below (by (with_reducible repeat (first | apply Kd.P_alloc | apply Kd.P_drewN | apply Kd.P_drew)); exact HO_7.out) hb); have n1_ := Aside0.mk (Kd.R_below (Kd.R_elderB (by (with_reducible repeat (first | apply Kd.R_alloc | apply Kd.R_drewN | apply Kd.R_drew)); exact HO_13.out) gb113 (Nat.le_of_eq hg.symm)) hb); have n2_ := Aside0.mk (below_step (by repeat (first | (with_reducible first | exact HB.out | apply below_alloc | apply pw_below_drewN | apply below_drew1) | exact HB.out)) hb); have n3_ := Aside0.mk (hbox); have n4_ := Aside0.mk ((by rw [hg]; exact (below_size (by repeat (first | (with_reducible first | exact HB.out | apply below_alloc | apply pw_below_drewN | apply below_drew1) | exact HB.out))) : w.heap.size ≤ gb113)); have n5_ := Aside0.mk ((by rw [hg]; exact (below_size (by repeat (first | (with_reducible first | exact HB.out | apply below_alloc | apply pw_below_drewN | apply below_drew1) | exact HB.out))) : w.heap.size ≤ gb113)); clear HO_7; clear HO_13; clear HB; have HO_7 := n0_; have HO_13 := n1_; have HB := n2_; have BK113 := n3_; have GW113 := n4_; have GE113 := n5_; clear n0_ n1_ n2_ n3_ n4_ n5_; clear hb hbox hg; have hcz41_0 : w40.cell? ⟨gb113, 0, none⟩ = some (.string (⟨#[]⟩ : ByteArray)) := (blk_cell BK113.out 0).trans rfl; have hcz41_1 : w40.cell? ⟨gb113, 1, none⟩ = some (.int .i64 0) := (blk_cell BK113.out 1).trans rfl; have hfz41_0 := blk_frozen BK113.out 0; have hfz41_1 := blk_frozen BK113.out 1) | ((with_reducible refine gate_dst (N := 64) rfl ?_); refine Kd.P_look (v := v103) (m := x7_1) (s := ((rd_T47 l0 x56_2).f0)) rfl rfl rfl rfl LMc33.out (by (with_reducible repeat (first | apply Kd.P_alloc | apply Kd.P_drewN | apply Kd.P_drew)); exact (Kd.P_mono (Kd.P_far (p := ⟨gb113, 1, none⟩) (Kd.P_far (p := ⟨gb113, 0, none⟩) (Kd.P_types HO_7.out BK113.out (by decide)) (fun _ hk => hk.2) (.string ((rd_T47 l0 x56_2).f0))) (fun _ hk => hk.2) (.int .i64 ((rd_T47 l0 x56_2).f1))) (fun _ h_ => h_.1))) ?_) | ((with_reducible refine gate_callee (f := 21) rfl ?_); refine goesL_ (some 76) rfl rfl Try.func21 (by kernel_rfl) rfl #[.agg #[.string ((rd_T47 l0 x56_2).f0), .int .i64 ((rd_T47 l0 x56_2).f1)]] rfl (by (try simp only [List.map_toArray, List.map_cons, List.map_nil]); first | done | rfl | (simp only [List.length_drop, List.length_take]; rfl)) ?_; (with_reducible refine (match_variable.calls k2 ((rd_T47 l0 x56_2).f0) ((rd_T47 l0 x56_2).f1) true _ A34.out).mono ?_); rintro e w42 ⟨rfl, hb⟩; refine ⟨_, rfl, ?_⟩; have n0_ := Aside0.mk (Kd.P_below (by (with_reducible repeat (first | apply Kd.P_alloc | apply Kd.P_drewN | apply Kd.P_drew)); exact (Kd.P_mono (Kd.P_far (p := ⟨gb113, 1, none⟩) (Kd.P_far (p := ⟨gb113, 0, none⟩) (Kd.P_types HO_7.out BK113.out (by decide)) (fun _ hk => hk.2) (.string ((rd_T47 l0 x56_2).f0))) (fun _ hk => hk.2) (.int .i64 ((rd_T47 l0 x56_2).f1))) (fun _ h_ => h_.1))) hb); have n1_ := Aside0.mk (Kd.R_below (by (with_reducible repeat (first | apply Kd.R_alloc | apply Kd.R_drewN | apply Kd.R_drew)); exact (Kd.R_mono (Kd.R_far (p := ⟨gb113, 1, none⟩) (Kd.R_far (p := ⟨gb113, 0, none⟩) (Kd.R_mono HO_13.out (fun k_ hk => (⟨hk, hk.2⟩ : _ ∧ k_ ≠ gb113))) (fun _ hk => hk.2) (.string ((rd_T47 l0 x56_2).f0))) (fun _ hk => hk.2) (.int .i64 ((rd_T47 l0 x56_2).f1))) (fun _ h_ => h_.1))) hb); have n2_ := Aside0.mk (blk_below (g := gb113) (o := .cells #[.string ((rd_T47 l0 x56_2).f0), .int .i64 ((rd_T47 l0 x56_2).f1)] 47 (0, 0)) (by (with_reducible repeat (first | refine blk_drewN ?_ _ | refine blk_drew ?_ | refine blk_alloc ?_ _)); refine blk_put (cs := #[.string ((rd_T47 l0 x56_2).f0), .int .i64 0]) ?_ 1 _ rfl; (with_reducible repeat (first | refine blk_drewN ?_ _ | refine blk_drew ?_ | refine blk_alloc ?_ _)); refine blk_put (cs := #[.string (⟨#[]⟩ : ByteArray), .int .i64 0]) ?_ 0 _ rfl; (with_reducible repeat (first | refine blk_drewN ?_ _ | refine blk_drew ?_ | refine blk_alloc ?_ _)); exact BK113.out) hb); have n3_ := Aside0.mk (below_step (by repeat (first | (with_reducible first | exact HB.out | apply below_alloc | apply pw_below_drewN | apply below_drew1 | refine below_set ?_ GE113.out) | exact HB.out)) hb); clear HO_7; clear HO_13; clear BK113; clear HB; have HO_7 := n0_; have HO_13 := n1_; have BK113 := n2_; have HB := n3_; clear n0_ n1_ n2_ n3_; (try clear hb); (try clear hb2); (try clear hk); (try clear hi); have p115 : 0 ≤ ((mapAt x7_1 ((rd_T47 l0 x56_2).f0)) : Int) := of_decide_eq_true (by first | (with_reducible assumption) | assumption); have q115 : (mapAt x7_1 ((rd_T47 l0 x56_2).f0)) < (l1.length : Int) := of_decide_eq_true (by first | (with_reducible assumption) | assumption); obtain ⟨ad115, A115_1, c115_1, e115, hx115_0, hx115_1, hl115_1, hi115_1⟩ := at_T44 HR1.out (mapAt x7_1 ((rd_T47 l0 x56_2).f0)) p115 q115; cases e115; replace hx115_0 := (HB.out.cell (World.block_lt_of_cell? w _ hx115_0)).trans hx115_0; replace hx115_1 := (HB.out.cell (World.block_lt_of_cell? w _ hx115_1)).trans hx115_1; have HR115_1 := Aside0.mk hi115_1; have HC115_1 := Aside0.mk hl115_1; clear hi115_1 hl115_1; replace p115 := eq_true p115; replace q115 := eq_true q115) | ((with_reducible refine gate_builtin (b := .append) (xs := #[.tmp 67, .tmp 72]) rfl ?_); at_builtin; refine Kd.R_append_rows k47 (w0 := w) w.heap.size rfl (.tmp 67) (.tmp 72) 23 47 (.agg #[(.string ⟨#[]⟩), (.int .i64 0)]) 24 rfl Try.underlying23 info47 rfl (by decide) (by omega) u13 x13_2 ((rd_T44 l1 (mapAt x7_1 ((rd_T47 l0 x56_2).f0))).f1) _ _ _ (fun k_ => k_ ≠ gb113) (fun _ => False) rfl rfl ?aO ?aR (fun _ _ h => h) (fun _ h => h.elim) ?aF ?aB ?aS ?aL ?_; (case aR => repeat (first | exact (Kd.C_below HR115_1.out HB.out) | (with_reducible refine Kd.C_alloc ?_ _) | (with_reducible refine Kd.C_drewN ?_ _) | (with_reducible refine Kd.C_drew ?_))); (case aB => exact (by repeat (first | (with_reducible first | exact HB.out | apply below_alloc | apply pw_below_drewN | apply below_drew1 | refine below_set ?_ GE113.out) | exact HB.out))); (case aF => exact (fun k_ hk => Kd.freshB (g := gb113) (o := .cells #[.string ((rd_T47 l0 x56_2).f0), .int .i64 ((rd_T47 l0 x56_2).f1)] 47 (0, 0)) (by (with_reducible repeat (first | refine blk_drewN ?_ _ | refine blk_drew ?_ | refine blk_alloc ?_ _)); exact BK113.out) k_ hk)); (case aO => exact (by (with_reducible repeat (first | apply Kd.R_alloc | apply Kd.R_drewN | apply Kd.R_drew)); exact Kd.R_mono HO_13.out (fun _ hk => hk.2))); (case aS => exact (below_size (by repeat (first | (with_reducible first | exact HB.out | apply below_alloc | apply pw_below_drewN | apply below_drew1 | refine below_set ?_ GE113.out) | exact HB.out)))); (case aL => have := LMc39.out; omega); intro v117 w43 ho hb hg hat; rw [← Ny116.out] at ho; have n0_ := Aside0.mk (Kd.P_over' (by (with_reducible repeat (first | apply Kd.P_alloc | apply Kd.P_drewN | apply Kd.P_drew)); exact HO_7.out) (Kd.R_typed (by (with_reducible repeat (first | apply Kd.R_alloc | apply Kd.R_drewN | apply Kd.R_drew)); exact HO_13.out)) (by decide) hg); have n1_ := Aside0.mk (blk_grown (g := gb113) (o := .cells #[.string ((rd_T47 l0 x56_2).f0), .int .i64 ((rd_T47 l0 x56_2).f1)] 47 (0, 0)) (by (with_reducible repeat (first | refine blk_drewN ?_ _ | refine blk_drew ?_ | refine blk_alloc ?_ _)); exact BK113.out) hg (Kd.R_away HO_13.out (fun _ hk => hk.2))); have n2_ := Aside0.mk (hb); have n3_ := Aside0.mk (ho); clear HO_7; clear BK113; clear HB; clear HO_13; have HO_7 := n0_; have BK113 := n1_; have HB := n2_; have HO118 := n3_; clear n0_ n1_ n2_ n3_; clear ho hb hg hat))
                                go_roundg k2
                                case measure => have := HK1.out; have := HK2.out; omega
                                case rel => exact ⟨(y116), (wrap64 (x56_2 + 1)), (by first | rfl | (simp; done) | (simp [*]; done)), H', ⟨by have := HK1.out; have := HK2.out; omega⟩, ⟨by (with_reducible repeat (first | apply Kd.P_alloc | apply Kd.P_drewN | apply Kd.P_drew)); exact HO_7.out⟩, ⟨by (with_reducible repeat (first | apply Kd.R_alloc | apply Kd.R_drewN | apply Kd.R_drew)); exact Kd.R_mono HO118.out (fun _ hk => trivial)⟩, ⟨by repeat (first | (with_reducible first | exact HB.out | apply below_alloc | apply pw_below_drewN | apply below_drew1 | refine below_set ?_ GE113.out) | exact HB.out)⟩⟩
                              · rw [if_neg c39] at H
                                exact absurd H (by simp)
                            · rw [if_neg c38] at H
                              exact absurd H (by simp)
                          · rw [if_neg c37] at H
                            exact absurd H (by simp)
                        · rw [if_neg c36] at H
                          have c36b0 : mapHas x7_1 ((rd_T47 l0 x56_2).f0) = false := by simpa using c36
                          clear c36
                          simp only [Option.some.injEq, Prod.mk.injEq] at H
                          obtain ⟨rfl, rfl⟩ := H
                          have p112 : 0 ≤ (x56_2 : Int) := of_decide_eq_true (by first | (with_reducible assumption) | assumption)
                          have q112 : x56_2 < (l0.length : Int) := of_decide_eq_true (by first | (with_reducible assumption) | assumption)
                          obtain ⟨ad112, e112, hx112_0, hx112_1⟩ := at_T47 HR0.out x56_2 p112 q112
                          cases e112
                          replace hx112_0 := (HB.out.cell (World.block_lt_of_cell? w _ hx112_0)).trans hx112_0
                          replace hx112_1 := (HB.out.cell (World.block_lt_of_cell? w _ hx112_1)).trans hx112_1
                          replace p112 := eq_true p112
                          replace q112 := eq_true q112
                          go_wp2_with (first | ((with_reducible refine gate_dst (N := 15) rfl ?_); refine box_event ?hg (N := 15) ?hd (cs := #[.string (⟨#[]⟩ : ByteArray), .int .i64 0]) (t := 47) ?hr ?_; (case hd => rfl); (case hg => rfl); (case hr => first | (go_simp; done) | (go_simp; rfl)); intro gb113 hg w44 hbox hb; have n0_ := Aside0.mk (Kd.P_below (by (with_reducible repeat (first | apply Kd.P_alloc | apply Kd.P_drewN | apply Kd.P_drew)); exact HO_7.out) hb); have n1_ := Aside0.mk (Kd.R_below (Kd.R_elderB (by (with_reducible repeat (first | apply Kd.R_alloc | apply Kd.R_drewN | apply Kd.R_drew)); exact HO_13.out) gb113 (Nat.le_of_eq hg.symm)) hb); have n2_ := Aside0.mk (below_step (by repeat (first | (with_reducible first | exact HB.out | apply below_alloc | apply pw_below_drewN | apply below_drew1) | exact HB.out)) hb); have n3_ := Aside0.mk (hbox); have n4_ := Aside0.mk ((by rw [hg]; exact (below_size (by repeat (first | (with_reducible first | exact HB.out | apply below_alloc | apply pw_below_drewN | apply below_drew1) | exact HB.out))) : w.heap.size ≤ gb113)); have n5_ := Aside0.mk ((by rw [hg]; exact (below_size (by repeat (first | (with_reducible first | exact HB.out | apply below_alloc | apply pw_below_drewN | apply below_drew1) | exact HB.out))) : w.heap.size ≤ gb113)); clear HO_7; clear HO_13; clear HB; have HO_7 := n0_; have HO_13 := n1_; have HB := n2_; have BK113 := n3_; have GW113 := n4_; have GE113 := n5_; clear n0_ n1_ n2_ n3_ n4_ n5_; clear hb hbox hg; have hcz45_0 : w44.cell? ⟨gb113, 0, none⟩ = some (.string (⟨#[]⟩ : ByteArray)) := (blk_cell BK113.out 0).trans rfl; have hcz45_1 : w44.cell? ⟨gb113, 1, none⟩ = some (.int .i64 0) := (blk_cell BK113.out 1).trans rfl; have hfz45_0 := blk_frozen BK113.out 0; have hfz45_1 := blk_frozen BK113.out 1) | ((with_reducible refine gate_dst (N := 64) rfl ?_); refine Kd.P_look (v := v103) (m := x7_1) (s := ((rd_T47 l0 x56_2).f0)) rfl rfl rfl rfl LMc33.out (by (with_reducible repeat (first | apply Kd.P_alloc | apply Kd.P_drewN | apply Kd.P_drew)); exact (Kd.P_mono (Kd.P_far (p := ⟨gb113, 1, none⟩) (Kd.P_far (p := ⟨gb113, 0, none⟩) (Kd.P_types HO_7.out BK113.out (by decide)) (fun _ hk => hk.2) (.string ((rd_T47 l0 x56_2).f0))) (fun _ hk => hk.2) (.int .i64 ((rd_T47 l0 x56_2).f1))) (fun _ h_ => h_.1))) ?_) | ((with_reducible refine gate_callee (f := 21) rfl ?_); refine goesL_ (some 76) rfl rfl Try.func21 (by kernel_rfl) rfl #[.agg #[.string ((rd_T47 l0 x56_2).f0), .int .i64 ((rd_T47 l0 x56_2).f1)]] rfl (by (try simp only [List.map_toArray, List.map_cons, List.map_nil]); first | done | rfl | (simp only [List.length_drop, List.length_take]; rfl)) ?_; (with_reducible refine (match_variable.calls k2 ((rd_T47 l0 x56_2).f0) ((rd_T47 l0 x56_2).f1) true _ A34.out).mono ?_); rintro e w46 ⟨rfl, hb⟩; refine ⟨_, rfl, ?_⟩; have n0_ := Aside0.mk (Kd.P_below (by (with_reducible repeat (first | apply Kd.P_alloc | apply Kd.P_drewN | apply Kd.P_drew)); exact (Kd.P_mono (Kd.P_far (p := ⟨gb113, 1, none⟩) (Kd.P_far (p := ⟨gb113, 0, none⟩) (Kd.P_types HO_7.out BK113.out (by decide)) (fun _ hk => hk.2) (.string ((rd_T47 l0 x56_2).f0))) (fun _ hk => hk.2) (.int .i64 ((rd_T47 l0 x56_2).f1))) (fun _ h_ => h_.1))) hb); have n1_ := Aside0.mk (Kd.R_below (by (with_reducible repeat (first | apply Kd.R_alloc | apply Kd.R_drewN | apply Kd.R_drew)); exact (Kd.R_mono (Kd.R_far (p := ⟨gb113, 1, none⟩) (Kd.R_far (p := ⟨gb113, 0, none⟩) (Kd.R_mono HO_13.out (fun k_ hk => (⟨hk, hk.2⟩ : _ ∧ k_ ≠ gb113))) (fun _ hk => hk.2) (.string ((rd_T47 l0 x56_2).f0))) (fun _ hk => hk.2) (.int .i64 ((rd_T47 l0 x56_2).f1))) (fun _ h_ => h_.1))) hb); have n2_ := Aside0.mk (blk_below (g := gb113) (o := .cells #[.string ((rd_T47 l0 x56_2).f0), .int .i64 ((rd_T47 l0 x56_2).f1)] 47 (0, 0)) (by (with_reducible repeat (first | refine blk_drewN ?_ _ | refine blk_drew ?_ | refine blk_alloc ?_ _)); refine blk_put (cs := #[.string ((rd_T47 l0 x56_2).f0), .int .i64 0]) ?_ 1 _ rfl; (with_reducible repeat (first | refine blk_drewN ?_ _ | refine blk_drew ?_ | refine blk_alloc ?_ _)); refine blk_put (cs := #[.string (⟨#[]⟩ : ByteArray), .int .i64 0]) ?_ 0 _ rfl; (with_reducible repeat (first | refine blk_drewN ?_ _ | refine blk_drew ?_ | refine blk_alloc ?_ _)); exact BK113.out) hb); have n3_ := Aside0.mk (below_step (by repeat (first | (with_reducible first | exact HB.out | apply below_alloc | apply pw_below_drewN | apply below_drew1 | refine below_set ?_ GE113.out) | exact HB.out)) hb); clear HO_7; clear HO_13; clear BK113; clear HB; have HO_7 := n0_; have HO_13 := n1_; have BK113 := n2_; have HB := n3_; clear n0_ n1_ n2_ n3_; (try clear hb); (try clear hb2); (try clear hk); (try clear hi)))
                          go_ret2
                          exact ⟨_, by first | rfl | (simp [errW_none, errW_some] <;> rfl) | (simp [*, errW_none, errW_some] <;> rfl), by first | exact Kd.R_nil _ _ _ _ _ | exact Kd.N_nil _ _ _ _ _ | exact Kd.V_nil _ _ _ _ _ | exact Kd.Q_nil _ _ _ _ _ | exact Kd.S_nil _ _ _ _ _, by repeat (first | (with_reducible first | exact HB.out | apply below_alloc | apply pw_below_drewN | apply below_drew1 | refine below_set ?_ GE113.out) | exact HB.out)⟩
                      · replace c35 := Bool.eq_false_iff.mpr c35
                        subst c35
                        have H1 : (if x13_2.length < 5864062014805 then (match_Fill.l1 k2 l1 x7_1 (x13_2 ++ [(⟨(rd_T47 l0 x56_2).f0, (rd_T47 l0 x56_2).f1⟩ : S47)]) l0 (l0.length : Int) (wrap64 (x56_2 + 1))) else (none)) = some (r1, r2) := by rw [if_neg (show ¬ (false = true) by decide)] at H; exact H
                        clear H
                        have H := H1
                        clear H1
                        by_cases c47 : x13_2.length < 5864062014805
                        · rw [if_pos c47] at H
                          have LMc47 := Aside0.mk c47
                          clear c47
                          obtain ⟨y119, hy119⟩ : ∃ y_ : List (S47), y_ = (x13_2 ++ [(⟨(rd_T47 l0 x56_2).f0, (rd_T47 l0 x56_2).f1⟩ : S47)]) := ⟨_, rfl⟩
                          replace H : (match_Fill.l1 k2 l1 x7_1 y119 l0 (l0.length : Int) (wrap64 (x56_2 + 1))) = some (r1, r2) := by first | (rw [hy119]; with_reducible exact H) | (have H2_ := (Option.bind_some _ _).symm.trans H; rw [hy119]; with_reducible exact H2_) | (have H2_ := (Option.bind_some _ _).symm.trans H; with_reducible exact H2_) | with_reducible exact H | (rw [hy119]; exact H) | exact H
                          have Ny119 := Aside0.mk hy119
                          clear hy119
                          have H' := Aside0.mk H
                          clear H
                          have p112 : 0 ≤ (x56_2 : Int) := of_decide_eq_true (by first | (with_reducible assumption) | assumption)
                          have q112 : x56_2 < (l0.length : Int) := of_decide_eq_true (by first | (with_reducible assumption) | assumption)
                          obtain ⟨ad112, e112, hx112_0, hx112_1⟩ := at_T47 HR0.out x56_2 p112 q112
                          cases e112
                          replace hx112_0 := (HB.out.cell (World.block_lt_of_cell? w _ hx112_0)).trans hx112_0
                          replace hx112_1 := (HB.out.cell (World.block_lt_of_cell? w _ hx112_1)).trans hx112_1
                          replace p112 := eq_true p112
                          replace q112 := eq_true q112
                          go_wp2_with (first | ((with_reducible refine gate_dst (N := 15) rfl ?_); refine box_event ?hg (N := 15) ?hd (cs := #[.string (⟨#[]⟩ : ByteArray), .int .i64 0]) (t := 47) ?hr ?_; (case hd => rfl); (case hg => rfl); (case hr => first | (go_simp; done) | (go_simp; rfl)); intro gb113 hg w48 hbox hb; have n0_ := Aside0.mk (Kd.P_below (by (with_reducible repeat (first | apply Kd.P_alloc | apply Kd.P_drewN | apply Kd.P_drew)); exact HO_7.out) hb); have n1_ := Aside0.mk (Kd.R_below (Kd.R_elderB (by (with_reducible repeat (first | apply Kd.R_alloc | apply Kd.R_drewN | apply Kd.R_drew)); exact HO_13.out) gb113 (Nat.le_of_eq hg.symm)) hb); have n2_ := Aside0.mk (below_step (by repeat (first | (with_reducible first | exact HB.out | apply below_alloc | apply pw_below_drewN | apply below_drew1) | exact HB.out)) hb); have n3_ := Aside0.mk (hbox); have n4_ := Aside0.mk ((by rw [hg]; exact (below_size (by repeat (first | (with_reducible first | exact HB.out | apply below_alloc | apply pw_below_drewN | apply below_drew1) | exact HB.out))) : w.heap.size ≤ gb113)); have n5_ := Aside0.mk ((by rw [hg]; exact (below_size (by repeat (first | (with_reducible first | exact HB.out | apply below_alloc | apply pw_below_drewN | apply below_drew1) | exact HB.out))) : w.heap.size ≤ gb113)); clear HO_7; clear HO_13; clear HB; have HO_7 := n0_; have HO_13 := n1_; have HB := n2_; have BK113 := n3_; have GW113 := n4_; have GE113 := n5_; clear n0_ n1_ n2_ n3_ n4_ n5_; clear hb hbox hg; have hcz49_0 : w48.cell? ⟨gb113, 0, none⟩ = some (.string (⟨#[]⟩ : ByteArray)) := (blk_cell BK113.out 0).trans rfl; have hcz49_1 : w48.cell? ⟨gb113, 1, none⟩ = some (.int .i64 0) := (blk_cell BK113.out 1).trans rfl; have hfz49_0 := blk_frozen BK113.out 0; have hfz49_1 := blk_frozen BK113.out 1) | ((with_reducible refine gate_dst (N := 64) rfl ?_); refine Kd.P_look (v := v103) (m := x7_1) (s := ((rd_T47 l0 x56_2).f0)) rfl rfl rfl rfl LMc33.out (by (with_reducible repeat (first | apply Kd.P_alloc | apply Kd.P_drewN | apply Kd.P_drew)); exact (Kd.P_mono (Kd.P_far (p := ⟨gb113, 1, none⟩) (Kd.P_far (p := ⟨gb113, 0, none⟩) (Kd.P_types HO_7.out BK113.out (by decide)) (fun _ hk => hk.2) (.string ((rd_T47 l0 x56_2).f0))) (fun _ hk => hk.2) (.int .i64 ((rd_T47 l0 x56_2).f1))) (fun _ h_ => h_.1))) ?_) | ((with_reducible refine gate_callee (f := 21) rfl ?_); refine goesL_ (some 76) rfl rfl Try.func21 (by kernel_rfl) rfl #[.agg #[.string ((rd_T47 l0 x56_2).f0), .int .i64 ((rd_T47 l0 x56_2).f1)]] rfl (by (try simp only [List.map_toArray, List.map_cons, List.map_nil]); first | done | rfl | (simp only [List.length_drop, List.length_take]; rfl)) ?_; (with_reducible refine (match_variable.calls k2 ((rd_T47 l0 x56_2).f0) ((rd_T47 l0 x56_2).f1) false _ A34.out).mono ?_); rintro e w50 ⟨rfl, hb⟩; refine ⟨_, rfl, ?_⟩; have n0_ := Aside0.mk (Kd.P_below (by (with_reducible repeat (first | apply Kd.P_alloc | apply Kd.P_drewN | apply Kd.P_drew)); exact (Kd.P_mono (Kd.P_far (p := ⟨gb113, 1, none⟩) (Kd.P_far (p := ⟨gb113, 0, none⟩) (Kd.P_types HO_7.out BK113.out (by decide)) (fun _ hk => hk.2) (.string ((rd_T47 l0 x56_2).f0))) (fun _ hk => hk.2) (.int .i64 ((rd_T47 l0 x56_2).f1))) (fun _ h_ => h_.1))) hb); have n1_ := Aside0.mk (Kd.R_below (by (with_reducible repeat (first | apply Kd.R_alloc | apply Kd.R_drewN | apply Kd.R_drew)); exact (Kd.R_mono (Kd.R_far (p := ⟨gb113, 1, none⟩) (Kd.R_far (p := ⟨gb113, 0, none⟩) (Kd.R_mono HO_13.out (fun k_ hk => (⟨hk, hk.2⟩ : _ ∧ k_ ≠ gb113))) (fun _ hk => hk.2) (.string ((rd_T47 l0 x56_2).f0))) (fun _ hk => hk.2) (.int .i64 ((rd_T47 l0 x56_2).f1))) (fun _ h_ => h_.1))) hb); have n2_ := Aside0.mk (blk_below (g := gb113) (o := .cells #[.string ((rd_T47 l0 x56_2).f0), .int .i64 ((rd_T47 l0 x56_2).f1)] 47 (0, 0)) (by (with_reducible repeat (first | refine blk_drewN ?_ _ | refine blk_drew ?_ | refine blk_alloc ?_ _)); refine blk_put (cs := #[.string ((rd_T47 l0 x56_2).f0), .int .i64 0]) ?_ 1 _ rfl; (with_reducible repeat (first | refine blk_drewN ?_ _ | refine blk_drew ?_ | refine blk_alloc ?_ _)); refine blk_put (cs := #[.string (⟨#[]⟩ : ByteArray), .int .i64 0]) ?_ 0 _ rfl; (with_reducible repeat (first | refine blk_drewN ?_ _ | refine blk_drew ?_ | refine blk_alloc ?_ _)); exact BK113.out) hb); have n3_ := Aside0.mk (below_step (by repeat (first | (with_reducible first | exact HB.out | apply below_alloc | apply pw_below_drewN | apply below_drew1 | refine below_set ?_ GE113.out) | exact HB.out)) hb); clear HO_7; clear HO_13; clear BK113; clear HB; have HO_7 := n0_; have HO_13 := n1_; have BK113 := n2_; have HB := n3_; clear n0_ n1_ n2_ n3_; (try clear hb); (try clear hb2); (try clear hk); (try clear hi); have hcz51_0 : w50.cell? ⟨gb113, 0, none⟩ = some (.string ((rd_T47 l0 x56_2).f0)) := (blk_cell BK113.out 0).trans rfl; have hcz51_1 : w50.cell? ⟨gb113, 1, none⟩ = some (.int .i64 ((rd_T47 l0 x56_2).f1)) := (blk_cell BK113.out 1).trans rfl; have hfz51_0 := blk_frozen BK113.out 0; have hfz51_1 := blk_frozen BK113.out 1) | ((with_reducible refine gate_builtin (b := .append) (xs := #[.tmp 78, .tmp 80]) rfl ?_); at_builtin; refine Kd.R_append k47 (w0 := w) w.heap.size rfl (.tmp 78) (.tmp 80) 23 47 (.agg #[(.string ⟨#[]⟩), (.int .i64 0)]) 24 rfl Try.underlying23 info47 rfl (by decide) (by omega) u13 x13_2 (⟨(rd_T47 l0 x56_2).f0, (rd_T47 l0 x56_2).f1⟩ : S47) [.string ((rd_T47 l0 x56_2).f0), .int .i64 ((rd_T47 l0 x56_2).f1)] (fun k_ => k_ ≠ gb113) (fun _ => False) rfl rfl ?aP (fun _ hk => hk.elim) ?aF ?aO ?aB ?aS ?aL ?_; (case aP => exact k47_mkM _ _ _ (⟨(rd_T47 l0 x56_2).f0, (rd_T47 l0 x56_2).f1⟩ : S47)); (case aB => exact (by repeat (first | (with_reducible first | exact HB.out | apply below_alloc | apply pw_below_drewN | apply below_drew1 | refine below_set ?_ GE113.out) | exact HB.out))); (case aF => exact (fun k_ hk => Kd.freshB (g := gb113) (o := .cells #[.string ((rd_T47 l0 x56_2).f0), .int .i64 ((rd_T47 l0 x56_2).f1)] 47 (0, 0)) (by (with_reducible repeat (first | refine blk_drewN ?_ _ | refine blk_drew ?_ | refine blk_alloc ?_ _)); exact BK113.out) k_ hk)); (case aO => exact (by (with_reducible repeat (first | apply Kd.R_alloc | apply Kd.R_drewN | apply Kd.R_drew)); exact Kd.R_mono HO_13.out (fun _ hk => hk.2))); (case aS => exact (below_size (by repeat (first | (with_reducible first | exact HB.out | apply below_alloc | apply pw_below_drewN | apply below_drew1 | refine below_set ?_ GE113.out) | exact HB.out)))); (case aL => have := LMc47.out; omega); intro v120 w52 ho hb hg hat; rw [← Ny119.out] at ho; have n0_ := Aside0.mk (Kd.P_over' (by (with_reducible repeat (first | apply Kd.P_alloc | apply Kd.P_drewN | apply Kd.P_drew)); exact HO_7.out) (Kd.R_typed (by (with_reducible repeat (first | apply Kd.R_alloc | apply Kd.R_drewN | apply Kd.R_drew)); exact HO_13.out)) (by decide) hg); have n1_ := Aside0.mk (blk_grown (g := gb113) (o := .cells #[.string ((rd_T47 l0 x56_2).f0), .int .i64 ((rd_T47 l0 x56_2).f1)] 47 (0, 0)) (by (with_reducible repeat (first | refine blk_drewN ?_ _ | refine blk_drew ?_ | refine blk_alloc ?_ _)); exact BK113.out) hg (Kd.R_away HO_13.out (fun _ hk => hk.2))); have n2_ := Aside0.mk (hb); have n3_ := Aside0.mk (ho); clear HO_7; clear BK113; clear HB; clear HO_13; have HO_7 := n0_; have BK113 := n1_; have HB := n2_; have HO121 := n3_; clear n0_ n1_ n2_ n3_; clear ho hb hg hat))
                          go_roundg k2
                          case measure => have := HK1.out; have := HK2.out; omega
                          case rel => exact ⟨(y119), (wrap64 (x56_2 + 1)), (by first | rfl | (simp; done) | (simp [*]; done)), H', ⟨by have := HK1.out; have := HK2.out; omega⟩, ⟨by (with_reducible repeat (first | apply Kd.P_alloc | apply Kd.P_drewN | apply Kd.P_drew)); exact HO_7.out⟩, ⟨by (with_reducible repeat (first | apply Kd.R_alloc | apply Kd.R_drewN | apply Kd.R_drew)); exact Kd.R_mono HO121.out (fun _ hk => trivial)⟩, ⟨by repeat (first | (with_reducible first | exact HB.out | apply below_alloc | apply pw_below_drewN | apply below_drew1 | refine below_set ?_ GE113.out) | exact HB.out)⟩⟩
                        · rw [if_neg c47] at H
                          exact absurd H (by simp)
                    · rw [if_neg c33] at H
                      exact absurd H (by simp)
                  · rw [if_neg c32] at H
                    exact absurd H (by simp)
                · rw [if_neg c31] at H
                  exact absurd H (by simp)
              · rw [if_neg c30] at H
                have c30b0 : decide (x56_2 < (l0.length : Int)) = false := decide_eq_false c30
                clear c30
                by_cases c53 : (x13_2.length : Int) > 64
                · rw [if_pos c53] at H
                  have c53b0 : decide (64 < (x13_2.length : Int)) = true := decide_eq_true c53
                  have c53b1 : decide (64 < x13_2.length) = true := decide_eq_true (by omega)
                  clear c53
                  simp only [Option.some.injEq, Prod.mk.injEq] at H
                  obtain ⟨rfl, rfl⟩ := H
                  obtain ⟨Ao54, co54, eo54⟩ := Kd.R_slice HO_13.out
                  subst eo54
                  go_wp2
                  go_ret2
                  exact ⟨_, by first | rfl | (simp [errW_none, errW_some] <;> rfl) | (simp [*, errW_none, errW_some] <;> rfl), by first | exact Kd.R_nil _ _ _ _ _ | exact Kd.N_nil _ _ _ _ _ | exact Kd.V_nil _ _ _ _ _ | exact Kd.Q_nil _ _ _ _ _ | exact Kd.S_nil _ _ _ _ _, by repeat (first | (with_reducible first | exact HB.out | apply below_alloc | apply pw_below_drewN | apply below_drew1) | exact HB.out)⟩
                · rw [if_neg c53] at H
                  have c53b0 : decide (64 < (x13_2.length : Int)) = false := decide_eq_false c53
                  have c53b1 : decide (64 < x13_2.length) = false := decide_eq_false (by omega)
                  clear c53
                  simp only [Option.some.injEq, Prod.mk.injEq] at H
                  obtain ⟨rfl, rfl⟩ := H
                  obtain ⟨Ao55, co55, eo55⟩ := Kd.R_slice HO_13.out
                  subst eo55
                  go_wp2
                  go_ret2
                  exact ⟨_, by first | rfl | (simp [errW_none, errW_some] <;> rfl) | (simp [*, errW_none, errW_some] <;> rfl), by (with_reducible repeat (first | apply Kd.R_alloc | apply Kd.R_drewN | apply Kd.R_drew)); exact HO_13.out, by repeat (first | (with_reducible first | exact HB.out | apply below_alloc | apply pw_below_drewN | apply below_drew1) | exact HB.out)⟩
  · rw [if_neg c4] at H
    have c4b0 : (t101 == 0) = false := beq_eq_false_iff_ne.mpr c4
    have c4b1 : (t101 != 0) = true := bne_iff_ne.mpr c4
    simp only [Option.some.injEq, Prod.mk.injEq] at H
    obtain ⟨rfl, rfl⟩ := H
    go_enter Try.func14, Try.ntmps14
    go_wp2_with (first | ((with_reducible refine gate_callee (f := 20) rfl ?_); refine goesL_ (some 19) rfl rfl Try.func20 (by kernel_rfl) rfl #[.slice A0 l0.length c0] rfl (by (try simp only [List.map_toArray, List.map_cons, List.map_nil]); first | done | rfl | (simp only [List.length_drop, List.length_take]; rfl)) ?_; (with_reducible refine (term_Check.calls k _ _ l0 t101 _ ?side1 ?side2 A3.out).mono ?_); (case side1 => repeat (first | exact HR0.out | (with_reducible refine Kd.C_alloc ?_ _) | (with_reducible refine Kd.C_drewN ?_ _) | (with_reducible refine Kd.C_drew ?_))); (case side2 => exact HC0.out); rintro e w56 ⟨rfl, hb⟩; refine ⟨_, rfl, ?_⟩; have n0_ := Aside0.mk (below_step (by repeat (first | (with_reducible first | exact HB.out | apply below_alloc | apply pw_below_drewN | apply below_drew1) | exact HB.out)) hb); clear HB; have HB := n0_; clear n0_; (try clear hb); (try clear hb2); (try clear hk); (try clear hi)))
    go_ret2
    exact ⟨_, by first | rfl | (simp [errW_none, errW_some] <;> rfl) | (simp [*, errW_none, errW_some] <;> rfl), by first | exact Kd.R_nil _ _ _ _ _ | exact Kd.N_nil _ _ _ _ _ | exact Kd.V_nil _ _ _ _ _ | exact Kd.Q_nil _ _ _ _ _ | exact Kd.S_nil _ _ _ _ _, by repeat (first | (with_reducible first | exact HB.out | apply below_alloc | apply pw_below_drewN | apply below_drew1) | exact HB.out)⟩

end Go.Proofs.Ytlfhonekcmlomaa.P
