/- RuleOwn: the law answers true at every input that the given row speaks of. Conditions: those of the given row, none besides. (Part 3 of 5; written by programs of this session, which drive the kit's print, and by hand.) -/
import Derived.Test.YtpnamhplhdaphaaDoorZRuleOwn0
import Derived.Test.YtpnamhplhdaphaaDoorZRuleOwn1
set_option maxHeartbeats 8000000
set_option maxRecDepth 100000
set_option linter.unusedVariables false
set_option linter.unusedSimpArgs false
-- ==== PF38
namespace Go.Proofs.YtpnamhplhdaphaaDoor.P
open Go.RowKit Go.Proofs.YtpnamhplhdaphaaDoorW.PrintWords Go.Proofs.YtpnamhplhdaphaaDoorW.PrintLast Go.Proofs.YtpnamhplhdaphaaDoorW.PrintMore
attribute [local go_sem] max2_int min2_int max_two min_two max_three min_three max_four min_four

def aumbryref05_Var.f (k : Nat) (l0 : List (S33)) : Option (Bool) := if (l0.length : Int) = 1 then (if 0 < (l0.length : Int) then ((aumbryref03_Kind.f k ((rd_T33 l0 0).f0)).bind fun t102 => (some (t102 == 2))) else (none)) else (some false)
theorem aumbryref05_Var.mono : ∀ a0 k, LeO (aumbryref05_Var.f k a0) (aumbryref05_Var.f (k + 1) a0) := by
 intro a0 k
 unfold aumbryref05_Var.f
 repeat' first
  | (with_reducible exact aumbryref03_Kind.mono _ _)
  | (with_reducible exact LeO.refl _)
  | (with_reducible exact LeO.none _)
  | (with_reducible refine LeO.ite ?_ ?_)
  | (with_reducible refine LeO.bind ?_ (fun _ => ?_))
theorem aumbryref05_Var.calls (k : Nat) (A0 : Option Addr) (c0 : Nat) (l0 : List (S33)) (r : Bool) (w : World) (hr0 : Kd.C k33 w A0 l0.length l0) (hc0 : l0.length ≤ c0) (h : aumbryref05_Var.f k l0 = some r) :
 Calls Tryd.prog 38 #[.slice A0 l0.length c0] w fun e w' => e = .returned (.bool r) ∧ Drawn0 w w' := by
 have HR0 := zM hr0
 have HC0 := zM hc0
 clear hr0 hc0
 have H : (if (l0.length : Int) = 1 then (if 0 < (l0.length : Int) then ((aumbryref03_Kind.f k ((rd_T33 l0 0).f0)).bind fun t102 => (some (t102 == 2))) else (none)) else (some false)) = some r := h
 clear h
 by_cases c2 : (l0.length : Int) = 1
 ·
  rw [if_pos c2] at H
  have c2b0 : ((l0.length : Int) == 1) = true := zG c2
  have c2b1 : ((l0.length : Int) != 1) = false := zH c2
  clear c2
  by_cases c3 : 0 < (l0.length : Int)
  ·
   rw [if_pos c3] at H
   have c3b0 : decide (0 < (l0.length : Int)) = true := zQ c3
   have c3b1 : decide (0 < l0.length) = true := zQ (by omega)
   clear c3
   replace H := zB H
   obtain ⟨t102, A40, H⟩ := H
   try dsimp only at H
   have A4 := zM A40
   clear A40
   obtain rfl := zS H
   have p101 : 0 ≤ (0 : Int) := (by omega)
   have q101 : 0 < (l0.length : Int) := zT zv
   obtain ⟨ad101, e101, hx101_0, hx101_1⟩ := at_T33 HR0.out 0 p101 q101
   cases e101
   have qi101 : (0 < l0.length) = True := eq_true (by omega)
   (try rw [show ((0 : Int)).toNat = 0 from rfl] at hx101_0)
   (try rw [show 0 * 2 = 0 from rfl] at hx101_0)
   (try rw [Addr.add_zero'] at hx101_0)
   (try rw [show ((0 : Int)).toNat = 0 from rfl] at hx101_1)
   (try rw [show 0 * 2 = 0 from rfl] at hx101_1)
   (try rw [Addr.add_zero'] at hx101_1)
   replace p101 := eq_true p101
   replace q101 := eq_true q101
   go_enter Tryd.func38, Tryd.ntmps38
   go_wp2_with (first | (go_at_call 61; (with_reducible refine (aumbryref03_Kind.calls k ((rd_T33 l0 0).f0) t102 _ A4.out).mono ?_); rintro e w' ⟨rfl, ⟨nd, rfl⟩⟩))
   go_ret
   exact ⟨zy, zd⟩
  ·
   rw [if_neg c3] at H
   exact absurd H (by simp)
 ·
  rw [if_neg c2] at H
  have c2b0 : ((l0.length : Int) == 1) = false := zE c2
  have c2b1 : ((l0.length : Int) != 1) = true := zF c2
  obtain rfl := zS H
  go_enter Tryd.func38, Tryd.ntmps38
  go_wp2
  go_ret
  exact ⟨zy, zd⟩


-- ==== PF13

mutual
def aumbryref06_Check.j0 : Nat → Bool → Int → List (S33) → List (S33) → Option (Int)
 | 0, _, _, _, _ => none
 | k + 1, x15, x102000, x102001, x102002 => if x15 = true then (some 1) else ((aumbryref04_Check.f k x102001).bind fun t102 => (if t102 = 0 then ((aumbryref04_Check.f k x102002).bind fun t103 => (if t103 = 0 then (if (x102001.length : Int) > 8 then (aumbryref06_Check.j1 k true x102000 x102001 x102002) else (aumbryref06_Check.j1 k (decide ((x102002.length : Int) > 8)) x102000 x102001 x102002)) else (some t103))) else (some t102)))
def aumbryref06_Check.j1 : Nat → Bool → Int → List (S33) → List (S33) → Option (Int)
 | 0, _, _, _, _ => none
 | k + 1, x37, x102000, x102001, x102002 => if x37 = true then (some 6) else ((aumbryref05_Var.f k x102001).bind fun t104 => (if t104 = true then (some 20) else ((aumbryref04_Vars.f k x102001).bind fun t105 => ((aumbryref04_Vars.f k x102002).bind fun t108 => (aumbryref06_Check.l0 k t105 t108 (t108.length : Int) 0)))))
def aumbryref06_Check.l0 : Nat → List ByteArray → List ByteArray → Int → Int → Option (Int)
 | 0, _, _, _, _ => none
 | k + 1, x5, x6, x48, x49 => if x49 < x48 then (if 0 ≤ x49 then (if x49 < (x6.length : Int) then ((aumbryref03_Has.f k x5 (rdOf ByteArray.empty x6 x49)).bind fun t112 => (if t112 = true then (aumbryref06_Check.l0 k x5 x6 x48 (wrap64 (x49 + 1))) else (some 7))) else (none)) else (none)) else (some 0)
end
def aumbryref06_Check.f (k : Nat) (a0_0 : Int) (l0_1 : List (S33)) (l0_2 : List (S33)) : Option (Int) := if a0_0 < 0 then (aumbryref06_Check.j0 k true a0_0 l0_1 l0_2) else (aumbryref06_Check.j0 k (decide (a0_0 > 65535)) a0_0 l0_1 l0_2)
theorem aumbryref06_Check.mono_l : ∀ k, (∀ y0 y1 y2 y3, LeO (aumbryref06_Check.j0 k y0 y1 y2 y3) (aumbryref06_Check.j0 (k + 1) y0 y1 y2 y3)) ∧ (∀ y0 y1 y2 y3, LeO (aumbryref06_Check.j1 k y0 y1 y2 y3) (aumbryref06_Check.j1 (k + 1) y0 y1 y2 y3)) ∧ (∀ y0 y1 y2 y3, LeO (aumbryref06_Check.l0 k y0 y1 y2 y3) (aumbryref06_Check.l0 (k + 1) y0 y1 y2 y3))
 | 0 => ⟨fun _ _ _ _ r h => by simp [aumbryref06_Check.j0] at h, fun _ _ _ _ r h => by simp [aumbryref06_Check.j1] at h, fun _ _ _ _ r h => by simp [aumbryref06_Check.l0] at h⟩
 | k + 1 => by
  obtain ⟨ih0, ih1, ih2⟩ := aumbryref06_Check.mono_l k
  refine ⟨?_, ?_, ?_⟩
  ·
   intro y0 y1 y2 y3
   unfold aumbryref06_Check.j0
   repeat' first
   | (with_reducible exact ih0 _ _ _ _)
   | (with_reducible exact ih1 _ _ _ _)
   | (with_reducible exact ih2 _ _ _ _)
   | (with_reducible exact aumbryref03_Has.mono _ _ _)
   | (with_reducible exact aumbryref04_Check.mono _ _)
   | (with_reducible exact aumbryref04_Vars.mono _ _)
   | (with_reducible exact aumbryref05_Var.mono _ _)
   | (with_reducible exact LeO.refl _)
   | (with_reducible exact LeO.none _)
   | (with_reducible refine LeO.ite ?_ ?_)
   | (with_reducible refine LeO.bind ?_ (fun _ => ?_))
  ·
   intro y0 y1 y2 y3
   unfold aumbryref06_Check.j1
   repeat' first
   | (with_reducible exact ih0 _ _ _ _)
   | (with_reducible exact ih1 _ _ _ _)
   | (with_reducible exact ih2 _ _ _ _)
   | (with_reducible exact aumbryref03_Has.mono _ _ _)
   | (with_reducible exact aumbryref04_Check.mono _ _)
   | (with_reducible exact aumbryref04_Vars.mono _ _)
   | (with_reducible exact aumbryref05_Var.mono _ _)
   | (with_reducible exact LeO.refl _)
   | (with_reducible exact LeO.none _)
   | (with_reducible refine LeO.ite ?_ ?_)
   | (with_reducible refine LeO.bind ?_ (fun _ => ?_))
  ·
   intro y0 y1 y2 y3
   unfold aumbryref06_Check.l0
   repeat' first
   | (with_reducible exact ih0 _ _ _ _)
   | (with_reducible exact ih1 _ _ _ _)
   | (with_reducible exact ih2 _ _ _ _)
   | (with_reducible exact aumbryref03_Has.mono _ _ _)
   | (with_reducible exact aumbryref04_Check.mono _ _)
   | (with_reducible exact aumbryref04_Vars.mono _ _)
   | (with_reducible exact aumbryref05_Var.mono _ _)
   | (with_reducible exact LeO.refl _)
   | (with_reducible exact LeO.none _)
   | (with_reducible refine LeO.ite ?_ ?_)
   | (with_reducible refine LeO.bind ?_ (fun _ => ?_))
theorem aumbryref06_Check.mono : ∀ a0 a1 a2 k, LeO (aumbryref06_Check.f k a0 a1 a2) (aumbryref06_Check.f (k + 1) a0 a1 a2) := by
 intro a0 a1 a2 k
 obtain ⟨ih0, ih1, ih2⟩ := aumbryref06_Check.mono_l k
 unfold aumbryref06_Check.f
 repeat' first
  | (with_reducible exact ih0 _ _ _ _)
  | (with_reducible exact ih1 _ _ _ _)
  | (with_reducible exact ih2 _ _ _ _)
  | (with_reducible exact aumbryref03_Has.mono _ _ _)
  | (with_reducible exact aumbryref04_Check.mono _ _)
  | (with_reducible exact aumbryref04_Vars.mono _ _)
  | (with_reducible exact aumbryref05_Var.mono _ _)
  | (with_reducible exact LeO.refl _)
  | (with_reducible exact LeO.none _)
  | (with_reducible refine LeO.ite ?_ ?_)
  | (with_reducible refine LeO.bind ?_ (fun _ => ?_))
def aumbryref06_Check.T13 : Bool × List (List Nat × List Nat) := (true, [([], []), ([0], [0]), ([1], [1]), ([], []), ([3], [3]), ([4, 2], [4]), ([2, 5, 0, 1, 2], [2]), ([5, 6, 0, 1, 2, 3, 4, 5, 6], [5])])
def aumbryref06_Check.B13 : List Nat := [0, 1, 3, 0, 8, 31, 63, 127]
theorem aumbryref06_Check.tab13 : rtab .any (opsOf Tryd.f13 13) = aumbryref06_Check.T13 := by kernel_rfl
theorem aumbryref06_Check.bits13 : waitsOk aumbryref06_Check.T13.2 aumbryref06_Check.B13 = true := by kernel_rfl
theorem aumbryref06_Check.calls (k : Nat) (a0_0 : Int) (A0_1 : Option Addr) (c0_1 : Nat) (l0_1 : List (S33)) (A0_2 : Option Addr) (c0_2 : Nat) (l0_2 : List (S33)) (r : Int) (w : World) (hr0_1 : Kd.C k33 w A0_1 l0_1.length l0_1) (hc0_1 : l0_1.length ≤ c0_1) (hr0_2 : Kd.C k33 w A0_2 l0_2.length l0_2) (hc0_2 : l0_2.length ≤ c0_2) (h : aumbryref06_Check.f k a0_0 l0_1 l0_2 = some r) :
 Calls Tryd.prog 13 #[.agg #[.int .i64 a0_0, .slice A0_1 l0_1.length c0_1, .slice A0_2 l0_2.length c0_2]] w fun e w' => e = .returned (.int .i64 r) ∧ Below w.heap.size w w' := by
 have hu25 := Tryd.underlying25
 have HR0_1 := zM hr0_1
 have HC0_1 := zM hc0_1
 clear hr0_1 hc0_1
 have HR0_2 := zM hr0_2
 have HC0_2 := zM hc0_2
 clear hr0_2 hc0_2
 have HB := zM (Below.refl w.heap.size w)
 have H : (if a0_0 < 0 then (aumbryref06_Check.j0 k true a0_0 l0_1 l0_2) else (aumbryref06_Check.j0 k (decide (a0_0 > 65535)) a0_0 l0_1 l0_2)) = some r := h
 clear h
 have HC2 := zM H
 clear H
 go_enter Tryd.func13, Tryd.ntmps13
 go_upto_region 1 with (first | ((with_reducible refine gate_dst (N := 1) rfl ?_); (try (refine gate_guard (by rfl) ?_; dsimp only)); refine box_event ?hg (N := 1) ?hd (cs := #[.int .i64 a0_0, .slice A0_1 l0_1.length c0_1, .slice A0_2 l0_2.length c0_2]) (t := 25) ?hr ?_; (case hd => rfl); (case hg => rfl); (case hr => first | (go_simp; done) | (go_simp; rfl)); intro gb101 hg w3 hbox hb; have BK101 := zM (hbox); have GW101 := zM (zh hg : w.heap.size ≤ gb101); have GE101 := zM (zh hg : w.heap.size ≤ gb101); replace HB := zM (below_step zb hb); clear hb hbox hg))
 (try simp only [Act.put, List.setIfInBounds_toArray, List.set_cons_zero, List.set_cons_succ])
 go_cut [15] (fun v15 wc => ∃ (kq : Nat) (x15_1 : Bool), v15 = .bool x15_1 ∧ Aside0 (aumbryref06_Check.j0 kq x15_1 a0_0 l0_1 l0_2 = some r) ∧ Aside0 (kq ≤ k) ∧ Aside0 (wc.heap[gb101]? = some (.cells #[.int .i64 a0_0, (.slice A0_1 l0_1.length c0_1), (.slice A0_2 l0_2.length c0_2)] 25 (0, 0))) ∧ Aside0 (Below w.heap.size w wc))
 case first =>
  have H := HC2.out
  clear HC2
  by_cases c4 : a0_0 < 0
  ·
   rw [if_pos c4] at H
   have c4b0 : decide (a0_0 < 0) = true := zQ c4
   clear c4
   (first | rw [c4b0] | (simp only [i64_w, i32_w]; rw [c4b0]) | skip)
   have H' := zM H
   clear H
   have hcz5_0 : w3.cell? ⟨gb101, 0, none⟩ = some (.int .i64 a0_0) := (zX BK101.out 0).trans rfl
   have hcz5_1 : w3.cell? ⟨gb101, 1, none⟩ = some (.slice A0_1 l0_1.length c0_1) := (zX BK101.out 1).trans rfl
   have hcz5_2 : w3.cell? ⟨gb101, 2, none⟩ = some (.slice A0_2 l0_2.length c0_2) := (zX BK101.out 2).trans rfl
   have hfz5_0 := zY BK101.out 0
   have hfz5_1 := zY BK101.out 1
   have hfz5_2 := zY BK101.out 2
   go_wp2
   go_meet
   case rel => exact ⟨_, (true), zy, H', ⟨by first | omega | exact Nat.le_refl _⟩, ⟨by refine zk ?_; exact BK101.out⟩, ⟨zb⟩⟩
  ·
   rw [if_neg c4] at H
   have c4b0 : decide (a0_0 < 0) = false := zR c4
   clear c4
   (first | rw [c4b0] | (simp only [i64_w, i32_w]; rw [c4b0]) | skip)
   have H' := zM H
   clear H
   have hcz6_0 : w3.cell? ⟨gb101, 0, none⟩ = some (.int .i64 a0_0) := (zX BK101.out 0).trans rfl
   have hcz6_1 : w3.cell? ⟨gb101, 1, none⟩ = some (.slice A0_1 l0_1.length c0_1) := (zX BK101.out 1).trans rfl
   have hcz6_2 : w3.cell? ⟨gb101, 2, none⟩ = some (.slice A0_2 l0_2.length c0_2) := (zX BK101.out 2).trans rfl
   have hfz6_0 := zY BK101.out 0
   have hfz6_1 := zY BK101.out 1
   have hfz6_2 := zY BK101.out 2
   go_wp2
   go_meet
   case rel => exact ⟨_, (decide (a0_0 > 65535)), zy, H', ⟨by first | omega | exact Nat.le_refl _⟩, ⟨by refine zk ?_; exact BK101.out⟩, ⟨zb⟩⟩
 case rest =>
  clear HC2
  try clear c1
  try clear p2
  try clear c4
  try clear c4b0
  try clear hcz5_0
  try clear hcz5_1
  try clear hcz5_2
  try clear hcz6_0
  try clear hcz6_1
  try clear hcz6_2
  try clear hfz5_0
  try clear hfz5_1
  try clear hfz5_2
  try clear hfz6_0
  try clear hfz6_1
  try clear hfz6_2
  obtain ⟨kq, x15_1, rfl, HA, HJ1, BK101, HB⟩ := hcut
  cases kq with
  | zero => exact absurd HA.out (by simp [aumbryref06_Check.j0])
  | succ kj1 =>
   have H := HA.out
   clear HA
   simp only [aumbryref06_Check.j0] at H
   by_cases c7 : x15_1 = true
   ·
    subst c7
    rw [if_pos rfl] at H
    obtain rfl := zS H
    go_wp2
    go_ret
    exact ⟨zw, zb⟩
   ·
    replace c7 := zI c7
    subst c7
    rw [if_neg (show ¬ (false = true) by decide)] at H
    replace H := zB H
    obtain ⟨t102, A80, H⟩ := H
    try dsimp only at H
    have A8 := zM A80
    clear A80
    by_cases c9 : t102 = 0
    ·
     rw [if_pos c9] at H
     have c9b0 : (t102 == 0) = true := zG c9
     have c9b1 : (t102 != 0) = false := zH c9
     clear c9
     replace H := zB H
     obtain ⟨t103, A100, H⟩ := H
     try dsimp only at H
     have A10 := zM A100
     clear A100
     by_cases c11 : t103 = 0
     ·
      rw [if_pos c11] at H
      have c11b0 : (t103 == 0) = true := zG c11
      have c11b1 : (t103 != 0) = false := zH c11
      clear c11
      have HC12 := zM H
      clear H
      have hcz13_0 : wc.cell? ⟨gb101, 0, none⟩ = some (.int .i64 a0_0) := (zX BK101.out 0).trans rfl
      have hcz13_1 : wc.cell? ⟨gb101, 1, none⟩ = some (.slice A0_1 l0_1.length c0_1) := (zX BK101.out 1).trans rfl
      have hcz13_2 : wc.cell? ⟨gb101, 2, none⟩ = some (.slice A0_2 l0_2.length c0_2) := (zX BK101.out 2).trans rfl
      have hfz13_0 := zY BK101.out 0
      have hfz13_1 := zY BK101.out 1
      have hfz13_2 := zY BK101.out 2
      go_upto_region 9 with (first | ((with_reducible refine gate_callee (f := 37) rfl ?_); refine goesL_ (some 18) rfl rfl Tryd.func37 (by kernel_rfl) rfl #[.slice A0_1 l0_1.length c0_1] rfl zl ?_; (with_reducible refine (aumbryref04_Check.calls kj1 _ _ l0_1 t102 _ ?side1 ?side2 A8.out).mono ?_); (case side1 => exact Kd.C_below HR0_1.out zb); (case side2 => exact HC0_1.out); rintro e w' ⟨rfl, ⟨nd, rfl⟩⟩; refine ⟨_, rfl, ?_⟩) | ((with_reducible refine gate_callee (f := 37) rfl ?_); refine goesL_ (some 24) rfl rfl Tryd.func37 (by kernel_rfl) rfl #[.slice A0_2 l0_2.length c0_2] rfl zl ?_; (with_reducible refine (aumbryref04_Check.calls kj1 _ _ l0_2 t103 _ ?side1 ?side2 A10.out).mono ?_); (case side1 => exact Kd.C_below (Kd.C_below HR0_2.out zb) zg); (case side2 => exact HC0_2.out); rintro e w' ⟨rfl, ⟨nd, rfl⟩⟩; refine ⟨_, rfl, ?_⟩))
      (try simp only [Act.put, List.setIfInBounds_toArray, List.set_cons_zero, List.set_cons_succ])
      go_cut [37] (fun v37 wc => ∃ (kq : Nat) (x37_11 : Bool), v37 = .bool x37_11 ∧ Aside0 (aumbryref06_Check.j1 kq x37_11 a0_0 l0_1 l0_2 = some r) ∧ Aside0 (kq ≤ kj1) ∧ Aside0 (wc.heap[gb101]? = some (.cells #[.int .i64 a0_0, (.slice A0_1 l0_1.length c0_1), (.slice A0_2 l0_2.length c0_2)] 25 (0, 0))) ∧ Aside0 (Below w.heap.size w wc))
      case first =>
       have H := HC12.out
       clear HC12
       by_cases c14 : (l0_1.length : Int) > 8
       ·
        rw [if_pos c14] at H
        have c14b0 : decide (8 < (l0_1.length : Int)) = true := zQ c14
        have c14b1 : decide (8 < l0_1.length) = true := zQ (by omega)
        clear c14
        (first | rw [c14b0] | (simp only [i64_w, i32_w]; rw [c14b0]) | skip)
        have H' := zM H
        clear H
        have hcz15_0 : wc.cell? ⟨gb101, 0, none⟩ = some (.int .i64 a0_0) := (zX BK101.out 0).trans rfl
        have hcz15_1 : wc.cell? ⟨gb101, 1, none⟩ = some (.slice A0_1 l0_1.length c0_1) := (zX BK101.out 1).trans rfl
        have hcz15_2 : wc.cell? ⟨gb101, 2, none⟩ = some (.slice A0_2 l0_2.length c0_2) := (zX BK101.out 2).trans rfl
        have hfz15_0 := zY BK101.out 0
        have hfz15_1 := zY BK101.out 1
        have hfz15_2 := zY BK101.out 2
        go_wp2
        go_meet
        case rel => exact ⟨_, (true), zy, H', ⟨by have := HJ1.out; first | omega | exact Nat.le_refl _⟩, ⟨by refine zk ?_; exact BK101.out⟩, ⟨zb⟩⟩
       ·
        rw [if_neg c14] at H
        have c14b0 : decide (8 < (l0_1.length : Int)) = false := zR c14
        have c14b1 : decide (8 < l0_1.length) = false := zR (by omega)
        clear c14
        (first | rw [c14b0] | (simp only [i64_w, i32_w]; rw [c14b0]) | skip)
        have H' := zM H
        clear H
        have hcz16_0 : wc.cell? ⟨gb101, 0, none⟩ = some (.int .i64 a0_0) := (zX BK101.out 0).trans rfl
        have hcz16_1 : wc.cell? ⟨gb101, 1, none⟩ = some (.slice A0_1 l0_1.length c0_1) := (zX BK101.out 1).trans rfl
        have hcz16_2 : wc.cell? ⟨gb101, 2, none⟩ = some (.slice A0_2 l0_2.length c0_2) := (zX BK101.out 2).trans rfl
        have hfz16_0 := zY BK101.out 0
        have hfz16_1 := zY BK101.out 1
        have hfz16_2 := zY BK101.out 2
        go_wp2
        go_meet
        case rel => exact ⟨_, (decide ((l0_2.length : Int) > 8)), zy, H', ⟨by have := HJ1.out; first | omega | exact Nat.le_refl _⟩, ⟨by refine zk ?_; exact BK101.out⟩, ⟨zb⟩⟩
      case rest =>
       clear HC12
       try clear c1
       try clear p2
       try clear c3
       try clear c4
       try clear c4b0
       try clear c7
       try clear c9
       try clear c9b0
       try clear c9b1
       try clear c11
       try clear c11b0
       try clear c11b1
       try clear c13
       try clear c14
       try clear c14b0
       try clear c14b1
       try clear hcz13_0
       try clear hcz13_1
       try clear hcz13_2
       try clear hcz15_0
       try clear hcz15_1
       try clear hcz15_2
       try clear hcz16_0
       try clear hcz16_1
       try clear hcz16_2
       try clear hcz5_0
       try clear hcz5_1
       try clear hcz5_2
       try clear hcz6_0
       try clear hcz6_1
       try clear hcz6_2
       try clear hfz13_0
       try clear hfz13_1
       try clear hfz13_2
       try clear hfz15_0
       try clear hfz15_1
       try clear hfz15_2
       try clear hfz16_0
       try clear hfz16_1
       try clear hfz16_2
       try clear hfz5_0
       try clear hfz5_1
       try clear hfz5_2
       try clear hfz6_0
       try clear hfz6_1
       try clear hfz6_2
       try clear p2
       obtain ⟨kq, x37_11, rfl, HA, HJ11, BK101, HB⟩ := hcut
       cases kq with
       | zero => exact absurd HA.out (by simp [aumbryref06_Check.j1])
       | succ kj11 =>
        have H := HA.out
        clear HA
        simp only [aumbryref06_Check.j1] at H
        by_cases c17 : x37_11 = true
        ·
         subst c17
         rw [if_pos rfl] at H
         obtain rfl := zS H
         go_wp2
         go_ret
         exact ⟨zw, zb⟩
        ·
         replace c17 := zI c17
         subst c17
         rw [if_neg (show ¬ (false = true) by decide)] at H
         replace H := zB H
         obtain ⟨t104, A180, H⟩ := H
         try dsimp only at H
         have A18 := zM A180
         clear A180
         by_cases c19 : t104 = true
         ·
          subst c19
          rw [if_pos rfl] at H
          obtain rfl := zS H
          have hcz20_0 : wc.cell? ⟨gb101, 0, none⟩ = some (.int .i64 a0_0) := (zX BK101.out 0).trans rfl
          have hcz20_1 : wc.cell? ⟨gb101, 1, none⟩ = some (.slice A0_1 l0_1.length c0_1) := (zX BK101.out 1).trans rfl
          have hcz20_2 : wc.cell? ⟨gb101, 2, none⟩ = some (.slice A0_2 l0_2.length c0_2) := (zX BK101.out 2).trans rfl
          have hfz20_0 := zY BK101.out 0
          have hfz20_1 := zY BK101.out 1
          have hfz20_2 := zY BK101.out 2
          go_wp2_with (first | ((with_reducible refine gate_callee (f := 38) rfl ?_); refine goesL_ (some 40) rfl rfl Tryd.func38 (by kernel_rfl) rfl #[.slice A0_1 l0_1.length c0_1] rfl zl ?_; (with_reducible refine (aumbryref05_Var.calls kj11 _ _ l0_1 true _ ?side1 ?side2 A18.out).mono ?_); (case side1 => exact Kd.C_below HR0_1.out zb); (case side2 => exact HC0_1.out); rintro e w' ⟨rfl, ⟨nd, rfl⟩⟩; refine ⟨_, rfl, ?_⟩))
          go_ret
          exact ⟨zw, zb⟩
         ·
          replace c19 := zI c19
          subst c19
          rw [if_neg (show ¬ (false = true) by decide)] at H
          replace H := zB H
          obtain ⟨t105, A210, H⟩ := H
          try dsimp only at H
          have A21 := zM A210
          clear A210
          replace H := zB H
          obtain ⟨t108, A220, H⟩ := H
          try dsimp only at H
          have A22 := zM A220
          clear A220
          have H' := zM H
          clear H
          have hcz23_0 : wc.cell? ⟨gb101, 0, none⟩ = some (.int .i64 a0_0) := (zX BK101.out 0).trans rfl
          have hcz23_1 : wc.cell? ⟨gb101, 1, none⟩ = some (.slice A0_1 l0_1.length c0_1) := (zX BK101.out 1).trans rfl
          have hcz23_2 : wc.cell? ⟨gb101, 2, none⟩ = some (.slice A0_2 l0_2.length c0_2) := (zX BK101.out 2).trans rfl
          have hfz23_0 := zY BK101.out 0
          have hfz23_1 := zY BK101.out 1
          have hfz23_2 := zY BK101.out 2
          try go_wp2_with (first | ((with_reducible refine gate_callee (f := 38) rfl ?_); refine goesL_ (some 40) rfl rfl Tryd.func38 (by kernel_rfl) rfl #[.slice A0_1 l0_1.length c0_1] rfl zl ?_; (with_reducible refine (aumbryref05_Var.calls kj11 _ _ l0_1 false _ ?side1 ?side2 A18.out).mono ?_); (case side1 => exact Kd.C_below HR0_1.out zb); (case side2 => exact HC0_1.out); rintro e w' ⟨rfl, ⟨nd, rfl⟩⟩; refine ⟨_, rfl, ?_⟩))
          (try (rw [drewN_self wc]; generalize hq_ : World.drewN wc _ = wc; have n0_ : Aside0 (wc.heap[gb101]? = some (.cells #[.int .i64 a0_0, .slice A0_1 l0_1.length c0_1, .slice A0_2 l0_2.length c0_2] 25 (0, 0))) := ⟨by rw [← hq_]; exact (zk BK101.out)⟩; have n1_ : Aside0 (Below w.heap.size w wc) := ⟨by rw [← hq_]; exact zb⟩; clear BK101 HB hq_; have BK101 := n0_; have HB := n1_; clear n0_ n1_))
          have n0_ := zM (blk_drew BK101.out)
          have n1_ := zM (zD HB.out)
          clear BK101
          clear HB
          have BK101 := n0_
          have HB := n1_
          clear n0_ n1_
          refine start_ (n := 8) (S := fun w' => w'.cell? ⟨gb101, 0, none⟩ = some (.int .i64 a0_0) ∧ w'.cell? ⟨gb101, 1, none⟩ = some (.slice A0_1 l0_1.length c0_1) ∧ w'.cell? ⟨gb101, 2, none⟩ = some (.slice A0_2 l0_2.length c0_2)) (ds := []) #[false, false, false, false, false, false, false, false] (by kernel_rfl) rfl rfl ⟨(zX BK101.out 0).trans rfl, (zX BK101.out 1).trans rfl, (zX BK101.out 2).trans rfl⟩ (fun hHeld => ?_); refine with_tabW aumbryref06_Check.tab13 aumbryref06_Check.bits13 (fun HT_ HW_ => ?_)
          generalize wc.drew = w24 at BK101 HB hHeld ⊢
          refine pure_ (i := 0) (N := some 41) (v := ?_) (a' := ?_) #[true, false, false, false, false, false, false, false] rfl rfl (any_of HT_.out (by kernel_rfl)) (fun _ _ _ h => h) (Or.inl ⟨by rfl, ?_⟩) ?_ ?_
          rotate_left
          ·
           intro w'
           go_simp
           with_reducible rfl
          rotate_left
          ·
           simp only [Act.put, zp1, zp2, zp3, i64_w, i32_w]
           rfl
          refine pure_ (i := 3) (N := some 44) (v := ?_) (a' := ?_) #[true, false, false, true, false, false, false, false] rfl rfl (any_of HT_.out (by kernel_rfl)) (fun _ _ _ h => h) (Or.inl ⟨by rfl, ?_⟩) ?_ ?_
          rotate_left
          ·
           intro w'
           go_simp
           with_reducible rfl
          rotate_left
          ·
           simp only [Act.put, zp1, zp2, zp3, i64_w, i32_w]
           rfl
          refine take_ (i := 1) (N := some 42) (v := ?_) (a' := ?_) #[true, true, false, true, false, false, false, false] rfl rfl (take_ofW HT_.out HW_.out (by kernel_rfl)) (fun _ _ _ h => h) (Or.inl ⟨by rfl, ?_⟩) hHeld ?_ ?_
          rotate_left
          ·
           rintro w' ⟨s0, s1, s2⟩
           go_simp
           with_reducible rfl
          rotate_left
          ·
           simp only [Act.put, zp1, zp2, zp3, i64_w, i32_w]
           rfl
          refine take_ (i := 4) (N := some 45) (v := ?_) (a' := ?_) #[true, true, false, true, true, false, false, false] rfl rfl (take_ofW HT_.out HW_.out (by kernel_rfl)) (fun _ _ _ h => h) (Or.inl ⟨by rfl, ?_⟩) hHeld ?_ ?_
          rotate_left
          ·
           rintro w' ⟨s0, s1, s2⟩
           go_simp
           with_reducible rfl
          rotate_left
          ·
           simp only [Act.put, zp1, zp2, zp3, i64_w, i32_w]
           rfl
          refine one_ (i := 2) (N := some 43) #[true, true, true, true, true, false, false, false] rfl rfl (one_of HT_.out (by kernel_rfl)) (by decide) (fun K hK => ?_)
          refine goes_ Tryd.func39 (by kernel_rfl) rfl #[.slice A0_1 l0_1.length c0_1] (by rfl) rfl rfl zl ?_
          with_reducible refine (aumbryref04_Vars.calls kj11 _ _ l0_1 t105 _ ?side1 ?side2 A21.out).mono ?_
          (case side1 => exact Kd.C_below HR0_1.out zb)
          (case side2 => exact HC0_1.out)
          rintro e w25 ⟨v106, rfl, ho0, hb⟩
          refine ⟨_, rfl, ?_⟩
          have n0_ := zM (Kd.R_lower ho0 (below_size zb))
          have n1_ := zM (blk_below (zk BK101.out) hb)
          have n2_ := zM (below_step zb hb)
          clear BK101
          clear HB
          have HO107 := n0_
          have BK101 := n1_
          have HB := n2_
          clear n0_ n1_ n2_
          (try clear hb)
          (try clear hb2)
          (try clear hk)
          (try clear hi)
          (try clear ho0)
          refine hK.out _ _ ⟨(zX BK101.out 0).trans rfl, (zX BK101.out 1).trans rfl, (zX BK101.out 2).trans rfl⟩ (fun hHeld => ?_)
          clear hK K
          refine norm_ (a' := ?_) ?_ ?_
          rotate_left
          ·
           show Act.put _ (some 43) _ = _
           simp only [Act.put, zp1, zp2, zp3, i64_w, i32_w]
           rfl
          refine one_ (i := 5) (N := some 46) #[true, true, true, true, true, true, false, false] rfl rfl (one_of HT_.out (by kernel_rfl)) (by decide) (fun K hK => ?_)
          refine goes_ Tryd.func39 (by kernel_rfl) rfl #[.slice A0_2 l0_2.length c0_2] (by rfl) rfl rfl zl ?_
          with_reducible refine (aumbryref04_Vars.calls kj11 _ _ l0_2 t108 _ ?side1 ?side2 A22.out).mono ?_
          (case side1 => exact Kd.C_below HR0_2.out zb)
          (case side2 => exact HC0_2.out)
          rintro e w26 ⟨v109, rfl, ho0, hb⟩
          refine ⟨_, rfl, ?_⟩
          have n0_ := zM (Kd.R_elder' (zr HO107.out) (Kd.R_base ho0) hb)
          have n1_ := zM (Kd.R_lower (Kd.R_new' ho0 (Kd.R_lt (zr HO107.out))) (below_size zb))
          have n2_ := zM (blk_below (zk BK101.out) hb)
          have n3_ := zM (below_step zb hb)
          clear HO107
          clear BK101
          clear HB
          have HO107 := n0_
          have HO110 := n1_
          have BK101 := n2_
          have HB := n3_
          clear n0_ n1_ n2_ n3_
          (try clear hb)
          (try clear hb2)
          (try clear hk)
          (try clear hi)
          (try clear ho0)
          refine hK.out _ _ ⟨(zX BK101.out 0).trans rfl, (zX BK101.out 1).trans rfl, (zX BK101.out 2).trans rfl⟩ (fun hHeld => ?_)
          clear hK K
          refine norm_ (a' := ?_) ?_ ?_
          rotate_left
          ·
           show Act.put _ (some 46) _ = _
           simp only [Act.put, zp1, zp2, zp3, i64_w, i32_w]
           rfl
          refine pure_ (i := 6) (N := some 5) (v := ?_) (a' := ?_) #[true, true, true, true, true, true, true, false] rfl rfl (any_of HT_.out (by kernel_rfl)) (fun _ _ _ h => h) (Or.inl ⟨by rfl, ?_⟩) ?_ ?_
          rotate_left
          ·
           intro w'
           go_simp
           with_reducible rfl
          rotate_left
          ·
           simp only [Act.put, zp1, zp2, zp3, i64_w, i32_w]
           rfl
          refine pure_ (i := 7) (N := some 6) (v := ?_) (a' := ?_) #[true, true, true, true, true, true, true, true] rfl rfl (any_of HT_.out (by kernel_rfl)) (fun _ _ _ h => h) (Or.inl ⟨by rfl, ?_⟩) ?_ ?_
          rotate_left
          ·
           intro w'
           go_simp
           with_reducible rfl
          rotate_left
          ·
           simp only [Act.put, zp1, zp2, zp3, i64_w, i32_w]
           rfl
          refine done_ (done_of HT_.out (by kernel_rfl)) ?_
          obtain ⟨Ao27, co27, eo27⟩ := Kd.R_slice HO110.out
          subst eo27
          try go_wp2
          go_loopg [49] kj11 (fun kq v49 w' => ∃ (x49_3 : Int), v49 = .int .i64 x49_3 ∧ Aside0 (aumbryref06_Check.l0 kq t105 t108 (t108.length : Int) x49_3 = some r) ∧ Aside0 (kq ≤ kj11) ∧ Aside0 (Kd.R Kd.string 9 w' w.heap.size (fun k_ => some k_ ≠ ((.slice Ao27 t108.length co27) : Value).ownBlock) v106 t105) ∧ Aside0 (Kd.R Kd.string 9 w' w.heap.size (fun k_ => some k_ ≠ (v106 : Value).ownBlock) (.slice Ao27 t108.length co27) t108) ∧ Aside0 (w'.heap[gb101]? = some (.cells #[.int .i64 a0_0, (.slice A0_1 l0_1.length c0_1), (.slice A0_2 l0_2.length c0_2)] 25 (0, 0))) ∧ Aside0 (Below w.heap.size w w'))
          case atStart => exact ⟨(0), zy, H', ⟨Nat.le_refl _⟩, ⟨by (with_reducible repeat (first | apply Kd.R_alloc | apply Kd.R_drewN | apply Kd.R_drew)); exact Kd.R_mono HO107.out (fun _ hk => hk.2)⟩, ⟨by (with_reducible repeat (first | apply Kd.R_alloc | apply Kd.R_drewN | apply Kd.R_drew)); exact Kd.R_mono HO110.out (fun _ hk => hk.2)⟩, ⟨by refine zk ?_; exact BK101.out⟩, ⟨zb⟩⟩
          case round =>
           clear H'
           try clear c1
           try clear p2
           try clear c3
           try clear c4
           try clear c4b0
           try clear c7
           try clear c9
           try clear c9b0
           try clear c9b1
           try clear c11
           try clear c11b0
           try clear c11b1
           try clear c13
           try clear c14
           try clear c14b0
           try clear c14b1
           try clear c17
           try clear c19
           try clear hcz13_0
           try clear hcz13_1
           try clear hcz13_2
           try clear hcz15_0
           try clear hcz15_1
           try clear hcz15_2
           try clear hcz16_0
           try clear hcz16_1
           try clear hcz16_2
           try clear hcz20_0
           try clear hcz20_1
           try clear hcz20_2
           try clear hcz23_0
           try clear hcz23_1
           try clear hcz23_2
           try clear hcz5_0
           try clear hcz5_1
           try clear hcz5_2
           try clear hcz6_0
           try clear hcz6_1
           try clear hcz6_2
           try clear hfz13_0
           try clear hfz13_1
           try clear hfz13_2
           try clear hfz15_0
           try clear hfz15_1
           try clear hfz15_2
           try clear hfz16_0
           try clear hfz16_1
           try clear hfz16_2
           try clear hfz20_0
           try clear hfz20_1
           try clear hfz20_2
           try clear hfz23_0
           try clear hfz23_1
           try clear hfz23_2
           try clear hfz5_0
           try clear hfz5_1
           try clear hfz5_2
           try clear hfz6_0
           try clear hfz6_1
           try clear hfz6_2
           try clear p2
           obtain ⟨x49_3, rfl, HA, HK3, HO_5, HO_6, BK101, HB⟩ := hrel
           cases gk with
           | zero => exact absurd HA.out (by simp [aumbryref06_Check.l0])
           | succ k3 =>
            have H := HA.out
            clear HA
            simp only [aumbryref06_Check.l0] at H
            by_cases c28 : x49_3 < (t108.length : Int)
            ·
             rw [if_pos c28] at H
             have c28b0 : decide (x49_3 < (t108.length : Int)) = true := zQ c28
             clear c28
             by_cases c29 : 0 ≤ x49_3
             ·
              rw [if_pos c29] at H
              have c29b0 : decide (0 ≤ x49_3) = true := zQ c29
              clear c29
              by_cases c30 : x49_3 < (t108.length : Int)
              ·
               rw [if_pos c30] at H
               have c30b0 : decide (x49_3 < (t108.length : Int)) = true := zQ c30
               clear c30
               replace H := zB H
               obtain ⟨t112, A310, H⟩ := H
               try dsimp only at H
               have A31 := zM A310
               clear A310
               by_cases c32 : t112 = true
               ·
                subst c32
                rw [if_pos rfl] at H
                have H' := zM H
                clear H
                have p111 : 0 ≤ (x49_3 : Int) := zT zv
                have q111 : x49_3 < (t108.length : Int) := zT zv
                obtain ⟨ad111, e111, hx111_0⟩ := Kd.at_string (Kd.R_reads' HO_6.out).2.2 x49_3 p111 q111
                cases e111
                replace p111 := eq_true p111
                replace q111 := eq_true q111
                obtain ⟨Ao33, co33, eo33⟩ := Kd.R_slice HO_5.out
                subst eo33
                go_wp2_with (first | ((with_reducible refine gate_callee (f := 40) rfl ?_); refine goesL_ (some 57) rfl rfl Tryd.func40 (by kernel_rfl) rfl #[.slice Ao33 t105.length co33, .string (rdOf ByteArray.empty t108 x49_3)] rfl zl ?_; (with_reducible refine (aumbryref03_Has.calls k3 _ _ t105 (rdOf ByteArray.empty t108 x49_3) true _ ?side1 ?side2 A31.out).mono ?_); (case side1 => exact Kd.C_below (Kd.R_reads' HO_5.out).2.2 zg); (case side2 => exact (Kd.R_reads' HO_5.out).2.1); rintro e w' ⟨rfl, ⟨nd, rfl⟩⟩; refine ⟨_, rfl, ?_⟩))
                go_roundg k3
                case measure => have := HJ1.out; have := HJ11.out; have := HK3.out; omega
                case rel => exact ⟨(wrap64 (x49_3 + 1)), zy, H', ⟨by have := HJ1.out; have := HJ11.out; have := HK3.out; omega⟩, ⟨zr HO_5.out⟩, ⟨zr HO_6.out⟩, ⟨by refine zk ?_; exact BK101.out⟩, ⟨zb⟩⟩
               ·
                replace c32 := zI c32
                subst c32
                rw [if_neg (show ¬ (false = true) by decide)] at H
                obtain rfl := zS H
                have p111 : 0 ≤ (x49_3 : Int) := zT zv
                have q111 : x49_3 < (t108.length : Int) := zT zv
                obtain ⟨ad111, e111, hx111_0⟩ := Kd.at_string (Kd.R_reads' HO_6.out).2.2 x49_3 p111 q111
                cases e111
                replace p111 := eq_true p111
                replace q111 := eq_true q111
                obtain ⟨Ao34, co34, eo34⟩ := Kd.R_slice HO_5.out
                subst eo34
                go_wp2_with (first | ((with_reducible refine gate_callee (f := 40) rfl ?_); refine goesL_ (some 57) rfl rfl Tryd.func40 (by kernel_rfl) rfl #[.slice Ao34 t105.length co34, .string (rdOf ByteArray.empty t108 x49_3)] rfl zl ?_; (with_reducible refine (aumbryref03_Has.calls k3 _ _ t105 (rdOf ByteArray.empty t108 x49_3) false _ ?side1 ?side2 A31.out).mono ?_); (case side1 => exact Kd.C_below (Kd.R_reads' HO_5.out).2.2 zg); (case side2 => exact (Kd.R_reads' HO_5.out).2.1); rintro e w' ⟨rfl, ⟨nd, rfl⟩⟩; refine ⟨_, rfl, ?_⟩))
                go_ret
                exact ⟨zw, zb⟩
              ·
               rw [if_neg c30] at H
               exact absurd H (by simp)
             ·
              rw [if_neg c29] at H
              exact absurd H (by simp)
            ·
             rw [if_neg c28] at H
             have c28b0 : decide (x49_3 < (t108.length : Int)) = false := zR c28
             clear c28
             obtain rfl := zS H
             go_wp2
             go_ret
             exact ⟨zw, zb⟩
     ·
      rw [if_neg c11] at H
      have c11b0 : (t103 == 0) = false := zE c11
      have c11b1 : (t103 != 0) = true := zF c11
      obtain rfl := zS H
      have hcz35_0 : wc.cell? ⟨gb101, 0, none⟩ = some (.int .i64 a0_0) := (zX BK101.out 0).trans rfl
      have hcz35_1 : wc.cell? ⟨gb101, 1, none⟩ = some (.slice A0_1 l0_1.length c0_1) := (zX BK101.out 1).trans rfl
      have hcz35_2 : wc.cell? ⟨gb101, 2, none⟩ = some (.slice A0_2 l0_2.length c0_2) := (zX BK101.out 2).trans rfl
      have hfz35_0 := zY BK101.out 0
      have hfz35_1 := zY BK101.out 1
      have hfz35_2 := zY BK101.out 2
      go_wp2_with (first | ((with_reducible refine gate_callee (f := 37) rfl ?_); refine goesL_ (some 18) rfl rfl Tryd.func37 (by kernel_rfl) rfl #[.slice A0_1 l0_1.length c0_1] rfl zl ?_; (with_reducible refine (aumbryref04_Check.calls kj1 _ _ l0_1 t102 _ ?side1 ?side2 A8.out).mono ?_); (case side1 => exact Kd.C_below HR0_1.out zb); (case side2 => exact HC0_1.out); rintro e w' ⟨rfl, ⟨nd, rfl⟩⟩; refine ⟨_, rfl, ?_⟩) | ((with_reducible refine gate_callee (f := 37) rfl ?_); refine goesL_ (some 24) rfl rfl Tryd.func37 (by kernel_rfl) rfl #[.slice A0_2 l0_2.length c0_2] rfl zl ?_; (with_reducible refine (aumbryref04_Check.calls kj1 _ _ l0_2 t103 _ ?side1 ?side2 A10.out).mono ?_); (case side1 => exact Kd.C_below (Kd.C_below HR0_2.out zb) zg); (case side2 => exact HC0_2.out); rintro e w' ⟨rfl, ⟨nd, rfl⟩⟩; refine ⟨_, rfl, ?_⟩))
      go_ret
      exact ⟨zw, zb⟩
    ·
     rw [if_neg c9] at H
     have c9b0 : (t102 == 0) = false := zE c9
     have c9b1 : (t102 != 0) = true := zF c9
     obtain rfl := zS H
     have hcz36_0 : wc.cell? ⟨gb101, 0, none⟩ = some (.int .i64 a0_0) := (zX BK101.out 0).trans rfl
     have hcz36_1 : wc.cell? ⟨gb101, 1, none⟩ = some (.slice A0_1 l0_1.length c0_1) := (zX BK101.out 1).trans rfl
     have hcz36_2 : wc.cell? ⟨gb101, 2, none⟩ = some (.slice A0_2 l0_2.length c0_2) := (zX BK101.out 2).trans rfl
     have hfz36_0 := zY BK101.out 0
     have hfz36_1 := zY BK101.out 1
     have hfz36_2 := zY BK101.out 2
     go_wp2_with (first | ((with_reducible refine gate_callee (f := 37) rfl ?_); refine goesL_ (some 18) rfl rfl Tryd.func37 (by kernel_rfl) rfl #[.slice A0_1 l0_1.length c0_1] rfl zl ?_; (with_reducible refine (aumbryref04_Check.calls kj1 _ _ l0_1 t102 _ ?side1 ?side2 A8.out).mono ?_); (case side1 => exact Kd.C_below HR0_1.out zb); (case side2 => exact HC0_1.out); rintro e w' ⟨rfl, ⟨nd, rfl⟩⟩; refine ⟨_, rfl, ?_⟩))
     go_ret
     exact ⟨zw, zb⟩


-- ==== PF66

mutual
def aumbryref04_Read.j1 : Nat → ByteArray → Int → List (S33) → Int → Option ((List (S33)) × Int × Int)
 | 0, _, _, _, _ => none
 | k + 1, x0, x1, x2, x9 => if 0 ≤ x1 then (if x1 ≤ x9 then (if x9 ≤ (x0.size : Int) then (if (x0.extract (x1 : Int).toNat (x9 : Int).toNat).toList = ([] : List UInt8) then (some (([] : List (S33)), x1, 3)) else ((aumbryref03_Kind.f k (x0.extract (x1 : Int).toNat (x9 : Int).toNat)).bind fun t102 => (if t102 = 0 then (some (([] : List (S33)), x1, 4)) else (if (x2.length : Int) = 64 then (some (([] : List (S33)), x1, 6)) else (if x2.length < 5864062014805 then ((some (x2 ++ [(⟨x0.extract (x1 : Int).toNat (x9 : Int).toNat, 0⟩ : S33)] : List (S33))).bind fun y103 => (if x9 = (x0.size : Int) then (aumbryref04_Read.j2 k x0 y103 x9 t102 (x2.length : Int) true) else (if 0 ≤ x9 then (if x9 < (x0.size : Int) then (aumbryref04_Read.j2 k x0 y103 x9 t102 (x2.length : Int) ((bt x0 x9) != 40)) else (none)) else (none)))) else (none)))))) else (none)) else (none)) else (none)
def aumbryref04_Read.j2 : Nat → ByteArray → List (S33) → Int → Int → Int → Bool → Option ((List (S33)) × Int × Int)
 | 0, _, _, _, _, _, _ => none
 | k + 1, x0, x2, x9, x11, x12, x62 => if x62 = true then (some (x2, x9, 0)) else (if x11 = 2 then (some (([] : List (S33)), x9, 5)) else (aumbryref04_Read.l1 k x0 x2 x9 x12 1))
def aumbryref04_Read.l1 : Nat → ByteArray → List (S33) → Int → Int → Int → Option ((List (S33)) × Int × Int)
 | 0, _, _, _, _, _ => none
 | k + 1, x0, x2, x9, x12, x13 => (aumbryref04_Read.f k x0 (wrap64 (x9 + 1)) x2).bind fun bt106 => (if bt106.2.2 = 0 then (if 0 ≤ x12 then (if x12 < (bt106.1.length : Int) then ((some (bt106.1.set (x12 : Int).toNat (⟨(rd_T33 bt106.1 x12).f0, x13⟩ : S33) : List (S33))).bind fun y111 => (if bt106.2.1 < (x0.size : Int) then (if 0 ≤ bt106.2.1 then (aumbryref04_Read.j4 k x0 y111 bt106.2.1 x12 x13 ((bt x0 bt106.2.1) == 41)) else (none)) else (aumbryref04_Read.j4 k x0 y111 bt106.2.1 x12 x13 false))) else (none)) else (none)) else (some (([] : List (S33)), bt106.2.1, bt106.2.2)))
def aumbryref04_Read.j4 : Nat → ByteArray → List (S33) → Int → Int → Int → Bool → Option ((List (S33)) × Int × Int)
 | 0, _, _, _, _, _, _ => none
 | k + 1, x0, x2, x9, x12, x13, x99 => if x99 = true then (some (x2, wrap64 (x9 + 1), 0)) else (if x9 = (x0.size : Int) then (aumbryref04_Read.j5 k x0 x2 x9 x12 x13 true) else (if 0 ≤ x9 then (if x9 < (x0.size : Int) then (aumbryref04_Read.j5 k x0 x2 x9 x12 x13 ((bt x0 x9) != 44)) else (none)) else (none)))
def aumbryref04_Read.j5 : Nat → ByteArray → List (S33) → Int → Int → Int → Bool → Option ((List (S33)) × Int × Int)
 | 0, _, _, _, _, _, _ => none
 | k + 1, x0, x2, x9, x12, x13, x112 => if x112 = true then (some (([] : List (S33)), x9, 3)) else (if x13 = 4 then (some (([] : List (S33)), x9, 5)) else (aumbryref04_Read.l1 k x0 x2 x9 x12 (wrap64 (x13 + 1))))
def aumbryref04_Read.l0 : Nat → ByteArray → Int → List (S33) → Int → Option ((List (S33)) × Int × Int)
 | 0, _, _, _, _ => none
 | k + 1, x0, x1, x2, x9 => if x9 < (x0.size : Int) then (if 0 ≤ x9 then ((aumbryref04_sign.f (bt x0 x9)).bind fun t101 => (if t101 = true then (aumbryref04_Read.l0 k x0 x1 x2 (wrap64 (x9 + 1))) else (aumbryref04_Read.j1 k x0 x1 x2 x9))) else (none)) else (aumbryref04_Read.j1 k x0 x1 x2 x9)
def aumbryref04_Read.f : Nat → ByteArray → Int → List (S33) → Option ((List (S33)) × Int × Int)
 | 0, _, _, _ => none
 | k + 1, a0, a1, l2 => aumbryref04_Read.l0 k a0 a1 l2 a1
end
theorem aumbryref04_Read.mono_l : ∀ k, (∀ y0 y1 y2, LeO (aumbryref04_Read.f k y0 y1 y2) (aumbryref04_Read.f (k + 1) y0 y1 y2)) ∧ (∀ y0 y1 y2 y3, LeO (aumbryref04_Read.j1 k y0 y1 y2 y3) (aumbryref04_Read.j1 (k + 1) y0 y1 y2 y3)) ∧ (∀ y0 y1 y2 y3 y4 y5, LeO (aumbryref04_Read.j2 k y0 y1 y2 y3 y4 y5) (aumbryref04_Read.j2 (k + 1) y0 y1 y2 y3 y4 y5)) ∧ (∀ y0 y1 y2 y3 y4, LeO (aumbryref04_Read.l1 k y0 y1 y2 y3 y4) (aumbryref04_Read.l1 (k + 1) y0 y1 y2 y3 y4)) ∧ (∀ y0 y1 y2 y3 y4 y5, LeO (aumbryref04_Read.j4 k y0 y1 y2 y3 y4 y5) (aumbryref04_Read.j4 (k + 1) y0 y1 y2 y3 y4 y5)) ∧ (∀ y0 y1 y2 y3 y4 y5, LeO (aumbryref04_Read.j5 k y0 y1 y2 y3 y4 y5) (aumbryref04_Read.j5 (k + 1) y0 y1 y2 y3 y4 y5)) ∧ (∀ y0 y1 y2 y3, LeO (aumbryref04_Read.l0 k y0 y1 y2 y3) (aumbryref04_Read.l0 (k + 1) y0 y1 y2 y3))
 | 0 => ⟨fun _ _ _ r h => by simp [aumbryref04_Read.f] at h, fun _ _ _ _ r h => by simp [aumbryref04_Read.j1] at h, fun _ _ _ _ _ _ r h => by simp [aumbryref04_Read.j2] at h, fun _ _ _ _ _ r h => by simp [aumbryref04_Read.l1] at h, fun _ _ _ _ _ _ r h => by simp [aumbryref04_Read.j4] at h, fun _ _ _ _ _ _ r h => by simp [aumbryref04_Read.j5] at h, fun _ _ _ _ r h => by simp [aumbryref04_Read.l0] at h⟩
 | k + 1 => by
  obtain ⟨ih0, ih1, ih2, ih3, ih4, ih5, ih6⟩ := aumbryref04_Read.mono_l k
  refine ⟨?_, ?_, ?_, ?_, ?_, ?_, ?_⟩
  ·
   intro y0 y1 y2
   unfold aumbryref04_Read.f
   repeat' first
   | (with_reducible exact ih0 _ _ _)
   | (with_reducible exact ih1 _ _ _ _)
   | (with_reducible exact ih2 _ _ _ _ _ _)
   | (with_reducible exact ih3 _ _ _ _ _)
   | (with_reducible exact ih4 _ _ _ _ _ _)
   | (with_reducible exact ih5 _ _ _ _ _ _)
   | (with_reducible exact ih6 _ _ _ _)
   | (with_reducible exact aumbryref03_Kind.mono _ _)
   | (with_reducible exact LeO.refl _)
   | (with_reducible exact LeO.none _)
   | (with_reducible refine LeO.ite ?_ ?_)
   | (with_reducible refine LeO.bind ?_ (fun _ => ?_))
  ·
   intro y0 y1 y2 y3
   unfold aumbryref04_Read.j1
   repeat' first
   | (with_reducible exact ih0 _ _ _)
   | (with_reducible exact ih1 _ _ _ _)
   | (with_reducible exact ih2 _ _ _ _ _ _)
   | (with_reducible exact ih3 _ _ _ _ _)
   | (with_reducible exact ih4 _ _ _ _ _ _)
   | (with_reducible exact ih5 _ _ _ _ _ _)
   | (with_reducible exact ih6 _ _ _ _)
   | (with_reducible exact aumbryref03_Kind.mono _ _)
   | (with_reducible exact LeO.refl _)
   | (with_reducible exact LeO.none _)
   | (with_reducible refine LeO.ite ?_ ?_)
   | (with_reducible refine LeO.bind ?_ (fun _ => ?_))
  ·
   intro y0 y1 y2 y3 y4 y5
   unfold aumbryref04_Read.j2
   repeat' first
   | (with_reducible exact ih0 _ _ _)
   | (with_reducible exact ih1 _ _ _ _)
   | (with_reducible exact ih2 _ _ _ _ _ _)
   | (with_reducible exact ih3 _ _ _ _ _)
   | (with_reducible exact ih4 _ _ _ _ _ _)
   | (with_reducible exact ih5 _ _ _ _ _ _)
   | (with_reducible exact ih6 _ _ _ _)
   | (with_reducible exact aumbryref03_Kind.mono _ _)
   | (with_reducible exact LeO.refl _)
   | (with_reducible exact LeO.none _)
   | (with_reducible refine LeO.ite ?_ ?_)
   | (with_reducible refine LeO.bind ?_ (fun _ => ?_))
  ·
   intro y0 y1 y2 y3 y4
   unfold aumbryref04_Read.l1
   repeat' first
   | (with_reducible exact ih0 _ _ _)
   | (with_reducible exact ih1 _ _ _ _)
   | (with_reducible exact ih2 _ _ _ _ _ _)
   | (with_reducible exact ih3 _ _ _ _ _)
   | (with_reducible exact ih4 _ _ _ _ _ _)
   | (with_reducible exact ih5 _ _ _ _ _ _)
   | (with_reducible exact ih6 _ _ _ _)
   | (with_reducible exact aumbryref03_Kind.mono _ _)
   | (with_reducible exact LeO.refl _)
   | (with_reducible exact LeO.none _)
   | (with_reducible refine LeO.ite ?_ ?_)
   | (with_reducible refine LeO.bind ?_ (fun _ => ?_))
  ·
   intro y0 y1 y2 y3 y4 y5
   unfold aumbryref04_Read.j4
   repeat' first
   | (with_reducible exact ih0 _ _ _)
   | (with_reducible exact ih1 _ _ _ _)
   | (with_reducible exact ih2 _ _ _ _ _ _)
   | (with_reducible exact ih3 _ _ _ _ _)
   | (with_reducible exact ih4 _ _ _ _ _ _)
   | (with_reducible exact ih5 _ _ _ _ _ _)
   | (with_reducible exact ih6 _ _ _ _)
   | (with_reducible exact aumbryref03_Kind.mono _ _)
   | (with_reducible exact LeO.refl _)
   | (with_reducible exact LeO.none _)
   | (with_reducible refine LeO.ite ?_ ?_)
   | (with_reducible refine LeO.bind ?_ (fun _ => ?_))
  ·
   intro y0 y1 y2 y3 y4 y5
   unfold aumbryref04_Read.j5
   repeat' first
   | (with_reducible exact ih0 _ _ _)
   | (with_reducible exact ih1 _ _ _ _)
   | (with_reducible exact ih2 _ _ _ _ _ _)
   | (with_reducible exact ih3 _ _ _ _ _)
   | (with_reducible exact ih4 _ _ _ _ _ _)
   | (with_reducible exact ih5 _ _ _ _ _ _)
   | (with_reducible exact ih6 _ _ _ _)
   | (with_reducible exact aumbryref03_Kind.mono _ _)
   | (with_reducible exact LeO.refl _)
   | (with_reducible exact LeO.none _)
   | (with_reducible refine LeO.ite ?_ ?_)
   | (with_reducible refine LeO.bind ?_ (fun _ => ?_))
  ·
   intro y0 y1 y2 y3
   unfold aumbryref04_Read.l0
   repeat' first
   | (with_reducible exact ih0 _ _ _)
   | (with_reducible exact ih1 _ _ _ _)
   | (with_reducible exact ih2 _ _ _ _ _ _)
   | (with_reducible exact ih3 _ _ _ _ _)
   | (with_reducible exact ih4 _ _ _ _ _ _)
   | (with_reducible exact ih5 _ _ _ _ _ _)
   | (with_reducible exact ih6 _ _ _ _)
   | (with_reducible exact aumbryref03_Kind.mono _ _)
   | (with_reducible exact LeO.refl _)
   | (with_reducible exact LeO.none _)
   | (with_reducible refine LeO.ite ?_ ?_)
   | (with_reducible refine LeO.bind ?_ (fun _ => ?_))
theorem aumbryref04_Read.mono : ∀ a0 a1 a2 k, LeO (aumbryref04_Read.f k a0 a1 a2) (aumbryref04_Read.f (k + 1) a0 a1 a2) := by
 intro a0 a1 a2 k
 obtain ⟨ih0, ih1, ih2, ih3, ih4, ih5, ih6⟩ := aumbryref04_Read.mono_l k
 exact ih0 a0 a1 a2
theorem aumbryref04_Read.calls (k : Nat) : ∀ (a0 : ByteArray) (a1 : Int) (P2_ : Nat → Prop) (u9000_ : Value) (l2 : List (S33)) (r1 : List (S33)) (r2 : Int) (r3 : Int) (w0 w : World) (hB : Below w0.heap.size w0 w) (ho2 : Kd.R k33 33 w w0.heap.size P2_ u9000_ l2) (h : aumbryref04_Read.f k a0 a1 l2 = some (r1, r2, r3)),
 Calls Tryd.prog 66 #[.string a0, .int .i64 a1, u9000_] w fun e w' => ∃ v0_ : Value, e = .returned (.tuple #[v0_, .int .i64 r2, .int .i64 r3]) ∧ Kd.R k33 33 w' w0.heap.size (fun k_ => (P2_ k_ ∨ w.heap.size ≤ k_)) v0_ r1 ∧ Below w0.heap.size w0 w' ∧ Kept w w' (fun k_ => P2_ k_) := by
 induction k using Nat.strongRecOn with
 | _ k ih =>
 intro a0 a1 P2_ u9000_ l2 r1 r2 r3 w0 w hB ho2 h
 cases k with
 | zero => exact absurd h (by simp [aumbryref04_Read.f])
 | succ k =>
 simp only [aumbryref04_Read.f] at h
 have hu33 := Tryd.underlying33
 have HO2 := zM (show Kd.R k33 33 w w0.heap.size (fun k_ => (P2_ k_ ∨ w.heap.size ≤ k_)) u9000_ l2 from Kd.R_mono ho2 (fun k_ hk => (.inl hk)))
 have HK := zM (Kept.refl w (fun k_ => P2_ k_))
 have HW0 := zM hB.size
 have HB := zM hB
 clear hB
 have H : (aumbryref04_Read.l0 k a0 a1 l2 a1) = some (r1, r2, r3) := h
 clear h
 have HC4 := zM H
 clear H
 go_enter Tryd.func66, Tryd.ntmps66
 go_upto_block 0 with (fail)
 go_cut [9] (fun v9 wc => ∃ (kq : Nat) (x9_3 : Int), v9 = .int .i64 x9_3 ∧ Aside0 (aumbryref04_Read.j1 kq a0 a1 l2 x9_3 = some (r1, r2, r3)) ∧ Aside0 (kq ≤ k) ∧ Aside0 (Kd.R k33 33 wc w0.heap.size (fun k_ => (P2_ k_ ∨ w.heap.size ≤ k_)) u9000_ l2) ∧ Aside0 (Kept w wc (fun k_ => P2_ k_)) ∧ Aside0 (Below w0.heap.size w0 wc))
 case first =>
  have H := HC4.out
  clear HC4
  have H' := zM H
  clear H
  go_wp2
  go_loopg [9] k (fun kq v9 w' => ∃ (x9_1 : Int), v9 = .int .i64 x9_1 ∧ Aside0 (aumbryref04_Read.l0 kq a0 a1 l2 x9_1 = some (r1, r2, r3)) ∧ Aside0 (kq ≤ k) ∧ Aside0 (Kd.R k33 33 w' w0.heap.size (fun k_ => (P2_ k_ ∨ w.heap.size ≤ k_)) u9000_ l2) ∧ Aside0 (Kept w w' (fun k_ => P2_ k_)) ∧ Aside0 (Below w0.heap.size w0 w'))
  case atStart => exact ⟨(a1), zy, H', ⟨Nat.le_refl _⟩, ⟨zr HO2.out⟩, ⟨zf⟩, ⟨zb⟩⟩
  case round =>
   clear H'
   try clear p2
   obtain ⟨x9_1, rfl, HA, HK1, HO_2, HK, HB⟩ := hrel
   cases gk with
   | zero => exact absurd HA.out (by simp [aumbryref04_Read.l0])
   | succ k1 =>
    have H := HA.out
    clear HA
    simp only [aumbryref04_Read.l0] at H
    by_cases c5 : x9_1 < (a0.size : Int)
    ·
     rw [if_pos c5] at H
     have c5b0 : decide (x9_1 < (a0.size : Int)) = true := zQ c5
     clear c5
     (first | rw [c5b0] | (simp only [i64_w, i32_w]; rw [c5b0]) | skip)
     by_cases c6 : 0 ≤ x9_1
     ·
      rw [if_pos c6] at H
      have c6b0 : decide (0 ≤ x9_1) = true := zQ c6
      clear c6
      replace H := zB H
      obtain ⟨t101, A80, H⟩ := H
      try dsimp only at H
      have A8 := zM A80
      clear A80
      by_cases c9 : t101 = true
      ·
       subst c9
       rw [if_pos rfl] at H
       have H' := zM H
       clear H
       have p7 : 0 ≤ (x9_1 : Int) := zT zv
       have q7 : x9_1 < (a0.size : Int) := zT zv
       have hx7 := bt_at a0 x9_1
       replace p7 := eq_true p7
       replace q7 := eq_true q7
       go_wp2_with (first | (go_at_call 82; (with_reducible refine (aumbryref04_sign.calls (bt a0 x9_1) true _ A8.out).mono ?_); rintro e w' ⟨rfl, ⟨nd, rfl⟩⟩))
       go_roundg k1
       case measure => have := HK1.out; omega
       case rel => exact ⟨(wrap64 (x9_1 + 1)), zy, H', ⟨by have := HK1.out; omega⟩, ⟨zr HO_2.out⟩, ⟨zf⟩, ⟨zb⟩⟩
      ·
       replace c9 := zI c9
       subst c9
       rw [if_neg (show ¬ (false = true) by decide)] at H
       have H' := zM H
       clear H
       have p7 : 0 ≤ (x9_1 : Int) := zT zv
       have q7 : x9_1 < (a0.size : Int) := zT zv
       have hx7 := bt_at a0 x9_1
       replace p7 := eq_true p7
       replace q7 := eq_true q7
       go_wp2_with (first | (go_at_call 82; (with_reducible refine (aumbryref04_sign.calls (bt a0 x9_1) false _ A8.out).mono ?_); rintro e w' ⟨rfl, ⟨nd, rfl⟩⟩))
       go_meet
       case rel => exact ⟨_, (x9_1), zy, H', ⟨by have := HK1.out; first | omega | exact Nat.le_refl _⟩, ⟨zr HO_2.out⟩, ⟨zf⟩, ⟨zb⟩⟩
     ·
      rw [if_neg c6] at H
      exact absurd H (by simp)
    ·
     rw [if_neg c5] at H
     have c5b0 : decide (x9_1 < (a0.size : Int)) = false := zR c5
     clear c5
     (first | rw [c5b0] | (simp only [i64_w, i32_w]; rw [c5b0]) | skip)
     have H' := zM H
     clear H
     go_wp2
     go_meet
     case rel => exact ⟨_, (x9_1), zy, H', ⟨by have := HK1.out; first | omega | exact Nat.le_refl _⟩, ⟨zr HO_2.out⟩, ⟨zf⟩, ⟨zb⟩⟩
 case rest =>
  clear HC4
  try clear p2
  try clear c5
  try clear c5b0
  try clear c6
  try clear c6b0
  try clear p6
  try clear p7
  try clear q7
  try clear hx7
  try clear c9
  try clear p2
  try clear p7
  try clear q7
  obtain ⟨kq, x9_3, rfl, HA, HJ3, HO_2, HK, HB⟩ := hcut
  cases kq with
  | zero => exact absurd HA.out (by simp [aumbryref04_Read.j1])
  | succ kj3 =>
   have H := HA.out
   clear HA
   simp only [aumbryref04_Read.j1] at H
   by_cases c10 : 0 ≤ a1
   ·
    rw [if_pos c10] at H
    have c10b0 := eq_true c10
    have c10b1 : decide (0 ≤ a1) = true := zQ c10
    clear c10
    by_cases c11 : a1 ≤ x9_3
    ·
     rw [if_pos c11] at H
     have c11b0 := eq_true c11
     have c11b1 : decide (a1 ≤ x9_3) = true := zQ c11
     clear c11
     by_cases c12 : x9_3 ≤ (a0.size : Int)
     ·
      rw [if_pos c12] at H
      have c12b0 := eq_true c12
      have c12b1 : decide (x9_3 ≤ (a0.size : Int)) = true := zQ c12
      clear c12
      by_cases c13 : (a0.extract (a1 : Int).toNat (x9_3 : Int).toNat).toList = ([] : List UInt8)
      ·
       rw [if_pos c13] at H
       have c13b0 : ((a0.extract (a1 : Int).toNat (x9_3 : Int).toNat).toList == ([] : List UInt8)) = true := zG c13
       have c13b1 : ((a0.extract (a1 : Int).toNat (x9_3 : Int).toNat).toList != ([] : List UInt8)) = false := zH c13
       clear c13
       simp only [Option.some.injEq, Prod.mk.injEq] at H
       obtain ⟨rfl, rfl, rfl⟩ := H
       go_wp2
       go_ret3
       exact ⟨_, zw, by first | exact Kd.R_nil _ _ _ _ _ | exact Kd.N_nil _ _ _ _ _ | exact Kd.V_nil _ _ _ _ _ | exact Kd.Q_nil _ _ _ _ _ | exact Kd.S_nil _ _ _ _ _, zb, zf⟩
      ·
       rw [if_neg c13] at H
       have c13b0 : ((a0.extract (a1 : Int).toNat (x9_3 : Int).toNat).toList == ([] : List UInt8)) = false := zE c13
       have c13b1 : ((a0.extract (a1 : Int).toNat (x9_3 : Int).toNat).toList != ([] : List UInt8)) = true := zF c13
       replace H := zB H
       obtain ⟨t102, A140, H⟩ := H
       try dsimp only at H
       have A14 := zM A140
       clear A140
       by_cases c15 : t102 = 0
       ·
        rw [if_pos c15] at H
        have c15b0 : (t102 == 0) = true := zG c15
        have c15b1 : (t102 != 0) = false := zH c15
        clear c15
        simp only [Option.some.injEq, Prod.mk.injEq] at H
        obtain ⟨rfl, rfl, rfl⟩ := H
        go_wp2_with (first | ((with_reducible refine gate_callee (f := 61) rfl ?_); refine goesL_ (some 38) rfl rfl Tryd.func61 (by kernel_rfl) rfl #[.string (a0.extract (a1 : Int).toNat (x9_3 : Int).toNat)] rfl zl ?_; (with_reducible refine (aumbryref03_Kind.calls kj3 (a0.extract (a1 : Int).toNat (x9_3 : Int).toNat) t102 _ A14.out).mono ?_); rintro e w' ⟨rfl, ⟨nd, rfl⟩⟩; refine ⟨_, rfl, ?_⟩))
        go_ret3
        exact ⟨_, zw, by first | exact Kd.R_nil _ _ _ _ _ | exact Kd.N_nil _ _ _ _ _ | exact Kd.V_nil _ _ _ _ _ | exact Kd.Q_nil _ _ _ _ _ | exact Kd.S_nil _ _ _ _ _, zb, zf⟩
       ·
        rw [if_neg c15] at H
        have c15b0 : (t102 == 0) = false := zE c15
        have c15b1 : (t102 != 0) = true := zF c15
        by_cases c16 : (l2.length : Int) = 64
        ·
         rw [if_pos c16] at H
         have c16b0 : ((l2.length : Int) == 64) = true := zG c16
         have c16b1 : ((l2.length : Int) != 64) = false := zH c16
         clear c16
         simp only [Option.some.injEq, Prod.mk.injEq] at H
         obtain ⟨rfl, rfl, rfl⟩ := H
         go_wp2_with (first | ((with_reducible refine gate_callee (f := 61) rfl ?_); refine goesL_ (some 38) rfl rfl Tryd.func61 (by kernel_rfl) rfl #[.string (a0.extract (a1 : Int).toNat (x9_3 : Int).toNat)] rfl zl ?_; (with_reducible refine (aumbryref03_Kind.calls kj3 (a0.extract (a1 : Int).toNat (x9_3 : Int).toNat) t102 _ A14.out).mono ?_); rintro e w' ⟨rfl, ⟨nd, rfl⟩⟩; refine ⟨_, rfl, ?_⟩; obtain ⟨Ao17, co17, eo17⟩ := Kd.R_slice HO_2.out; subst eo17))
         go_ret3
         exact ⟨_, zw, by first | exact Kd.R_nil _ _ _ _ _ | exact Kd.N_nil _ _ _ _ _ | exact Kd.V_nil _ _ _ _ _ | exact Kd.Q_nil _ _ _ _ _ | exact Kd.S_nil _ _ _ _ _, zb, zf⟩
        ·
         rw [if_neg c16] at H
         have c16b0 : ((l2.length : Int) == 64) = false := zE c16
         have c16b1 : ((l2.length : Int) != 64) = true := zF c16
         by_cases c18 : l2.length < 5864062014805
         ·
          rw [if_pos c18] at H
          have LMc18 := zM c18
          clear c18
          obtain ⟨y103, hy103⟩ : ∃ y_ : List (S33), y_ = (l2 ++ [(⟨a0.extract (a1 : Int).toNat (x9_3 : Int).toNat, 0⟩ : S33)]) := ⟨_, rfl⟩
          replace H : (if x9_3 = (a0.size : Int) then (aumbryref04_Read.j2 kj3 a0 y103 x9_3 t102 (l2.length : Int) true) else (if 0 ≤ x9_3 then (if x9_3 < (a0.size : Int) then (aumbryref04_Read.j2 kj3 a0 y103 x9_3 t102 (l2.length : Int) ((bt a0 x9_3) != 40)) else (none)) else (none))) = some (r1, r2, r3) := by first | (rw [hy103]; with_reducible exact H) | (have H2_ := (Option.bind_some _ _).symm.trans H; rw [hy103]; with_reducible exact H2_) | (have H2_ := (Option.bind_some _ _).symm.trans H; with_reducible exact H2_) | with_reducible exact H | (rw [hy103]; exact H) | exact H
          have Ny103 := zM hy103
          clear hy103
          have HC19 := zM H
          clear H
          go_upto_region 14 with (first | ((with_reducible refine gate_callee (f := 61) rfl ?_); refine goesL_ (some 38) rfl rfl Tryd.func61 (by kernel_rfl) rfl #[.string (a0.extract (a1 : Int).toNat (x9_3 : Int).toNat)] rfl zl ?_; (with_reducible refine (aumbryref03_Kind.calls kj3 (a0.extract (a1 : Int).toNat (x9_3 : Int).toNat) t102 _ A14.out).mono ?_); rintro e w' ⟨rfl, ⟨nd, rfl⟩⟩; refine ⟨_, rfl, ?_⟩; obtain ⟨Ao20, co20, eo20⟩ := Kd.R_slice HO_2.out; subst eo20) | ((with_reducible refine gate_builtin (b := .append) (xs := #[.tmp 48, .tmp 51]) rfl ?_); at_builtin; refine Kd.R_append k33 (w0 := w0) w0.heap.size rfl (.tmp 48) (.tmp 51) 23 33 (.agg #[(.string ⟨#[]⟩), (.int .i64 0)]) 24 rfl Tryd.underlying23 info33 rfl (by decide) (by omega) (.slice Ao20 l2.length co20) l2 (⟨a0.extract (a1 : Int).toNat (x9_3 : Int).toNat, 0⟩ : S33) [.string (a0.extract (a1 : Int).toNat (x9_3 : Int).toNat), .int .i64 0] (fun k_ => (P2_ k_ ∨ w.heap.size ≤ k_)) (fun _ => False) rfl rfl ?aP (fun _ hk => hk.elim) ?aF ?aO ?aB ?aS ?aL ?_; (case aP => exact k33_mkM _ _ _ (⟨a0.extract (a1 : Int).toNat (x9_3 : Int).toNat, 0⟩ : S33)); (case aB => exact zb); (case aF => exact (fun k_ hk => (.inr (Nat.le_trans (by first | exact HK.out.1 | exact (show Kept w _ (fun k_ => P2_ k_) from zf).1) hk)))); (case aO => exact (zr HO_2.out)); (case aS => exact (below_size zb)); (case aL => have := LMc18.out; omega); intro v104 w21 ho hb hg hat; rw [← Ny103.out] at ho; replace HB := zM (hb); replace HK := zM (Kept.of_grown (S := (fun k_ => P2_ k_)) hg (zf) (fun k_ e_ => (HO_2.out.1 k_ e_))); have HO105 := zM (ho); clear HO_2; clear ho hb hg hat))
          (try simp only [Act.put, List.setIfInBounds_toArray, List.set_cons_zero, List.set_cons_succ])
          go_cut [62] (fun v62 wc => ∃ (kq : Nat) (x62_18 : Bool), v62 = .bool x62_18 ∧ Aside0 (aumbryref04_Read.j2 kq a0 y103 x9_3 t102 (l2.length : Int) x62_18 = some (r1, r2, r3)) ∧ Aside0 (kq ≤ kj3) ∧ Aside0 (Kd.R k33 33 wc w0.heap.size (fun k_ => (P2_ k_ ∨ w.heap.size ≤ k_)) v104 y103) ∧ Aside0 (Kept w wc (fun k_ => P2_ k_)) ∧ Aside0 (Below w0.heap.size w0 wc))
          case first =>
           have H := HC19.out
           clear HC19
           by_cases c22 : x9_3 = (a0.size : Int)
           ·
            rw [if_pos c22] at H
            have c22b0 : (x9_3 == (a0.size : Int)) = true := zG c22
            have c22b1 : (x9_3 != (a0.size : Int)) = false := zH c22
            clear c22
            (first | rw [c22b0] | (simp only [i64_w, i32_w]; rw [c22b0]) | skip)
            have H' := zM H
            clear H
            go_wp2
            go_meet
            case rel => exact ⟨_, (true), zy, H', ⟨by have := HJ3.out; first | omega | exact Nat.le_refl _⟩, ⟨zr HO105.out⟩, ⟨zf⟩, ⟨zb⟩⟩
           ·
            rw [if_neg c22] at H
            have c22b0 : (x9_3 == (a0.size : Int)) = false := zE c22
            have c22b1 : (x9_3 != (a0.size : Int)) = true := zF c22
            (first | rw [c22b0] | (simp only [i64_w, i32_w]; rw [c22b0]) | skip)
            by_cases c23 : 0 ≤ x9_3
            ·
             rw [if_pos c23] at H
             have c23b0 : decide (0 ≤ x9_3) = true := zQ c23
             clear c23
             by_cases c24 : x9_3 < (a0.size : Int)
             ·
              rw [if_pos c24] at H
              have c24b0 : decide (x9_3 < (a0.size : Int)) = true := zQ c24
              clear c24
              have H' := zM H
              clear H
              have p25 : 0 ≤ (x9_3 : Int) := zT zv
              have q25 : x9_3 < (a0.size : Int) := zT zv
              have hx25 := bt_at a0 x9_3
              replace p25 := eq_true p25
              replace q25 := eq_true q25
              go_wp2
              go_meet
              case rel => exact ⟨_, (((bt a0 x9_3) != 40)), zy, H', ⟨by have := HJ3.out; first | omega | exact Nat.le_refl _⟩, ⟨zr HO105.out⟩, ⟨zf⟩, ⟨zb⟩⟩
             ·
              rw [if_neg c24] at H
              exact absurd H (by simp)
            ·
             rw [if_neg c23] at H
             exact absurd H (by simp)
          case rest =>
           clear HC19
           try clear c1
           try clear c2
           try clear p2
           try clear q2
           try clear hx2
           try clear c5
           try clear c5b0
           try clear c6
           try clear c6b0
           try clear p6
           try clear p7
           try clear q7
           try clear hx7
           try clear c9
           try clear c10
           try clear c10b0
           try clear c10b1
           try clear c11
           try clear c11b0
           try clear c11b1
           try clear c12
           try clear c12b0
           try clear c12b1
           try clear c13
           try clear c13b0
           try clear c13b1
           try clear c15
           try clear c15b0
           try clear c15b1
           try clear c16
           try clear c16b0
           try clear c16b1
           try clear c18
           try clear c22
           try clear c22b0
           try clear c22b1
           try clear c23
           try clear c23b0
           try clear c24
           try clear c24b0
           try clear p25
           try clear q25
           try clear hx25
           try clear p2
           try clear p25
           try clear p6
           try clear p7
           try clear q25
           try clear q7
           obtain ⟨kq, x62_18, rfl, HA, HJ18, HO_2, HK, HB⟩ := hcut
           cases kq with
           | zero => exact absurd HA.out (by simp [aumbryref04_Read.j2])
           | succ kj18 =>
            have H := HA.out
            clear HA
            simp only [aumbryref04_Read.j2] at H
            by_cases c26 : x62_18 = true
            ·
             subst c26
             rw [if_pos rfl] at H
             simp only [Option.some.injEq, Prod.mk.injEq] at H
             obtain ⟨rfl, rfl, rfl⟩ := H
             go_wp2
             go_ret3
             exact ⟨_, zw, zr HO_2.out, zb, zf⟩
            ·
             replace c26 := zI c26
             subst c26
             rw [if_neg (show ¬ (false = true) by decide)] at H
             by_cases c27 : t102 = 2
             ·
              rw [if_pos c27] at H
              have c27b0 : (t102 == 2) = true := zG c27
              have c27b1 : (t102 != 2) = false := zH c27
              clear c27
              simp only [Option.some.injEq, Prod.mk.injEq] at H
              obtain ⟨rfl, rfl, rfl⟩ := H
              go_wp2
              go_ret3
              exact ⟨_, zw, by first | exact Kd.R_nil _ _ _ _ _ | exact Kd.N_nil _ _ _ _ _ | exact Kd.V_nil _ _ _ _ _ | exact Kd.Q_nil _ _ _ _ _ | exact Kd.S_nil _ _ _ _ _, zb, zf⟩
             ·
              rw [if_neg c27] at H
              have c27b0 : (t102 == 2) = false := zE c27
              have c27b1 : (t102 != 2) = true := zF c27
              have H' := zM H
              clear H
              go_wp2
              go_loopg [2, 9, 13] kj18 (fun kq v2 v9 v13 w' => ∃ (x2_3 : List (S33)) (x9_3 : Int) (x13_3 : Int), v9 = .int .i64 x9_3 ∧ v13 = .int .i64 x13_3 ∧ Aside0 (aumbryref04_Read.l1 kq a0 x2_3 x9_3 (l2.length : Int) x13_3 = some (r1, r2, r3)) ∧ Aside0 (kq ≤ kj18) ∧ Aside0 (Kd.R k33 33 w' w0.heap.size (fun k_ => (P2_ k_ ∨ w.heap.size ≤ k_)) v2 x2_3) ∧ Aside0 (Kept w w' (fun k_ => P2_ k_)) ∧ Aside0 (Below w0.heap.size w0 w'))
              case atStart => exact ⟨(y103), (x9_3), (1), zy, zy, H', ⟨Nat.le_refl _⟩, ⟨zr HO_2.out⟩, ⟨zf⟩, ⟨zb⟩⟩
              case round =>
               clear H'
               try clear c1
               try clear c2
               try clear p2
               try clear q2
               try clear hx2
               try clear c5
               try clear c5b0
               try clear c6
               try clear c6b0
               try clear p6
               try clear p7
               try clear q7
               try clear hx7
               try clear c9
               try clear c10
               try clear c10b0
               try clear c10b1
               try clear c11
               try clear c11b0
               try clear c11b1
               try clear c12
               try clear c12b0
               try clear c12b1
               try clear c13
               try clear c13b0
               try clear c13b1
               try clear c15
               try clear c15b0
               try clear c15b1
               try clear c16
               try clear c16b0
               try clear c16b1
               try clear c18
               try clear c22
               try clear c22b0
               try clear c22b1
               try clear c23
               try clear c23b0
               try clear c24
               try clear c24b0
               try clear p25
               try clear q25
               try clear hx25
               try clear c26
               try clear c27
               try clear c27b0
               try clear c27b1
               try clear p2
               try clear p25
               try clear p6
               try clear p7
               try clear q2
               try clear q25
               try clear q7
               obtain ⟨x2_3, x9_3, x13_3, rfl, rfl, HA, HK3, HO_2, HK, HB⟩ := hrel
               cases gk with
               | zero => exact absurd HA.out (by simp [aumbryref04_Read.l1])
               | succ k3 =>
                have H := HA.out
                clear HA
                simp only [aumbryref04_Read.l1] at H
                replace H := zB H
                obtain ⟨⟨t106, t109, t110⟩, A280, H⟩ := H
                try dsimp only at H
                have A28 := zM A280
                clear A280
                by_cases c29 : t110 = 0
                ·
                 rw [if_pos c29] at H
                 have c29b0 : (t110 == 0) = true := zG c29
                 have c29b1 : (t110 != 0) = false := zH c29
                 clear c29
                 by_cases c30 : 0 ≤ (l2.length : Int)
                 ·
                  rw [if_pos c30] at H
                  have c30b0 : decide (0 ≤ (l2.length : Int)) = true := zQ c30
                  have c30b1 : decide (0 ≤ l2.length) = true := zQ (by omega)
                  clear c30
                  by_cases c31 : (l2.length : Int) < (t106.length : Int)
                  ·
                   rw [if_pos c31] at H
                   have c31b0 : decide ((l2.length : Int) < (t106.length : Int)) = true := zQ c31
                   have c31b1 : decide (l2.length < t106.length) = true := zQ (Int.ofNat_lt.mp c31)
                   clear c31
                   obtain ⟨y111, hy111⟩ : ∃ y_ : List (S33), y_ = (t106.set ((l2.length : Int) : Int).toNat (⟨(rd_T33 t106 (l2.length : Int)).f0, x13_3⟩ : S33)) := ⟨_, rfl⟩
                   replace H : (if t109 < (a0.size : Int) then (if 0 ≤ t109 then (aumbryref04_Read.j4 k3 a0 y111 t109 (l2.length : Int) x13_3 ((bt a0 t109) == 41)) else (none)) else (aumbryref04_Read.j4 k3 a0 y111 t109 (l2.length : Int) x13_3 false)) = some (r1, r2, r3) := by first | (rw [hy111]; with_reducible exact H) | (have H2_ := (Option.bind_some _ _).symm.trans H; rw [hy111]; with_reducible exact H2_) | (have H2_ := (Option.bind_some _ _).symm.trans H; with_reducible exact H2_) | with_reducible exact H | (rw [hy111]; exact H) | exact H
                   have Ny111 := zM hy111
                   clear hy111
                   have HC33 := zM H
                   clear H
                   obtain ⟨Ao34, co34, eo34⟩ := Kd.R_slice HO_2.out
                   subst eo34
                   go_upto_region 26 with (first | ((with_reducible refine gate_callee (f := 66) rfl ?_); refine goesL_ (some 75) rfl rfl Tryd.func66 (by kernel_rfl) rfl #[.string a0, .int .i64 (wrap64 (x9_3 + 1)), .slice Ao34 x2_3.length co34] rfl zl ?_; (with_reducible refine (ih k3 (by have := HJ3.out; have := HJ18.out; have := HK3.out; omega) a0 (wrap64 (x9_3 + 1)) (fun k_ => some k_ = (.slice Ao34 x2_3.length co34 : Value).ownBlock) (.slice Ao34 x2_3.length co34) x2_3 t106 t109 t110 w0 _ ?side1 ?side2 A28.out).mono ?_); (case side1 => exact zb); (case side2 => exact Kd.R_tight rfl HO_2.out); rintro e w35 ⟨v107, rfl, ho0, hb, hkp⟩; refine ⟨_, rfl, ?_⟩; have HO108 := zM (Kd.R_mono (ok' := fun k_ => (P2_ k_ ∨ w.heap.size ≤ k_)) ho0 (fun k_ hk_ => Or.elim hk_ (fun hs_ => (HO_2.out.1 k_ (hs_).symm)) (fun hn_ => (.inr (Nat.le_trans (by first | exact HK.out.1 | exact (show Kept w _ (fun k_ => P2_ k_) from zf).1) hn_))))); replace HK := zM (Kept.then_ (S := (fun k_ => P2_ k_)) (zf) hkp (fun k_ hs_ => (fun e_ => (HO_2.out.1 k_ e_.symm)) hs_)); replace HB := zM (hb); clear HO_2; (try clear hb); (try clear hkp); (try clear ho0); have p32 : 0 ≤ ((l2.length : Int) : Int) := zT zv; have q32 : ((l2.length : Int) : Int) < ((t106.length : Int) : Int) := zT zv; obtain ⟨go32, co32, eo32, gb32, gl32, cl32, HG32⟩ := Kd.R_form HO108.out (by omega); (first | cases eo32 | (injection eo32 with ea_ en_ ec_; (first | subst ea_ | (injection ea_ with ea_; subst ea_)); subst ec_; clear en_)); have GB32 := zM gb32; have GG32 := zM HG32; clear gb32 gl32 HG32; have HMgo32 := zM (show (P2_ go32 ∨ w.heap.size ≤ go32) from (HO108.out.1 _ rfl)); obtain ⟨ce32, hcl32, hM32, hcc32, hfr32⟩ := Kd.R_elem HO108.out z33 ((l2.length : Int) : Int) p32 q32; obtain rfl := k33_openM hM32; have hx32_0 : w35.cell? ⟨go32, ((l2.length : Int) : Int).toNat * 2, none⟩ = some (.string ((rd_T33 t106 (l2.length : Int)).f0)) := hcc32 0 _ rfl; have hx32_1 : w35.cell? ⟨go32, ((l2.length : Int) : Int).toNat * 2 + 1, none⟩ = some (.int .i64 ((rd_T33 t106 (l2.length : Int)).f1)) := hcc32 1 _ rfl; have hf32_0 : w35.frozen? ⟨go32, ((l2.length : Int) : Int).toNat * 2, none⟩ = false := hfr32 0; have hf32_1 : w35.frozen? ⟨go32, ((l2.length : Int) : Int).toNat * 2 + 1, none⟩ = false := hfr32 1; clear hcl32 hcc32 hfr32 hM32; replace p32 := eq_true p32; replace q32 := eq_true q32; have HX36 := zM (show Kd.R k33 33 w35 w0.heap.size (fun k_ => (P2_ k_ ∨ w.heap.size ≤ k_)) (.slice (some ⟨go32, 0, none⟩) t106.length co32) t106 from (zr HO108.out)); obtain ⟨ce36, hcl36, hM36, hcc36, hfr36⟩ := Kd.R_elem HX36.out z33 ((l2.length : Int) : Int) (zT zv) (by have h_ : ((l2.length : Int) : Int) < ((t106.length : Int) : Int) := zT zv; first | exact h_ | (have e_ := (Kd.R_reads' HO108.out).1; omega) | simpa using h_); obtain rfl := k33_openM hM36; have HP36 := Kd.R_seg HX36.out ((l2.length : Int) : Int) (zT zv) (by have h_ : ((l2.length : Int) : Int) < ((t106.length : Int) : Int) := zT zv; first | exact h_ | (have e_ := (Kd.R_reads' HO108.out).1; omega) | simpa using h_) (seg := [.int .i64 x13_3]) (j := 1) hcl36 hcc36 (show 2 ≤ 2 from by decide) (x' := (⟨(rd_T33 t106 (l2.length : Int)).f0, x13_3⟩ : S33)) (k33_mkM _ _ _ (⟨(rd_T33 t106 (l2.length : Int)).f0, x13_3⟩ : S33) ) (fun _ hk => hk); have hx36_1 := hcc36 1 _ rfl; (try simp only [show (k33).sz = 2 from rfl, Nat.mul_one, Nat.add_zero] at hx36_1); have hf36_1 := hfr36 1; (try simp only [show (k33).sz = 2 from rfl, Nat.mul_one, Nat.add_zero] at hf36_1); (try simp only [Int.toNat_natCast] at hf32_0); (try simp only [Int.toNat_natCast] at hf32_1); (try simp only [Int.toNat_natCast] at hf36_1); (try simp only [Int.toNat_natCast] at hx32_0); (try simp only [Int.toNat_natCast] at hx32_1); (try simp only [Int.toNat_natCast] at hx36_1); clear hcl36 hcc36 hfr36 hM36) | ((with_reducible refine gate_store (t := 3) (p := 88) rfl ?_); refine store_event (t := 3) (p := 88) (v := ?vo_w37) (w1 := (w35.setCell ⟨go32, ((l2.length : Int) : Int).toNat * 2 + 1, none⟩ (.int .i64 x13_3))) ?hg ?ho ?hn ?hr ?_; (case ho => rfl); (case hg => rfl); (case hn => rfl); (case hr => first | (go_simp; done) | (go_simp; rfl)); intro w37 hw; have hg : w35.grownBy w37 (some go32) := (by rw [hw]; exact HP36.2); have hp_ : Kd.R k33 33 w37 w0.heap.size (fun k_ => (P2_ k_ ∨ w.heap.size ≤ k_)) (.slice (some ⟨go32, 0, none⟩) t106.length co32) y111 := (by rw [hw, Ny111.out]; exact HP36.1); clear HP36; replace HB := zM ((by rw [hw]; exact below_set (HB.out) GB32.out : Below w0.heap.size w0 w37)); replace HK := zM (Kept.of_grown (S := (fun k_ => P2_ k_)) hg (zf) (fun k_ e_ => (HO108.out.1 k_ e_))); replace HO108 := zM (hp_); clear hg hw hp_))
                   (try simp only [Act.put, List.setIfInBounds_toArray, List.set_cons_zero, List.set_cons_succ])
                   go_cut [99] (fun v99 wc => ∃ (kq : Nat) (x99_32 : Bool), v99 = .bool x99_32 ∧ Aside0 (aumbryref04_Read.j4 kq a0 y111 t109 (l2.length : Int) x13_3 x99_32 = some (r1, r2, r3)) ∧ Aside0 (kq ≤ k3) ∧ Aside0 (Kd.R k33 33 wc w0.heap.size (fun k_ => (P2_ k_ ∨ w.heap.size ≤ k_)) (.slice (some ⟨go32, 0, none⟩) t106.length co32) y111) ∧ Aside0 (Kept w wc (fun k_ => P2_ k_)) ∧ Aside0 (Below w0.heap.size w0 wc))
                   case first =>
                    have H := HC33.out
                    clear HC33
                    by_cases c38 : t109 < (a0.size : Int)
                    ·
                     rw [if_pos c38] at H
                     have c38b0 : decide (t109 < (a0.size : Int)) = true := zQ c38
                     clear c38
                     (first | rw [c38b0] | (simp only [i64_w, i32_w]; rw [c38b0]) | skip)
                     by_cases c39 : 0 ≤ t109
                     ·
                      rw [if_pos c39] at H
                      have c39b0 : decide (0 ≤ t109) = true := zQ c39
                      clear c39
                      have H' := zM H
                      clear H
                      have p40 : 0 ≤ (t109 : Int) := zT zv
                      have q40 : t109 < (a0.size : Int) := zT zv
                      have hx40 := bt_at a0 t109
                      replace p40 := eq_true p40
                      replace q40 := eq_true q40
                      go_wp2
                      go_meet
                      case rel => exact ⟨_, (((bt a0 t109) == 41)), zy, H', ⟨by have := HJ3.out; have := HJ18.out; have := HK3.out; first | omega | exact Nat.le_refl _⟩, ⟨zr HO108.out⟩, ⟨zf⟩, ⟨zb⟩⟩
                     ·
                      rw [if_neg c39] at H
                      exact absurd H (by simp)
                    ·
                     rw [if_neg c38] at H
                     have c38b0 : decide (t109 < (a0.size : Int)) = false := zR c38
                     clear c38
                     (first | rw [c38b0] | (simp only [i64_w, i32_w]; rw [c38b0]) | skip)
                     have H' := zM H
                     clear H
                     go_wp2
                     go_meet
                     case rel => exact ⟨_, (false), zy, H', ⟨by have := HJ3.out; have := HJ18.out; have := HK3.out; first | omega | exact Nat.le_refl _⟩, ⟨zr HO108.out⟩, ⟨zf⟩, ⟨zb⟩⟩
                   case rest =>
                    clear HC33
                    try clear c1
                    try clear c2
                    try clear p2
                    try clear q2
                    try clear hx2
                    try clear c3
                    try clear p3
                    try clear q3
                    try clear hx3
                    try clear hf3
                    try clear p4
                    try clear q4
                    try clear hx4
                    try clear c5
                    try clear c5b0
                    try clear c6
                    try clear c6b0
                    try clear p6
                    try clear p7
                    try clear q7
                    try clear hx7
                    try clear c9
                    try clear c10
                    try clear c10b0
                    try clear c10b1
                    try clear c11
                    try clear c11b0
                    try clear c11b1
                    try clear c12
                    try clear c12b0
                    try clear c12b1
                    try clear c13
                    try clear c13b0
                    try clear c13b1
                    try clear c15
                    try clear c15b0
                    try clear c15b1
                    try clear c16
                    try clear c16b0
                    try clear c16b1
                    try clear c18
                    try clear c22
                    try clear c22b0
                    try clear c22b1
                    try clear c23
                    try clear c23b0
                    try clear c24
                    try clear c24b0
                    try clear p25
                    try clear q25
                    try clear hx25
                    try clear c26
                    try clear c27
                    try clear c27b0
                    try clear c27b1
                    try clear c29
                    try clear c29b0
                    try clear c29b1
                    try clear c30
                    try clear c30b0
                    try clear c30b1
                    try clear c31
                    try clear c31b0
                    try clear c31b1
                    try clear c32
                    try clear p32
                    try clear q32
                    try clear hx32
                    try clear hf32
                    try clear c36
                    try clear hx36
                    try clear hf36
                    try clear c38
                    try clear c38b0
                    try clear c39
                    try clear c39b0
                    try clear p40
                    try clear q40
                    try clear hx40
                    try clear hx32_0
                    try clear hx32_1
                    try clear hx36_1
                    try clear p2
                    try clear p25
                    try clear p32
                    try clear p40
                    try clear p6
                    try clear p7
                    try clear q2
                    try clear q25
                    try clear q32
                    try clear q40
                    try clear q7
                    obtain ⟨kq, x99_32, rfl, HA, HJ32, HO_2, HK, HB⟩ := hcut
                    have hl2_32 := (Kd.R_reads' HO_2.out).1
                    rw [hl2_32] at HO_2
                    (try simp only [hl2_32])
                    cases kq with
                    | zero => exact absurd HA.out (by simp [aumbryref04_Read.j4])
                    | succ kj32 =>
                     have H := HA.out
                     clear HA
                     simp only [aumbryref04_Read.j4] at H
                     by_cases c41 : x99_32 = true
                     ·
                      subst c41
                      rw [if_pos rfl] at H
                      simp only [Option.some.injEq, Prod.mk.injEq] at H
                      obtain ⟨rfl, rfl, rfl⟩ := H
                      go_wp2
                      go_ret3
                      exact ⟨_, zw, zr HO_2.out, zb, zf⟩
                     ·
                      replace c41 := zI c41
                      subst c41
                      rw [if_neg (show ¬ (false = true) by decide)] at H
                      have HC42 := zM H
                      clear H
                      go_upto_region 28 with (fail)
                      go_cut [112] (fun v112 wc => ∃ (kq : Nat) (x112_41 : Bool), v112 = .bool x112_41 ∧ Aside0 (aumbryref04_Read.j5 kq a0 y111 t109 (l2.length : Int) x13_3 x112_41 = some (r1, r2, r3)) ∧ Aside0 (kq ≤ kj32) ∧ Aside0 (Kd.R k33 33 wc w0.heap.size (fun k_ => (P2_ k_ ∨ w.heap.size ≤ k_)) (.slice (some ⟨go32, 0, none⟩) y111.length co32) y111) ∧ Aside0 (Kept w wc (fun k_ => P2_ k_)) ∧ Aside0 (Below w0.heap.size w0 wc))
                      case first =>
                       have H := HC42.out
                       clear HC42
                       by_cases c43 : t109 = (a0.size : Int)
                       ·
                        rw [if_pos c43] at H
                        have c43b0 : (t109 == (a0.size : Int)) = true := zG c43
                        have c43b1 : (t109 != (a0.size : Int)) = false := zH c43
                        clear c43
                        (first | rw [c43b0] | (simp only [i64_w, i32_w]; rw [c43b0]) | skip)
                        have H' := zM H
                        clear H
                        go_wp2
                        go_meet
                        case rel => exact ⟨_, (true), zy, H', ⟨by have := HJ3.out; have := HJ18.out; have := HK3.out; have := HJ32.out; first | omega | exact Nat.le_refl _⟩, ⟨by (try simp only [hl2_32]); (with_reducible repeat (first | apply Kd.R_alloc | apply Kd.R_drewN | apply Kd.R_drew)); exact HO_2.out⟩, ⟨zf⟩, ⟨zb⟩⟩
                       ·
                        rw [if_neg c43] at H
                        have c43b0 : (t109 == (a0.size : Int)) = false := zE c43
                        have c43b1 : (t109 != (a0.size : Int)) = true := zF c43
                        (first | rw [c43b0] | (simp only [i64_w, i32_w]; rw [c43b0]) | skip)
                        by_cases c44 : 0 ≤ t109
                        ·
                         rw [if_pos c44] at H
                         have c44b0 : decide (0 ≤ t109) = true := zQ c44
                         clear c44
                         by_cases c45 : t109 < (a0.size : Int)
                         ·
                          rw [if_pos c45] at H
                          have c45b0 : decide (t109 < (a0.size : Int)) = true := zQ c45
                          clear c45
                          have H' := zM H
                          clear H
                          have p46 : 0 ≤ (t109 : Int) := zT zv
                          have q46 : t109 < (a0.size : Int) := zT zv
                          have hx46 := bt_at a0 t109
                          replace p46 := eq_true p46
                          replace q46 := eq_true q46
                          go_wp2
                          go_meet
                          case rel => exact ⟨_, (((bt a0 t109) != 44)), zy, H', ⟨by have := HJ3.out; have := HJ18.out; have := HK3.out; have := HJ32.out; first | omega | exact Nat.le_refl _⟩, ⟨by (try simp only [hl2_32]); (with_reducible repeat (first | apply Kd.R_alloc | apply Kd.R_drewN | apply Kd.R_drew)); exact HO_2.out⟩, ⟨zf⟩, ⟨zb⟩⟩
                         ·
                          rw [if_neg c45] at H
                          exact absurd H (by simp)
                        ·
                         rw [if_neg c44] at H
                         exact absurd H (by simp)
                      case rest =>
                       clear HC42
                       try clear c1
                       try clear c2
                       try clear p2
                       try clear q2
                       try clear hx2
                       try clear c3
                       try clear p3
                       try clear q3
                       try clear hx3
                       try clear hf3
                       try clear c4
                       try clear p4
                       try clear q4
                       try clear hx4
                       try clear c5
                       try clear c5b0
                       try clear c6
                       try clear c6b0
                       try clear p6
                       try clear p7
                       try clear q7
                       try clear hx7
                       try clear c9
                       try clear c10
                       try clear c10b0
                       try clear c10b1
                       try clear c11
                       try clear c11b0
                       try clear c11b1
                       try clear c12
                       try clear c12b0
                       try clear c12b1
                       try clear c13
                       try clear c13b0
                       try clear c13b1
                       try clear c15
                       try clear c15b0
                       try clear c15b1
                       try clear c16
                       try clear c16b0
                       try clear c16b1
                       try clear c18
                       try clear c22
                       try clear c22b0
                       try clear c22b1
                       try clear c23
                       try clear c23b0
                       try clear c24
                       try clear c24b0
                       try clear p25
                       try clear q25
                       try clear hx25
                       try clear c26
                       try clear c27
                       try clear c27b0
                       try clear c27b1
                       try clear c29
                       try clear c29b0
                       try clear c29b1
                       try clear c30
                       try clear c30b0
                       try clear c30b1
                       try clear c31
                       try clear c31b0
                       try clear c31b1
                       try clear c32
                       try clear p32
                       try clear q32
                       try clear hx32
                       try clear hf32
                       try clear c36
                       try clear hx36
                       try clear hf36
                       try clear c38
                       try clear c38b0
                       try clear c39
                       try clear c39b0
                       try clear p40
                       try clear q40
                       try clear hx40
                       try clear c41
                       try clear c43
                       try clear c43b0
                       try clear c43b1
                       try clear c44
                       try clear c44b0
                       try clear c45
                       try clear c45b0
                       try clear p46
                       try clear q46
                       try clear hx46
                       try clear hx32_0
                       try clear hx32_1
                       try clear hx36_1
                       try clear p2
                       try clear p25
                       try clear p3
                       try clear p32
                       try clear p4
                       try clear p40
                       try clear p46
                       try clear p6
                       try clear p7
                       try clear q2
                       try clear q25
                       try clear q3
                       try clear q32
                       try clear q4
                       try clear q40
                       try clear q46
                       try clear q7
                       obtain ⟨kq, x112_41, rfl, HA, HJ41, HO_2, HK, HB⟩ := hcut
                       cases kq with
                       | zero => exact absurd HA.out (by simp [aumbryref04_Read.j5])
                       | succ kj41 =>
                        have H := HA.out
                        clear HA
                        simp only [aumbryref04_Read.j5] at H
                        by_cases c47 : x112_41 = true
                        ·
                         subst c47
                         rw [if_pos rfl] at H
                         simp only [Option.some.injEq, Prod.mk.injEq] at H
                         obtain ⟨rfl, rfl, rfl⟩ := H
                         go_wp2
                         go_ret3
                         exact ⟨_, zw, by first | exact Kd.R_nil _ _ _ _ _ | exact Kd.N_nil _ _ _ _ _ | exact Kd.V_nil _ _ _ _ _ | exact Kd.Q_nil _ _ _ _ _ | exact Kd.S_nil _ _ _ _ _, zb, zf⟩
                        ·
                         replace c47 := zI c47
                         subst c47
                         rw [if_neg (show ¬ (false = true) by decide)] at H
                         by_cases c48 : x13_3 = 4
                         ·
                          rw [if_pos c48] at H
                          have c48b0 : (x13_3 == 4) = true := zG c48
                          have c48b1 : (x13_3 != 4) = false := zH c48
                          clear c48
                          simp only [Option.some.injEq, Prod.mk.injEq] at H
                          obtain ⟨rfl, rfl, rfl⟩ := H
                          go_wp2
                          go_ret3
                          exact ⟨_, zw, by first | exact Kd.R_nil _ _ _ _ _ | exact Kd.N_nil _ _ _ _ _ | exact Kd.V_nil _ _ _ _ _ | exact Kd.Q_nil _ _ _ _ _ | exact Kd.S_nil _ _ _ _ _, zb, zf⟩
                         ·
                          rw [if_neg c48] at H
                          have c48b0 : (x13_3 == 4) = false := zE c48
                          have c48b1 : (x13_3 != 4) = true := zF c48
                          have H' := zM H
                          clear H
                          go_wp2
                          (try simp only [← hl2_32])
                          go_roundg kj41
                          case measure => have := HJ3.out; have := HJ18.out; have := HK3.out; have := HJ32.out; have := HJ41.out; omega
                          case rel => exact ⟨(y111), (t109), (wrap64 (x13_3 + 1)), zy, zy, H', ⟨by have := HJ3.out; have := HJ18.out; have := HK3.out; have := HJ32.out; have := HJ41.out; omega⟩, ⟨by (try simp only [hl2_32]); (with_reducible repeat (first | apply Kd.R_alloc | apply Kd.R_drewN | apply Kd.R_drew)); exact HO_2.out⟩, ⟨zf⟩, ⟨zb⟩⟩
                  ·
                   rw [if_neg c31] at H
                   exact absurd H (by simp)
                 ·
                  rw [if_neg c30] at H
                  exact absurd H (by simp)
                ·
                 rw [if_neg c29] at H
                 have c29b0 : (t110 == 0) = false := zE c29
                 have c29b1 : (t110 != 0) = true := zF c29
                 simp only [Option.some.injEq, Prod.mk.injEq] at H
                 obtain ⟨rfl, rfl, rfl⟩ := H
                 obtain ⟨Ao49, co49, eo49⟩ := Kd.R_slice HO_2.out
                 subst eo49
                 go_wp2_with (first | ((with_reducible refine gate_callee (f := 66) rfl ?_); refine goesL_ (some 75) rfl rfl Tryd.func66 (by kernel_rfl) rfl #[.string a0, .int .i64 (wrap64 (x9_3 + 1)), .slice Ao49 x2_3.length co49] rfl zl ?_; (with_reducible refine (ih k3 (by have := HJ3.out; have := HJ18.out; have := HK3.out; omega) a0 (wrap64 (x9_3 + 1)) (fun k_ => some k_ = (.slice Ao49 x2_3.length co49 : Value).ownBlock) (.slice Ao49 x2_3.length co49) x2_3 t106 t109 t110 w0 _ ?side1 ?side2 A28.out).mono ?_); (case side1 => exact zb); (case side2 => exact Kd.R_tight rfl HO_2.out); rintro e w50 ⟨v107, rfl, ho0, hb, hkp⟩; refine ⟨_, rfl, ?_⟩; have HO108 := zM (Kd.R_mono (ok' := fun k_ => (P2_ k_ ∨ w.heap.size ≤ k_)) ho0 (fun k_ hk_ => Or.elim hk_ (fun hs_ => (HO_2.out.1 k_ (hs_).symm)) (fun hn_ => (.inr (Nat.le_trans (by first | exact HK.out.1 | exact (show Kept w _ (fun k_ => P2_ k_) from zf).1) hn_))))); replace HK := zM (Kept.then_ (S := (fun k_ => P2_ k_)) (zf) hkp (fun k_ hs_ => (fun e_ => (HO_2.out.1 k_ e_.symm)) hs_)); replace HB := zM (hb); clear HO_2; (try clear hb); (try clear hkp); (try clear ho0)))
                 go_ret3
                 exact ⟨_, zw, by first | exact Kd.R_nil _ _ _ _ _ | exact Kd.N_nil _ _ _ _ _ | exact Kd.V_nil _ _ _ _ _ | exact Kd.Q_nil _ _ _ _ _ | exact Kd.S_nil _ _ _ _ _, zb, zf⟩
         ·
          rw [if_neg c18] at H
          exact absurd H (by simp)
     ·
      rw [if_neg c12] at H
      exact absurd H (by simp)
    ·
     rw [if_neg c11] at H
     exact absurd H (by simp)
   ·
    rw [if_neg c10] at H
    exact absurd H (by simp)


-- ==== PF42

def aumbryref04_Parse.j0 : Nat → List (S33) → Int → Int → Bool → Option ((List (S33)) × Int × Int)
 | 0, _, _, _, _ => none
 | k + 1, x5, x6, x7, x24 => if x24 = true then (some (([] : List (S33)), x6, 3)) else (if x7 = 0 then (some (x5, 0, 0)) else (some (([] : List (S33)), x6, x7)))
def aumbryref04_Parse.f (k : Nat) (a0 : ByteArray) : Option ((List (S33)) × Int × Int) := if (a0.size : Int) > 1024 then (some (([] : List (S33)), 0, 2)) else ((aumbryref04_Read.f k a0 0 ([] : List (S33))).bind fun bt101 => (if bt101.2.2 = 0 then (aumbryref04_Parse.j0 k bt101.1 bt101.2.1 bt101.2.2 (decide (bt101.2.1 < (a0.size : Int)))) else (aumbryref04_Parse.j0 k bt101.1 bt101.2.1 bt101.2.2 false)))
theorem aumbryref04_Parse.mono_l : ∀ k, (∀ y0 y1 y2 y3, LeO (aumbryref04_Parse.j0 k y0 y1 y2 y3) (aumbryref04_Parse.j0 (k + 1) y0 y1 y2 y3))
 | 0 => fun _ _ _ _ r h => by simp [aumbryref04_Parse.j0] at h
 | k + 1 => by
  have ih0 := aumbryref04_Parse.mono_l k
  ·
   intro y0 y1 y2 y3
   unfold aumbryref04_Parse.j0
   repeat' first
   | (with_reducible exact ih0 _ _ _ _)
   | (with_reducible exact aumbryref04_Read.mono _ _ _ _)
   | (with_reducible exact LeO.refl _)
   | (with_reducible exact LeO.none _)
   | (with_reducible refine LeO.ite ?_ ?_)
   | (with_reducible refine LeO.bind ?_ (fun _ => ?_))
theorem aumbryref04_Parse.mono : ∀ a0 k, LeO (aumbryref04_Parse.f k a0) (aumbryref04_Parse.f (k + 1) a0) := by
 intro a0 k
 have ih0 := aumbryref04_Parse.mono_l k
 unfold aumbryref04_Parse.f
 repeat' first
  | (with_reducible exact ih0 _ _ _ _)
  | (with_reducible exact aumbryref04_Read.mono _ _ _ _)
  | (with_reducible exact LeO.refl _)
  | (with_reducible exact LeO.none _)
  | (with_reducible refine LeO.ite ?_ ?_)
  | (with_reducible refine LeO.bind ?_ (fun _ => ?_))
theorem aumbryref04_Parse.calls (k : Nat) (a0 : ByteArray) (r1 : List (S33)) (r2 : Int) (r3 : Int) (w : World) (h : aumbryref04_Parse.f k a0 = some (r1, r2, r3)) :
 Calls Tryd.prog 42 #[.string a0] w fun e w' => ∃ v0_ : Value, e = .returned (.tuple #[v0_, .int .i64 r2, .int .i64 r3]) ∧ Kd.R k33 33 w' w.heap.size (fun _ => True) v0_ r1 ∧ Below w.heap.size w w' := by
 have HB := zM (Below.refl w.heap.size w)
 have H : (if (a0.size : Int) > 1024 then (some (([] : List (S33)), 0, 2)) else ((aumbryref04_Read.f k a0 0 ([] : List (S33))).bind fun bt101 => (if bt101.2.2 = 0 then (aumbryref04_Parse.j0 k bt101.1 bt101.2.1 bt101.2.2 (decide (bt101.2.1 < (a0.size : Int)))) else (aumbryref04_Parse.j0 k bt101.1 bt101.2.1 bt101.2.2 false)))) = some (r1, r2, r3) := h
 clear h
 by_cases c2 : (a0.size : Int) > 1024
 ·
  rw [if_pos c2] at H
  have c2b0 : decide (1024 < (a0.size : Int)) = true := zQ c2
  have c2b1 : decide (1024 < a0.size) = true := zQ (by omega)
  clear c2
  simp only [Option.some.injEq, Prod.mk.injEq] at H
  obtain ⟨rfl, rfl, rfl⟩ := H
  go_enter Tryd.func42, Tryd.ntmps42
  go_wp2
  go_ret3
  exact ⟨_, zw, by first | exact Kd.R_nil _ _ _ _ _ | exact Kd.N_nil _ _ _ _ _ | exact Kd.V_nil _ _ _ _ _ | exact Kd.Q_nil _ _ _ _ _ | exact Kd.S_nil _ _ _ _ _, zb⟩
 ·
  rw [if_neg c2] at H
  have c2b0 : decide (1024 < (a0.size : Int)) = false := zR c2
  have c2b1 : decide (1024 < a0.size) = false := zR (by omega)
  clear c2
  replace H := zB H
  obtain ⟨⟨t101, t104, t105⟩, A30, H⟩ := H
  try dsimp only at H
  have A3 := zM A30
  clear A30
  have HC4 := zM H
  clear H
  go_enter Tryd.func42, Tryd.ntmps42
  go_upto_region 4 with (first | ((with_reducible refine gate_callee (f := 66) rfl ?_); refine goesL_ (some 13) rfl rfl Tryd.func66 (by kernel_rfl) rfl #[.string a0, .int .i64 0, .slice none 0 0] rfl zl ?_; (refine (aumbryref04_Read.calls k a0 0 (fun k_ => some k_ = (.slice none 0 0 : Value).ownBlock) (.slice none 0 0) ([] : List (S33)) t101 t104 t105 w _ ?side1 ?side2 A3.out).mono ?_); (case side1 => exact zb); (case side2 => exact Kd.R_nil _ _ _ _ _); rintro e w5 ⟨v102, rfl, ho0, hb, hkp⟩; refine ⟨_, rfl, ?_⟩; have HO103 := zM (Kd.R_mono (ok' := fun k_ => True) ho0 (fun k_ hk_ => trivial)); replace HB := zM (hb); (try clear hb); (try clear hkp); (try clear ho0)))
  (try simp only [Act.put, List.setIfInBounds_toArray, List.set_cons_zero, List.set_cons_succ])
  go_cut [24] (fun v24 wc => ∃ (kq : Nat) (x24_3 : Bool), v24 = .bool x24_3 ∧ Aside0 (aumbryref04_Parse.j0 kq t101 t104 t105 x24_3 = some (r1, r2, r3)) ∧ Aside0 (kq ≤ k) ∧ Aside0 (Kd.R k33 33 wc w.heap.size (fun _ => True) v102 t101) ∧ Aside0 (Below w.heap.size w wc))
  case first =>
   have H := HC4.out
   clear HC4
   by_cases c6 : t105 = 0
   ·
    rw [if_pos c6] at H
    have c6b0 : (t105 == 0) = true := zG c6
    have c6b1 : (t105 != 0) = false := zH c6
    clear c6
    (first | rw [c6b0] | (simp only [i64_w, i32_w]; rw [c6b0]) | skip)
    have H' := zM H
    clear H
    go_wp2
    go_meet
    case rel => exact ⟨_, (decide (t104 < (a0.size : Int))), zy, H', ⟨by first | omega | exact Nat.le_refl _⟩, ⟨zr HO103.out⟩, ⟨zb⟩⟩
   ·
    rw [if_neg c6] at H
    have c6b0 : (t105 == 0) = false := zE c6
    have c6b1 : (t105 != 0) = true := zF c6
    (first | rw [c6b0] | (simp only [i64_w, i32_w]; rw [c6b0]) | skip)
    have H' := zM H
    clear H
    go_wp2
    go_meet
    case rel => exact ⟨_, (false), zy, H', ⟨by first | omega | exact Nat.le_refl _⟩, ⟨zr HO103.out⟩, ⟨zb⟩⟩
  case rest =>
   clear HC4
   try clear c2
   try clear c2b0
   try clear c2b1
   try clear p2
   try clear c4
   try clear c6
   try clear c6b0
   try clear c6b1
   obtain ⟨kq, x24_3, rfl, HA, HJ3, HO_5, HB⟩ := hcut
   cases kq with
   | zero => exact absurd HA.out (by simp [aumbryref04_Parse.j0])
   | succ kj3 =>
    have H := HA.out
    clear HA
    simp only [aumbryref04_Parse.j0] at H
    by_cases c7 : x24_3 = true
    ·
     subst c7
     rw [if_pos rfl] at H
     simp only [Option.some.injEq, Prod.mk.injEq] at H
     obtain ⟨rfl, rfl, rfl⟩ := H
     go_wp2
     go_ret3
     exact ⟨_, zw, by first | exact Kd.R_nil _ _ _ _ _ | exact Kd.N_nil _ _ _ _ _ | exact Kd.V_nil _ _ _ _ _ | exact Kd.Q_nil _ _ _ _ _ | exact Kd.S_nil _ _ _ _ _, zb⟩
    ·
     replace c7 := zI c7
     subst c7
     rw [if_neg (show ¬ (false = true) by decide)] at H
     by_cases c8 : t105 = 0
     ·
      rw [if_pos c8] at H
      have c8b0 : (t105 == 0) = true := zG c8
      have c8b1 : (t105 != 0) = false := zH c8
      clear c8
      simp only [Option.some.injEq, Prod.mk.injEq] at H
      obtain ⟨rfl, rfl, rfl⟩ := H
      go_wp2
      go_ret3
      exact ⟨_, zw, zr HO_5.out, zb⟩
     ·
      rw [if_neg c8] at H
      have c8b0 : (t105 == 0) = false := zE c8
      have c8b1 : (t105 != 0) = true := zF c8
      simp only [Option.some.injEq, Prod.mk.injEq] at H
      obtain ⟨rfl, rfl, rfl⟩ := H
      go_wp2
      go_ret3
      exact ⟨_, zw, by first | exact Kd.R_nil _ _ _ _ _ | exact Kd.N_nil _ _ _ _ _ | exact Kd.V_nil _ _ _ _ _ | exact Kd.Q_nil _ _ _ _ _ | exact Kd.S_nil _ _ _ _ _, zb⟩


-- ==== PF16

def aumbryref06_Parse.f (k : Nat) (a0 : ByteArray) (a1 : ByteArray) : Option (Int × (List (S33)) × (List (S33)) × Int) := (aumbryref04_Parse.f k a0).bind fun bt102 => (if bt102.2.2 = 0 then ((aumbryref04_Parse.f k a1).bind fun bt107 => (if bt107.2.2 = 0 then ((aumbryref06_Check.f k 0 bt102.1 bt107.1).bind fun t113 => (if t113 = 0 then (some (0, bt102.1, bt107.1, 0)) else (some (0, ([] : List (S33)), ([] : List (S33)), t113)))) else (some (0, ([] : List (S33)), ([] : List (S33)), bt107.2.2)))) else (some (0, ([] : List (S33)), ([] : List (S33)), bt102.2.2)))
theorem aumbryref06_Parse.mono : ∀ a0 a1 k, LeO (aumbryref06_Parse.f k a0 a1) (aumbryref06_Parse.f (k + 1) a0 a1) := by
 intro a0 a1 k
 unfold aumbryref06_Parse.f
 repeat' first
  | (with_reducible exact aumbryref04_Parse.mono _ _)
  | (with_reducible exact aumbryref06_Check.mono _ _ _ _)
  | (with_reducible exact LeO.refl _)
  | (with_reducible exact LeO.none _)
  | (with_reducible refine LeO.ite ?_ ?_)
  | (with_reducible refine LeO.bind ?_ (fun _ => ?_))
theorem aumbryref06_Parse.calls (k : Nat) (a0 : ByteArray) (a1 : ByteArray) (r1 : Int) (r2 : List (S33)) (r3 : List (S33)) (r4 : Int) (w : World) (h : aumbryref06_Parse.f k a0 a1 = some (r1, r2, r3, r4)) :
 Calls Tryd.prog 16 #[.string a0, .string a1] w fun e w' => ∃ v1_ v2_ : Value, e = .returned (.tuple #[.agg #[.int .i64 r1, v1_, v2_], .int .i64 r4]) ∧ Kd.R k33 33 w' w.heap.size (fun k_ => some k_ ≠ (v2_ : Value).ownBlock) v1_ r2 ∧ Kd.R k33 33 w' w.heap.size (fun k_ => some k_ ≠ (v1_ : Value).ownBlock) v2_ r3 ∧ Below w.heap.size w w' := by
 have hu25 := Tryd.underlying25
 have HB := zM (Below.refl w.heap.size w)
 have H : ((aumbryref04_Parse.f k a0).bind fun bt102 => (if bt102.2.2 = 0 then ((aumbryref04_Parse.f k a1).bind fun bt107 => (if bt107.2.2 = 0 then ((aumbryref06_Check.f k 0 bt102.1 bt107.1).bind fun t113 => (if t113 = 0 then (some (0, bt102.1, bt107.1, 0)) else (some (0, ([] : List (S33)), ([] : List (S33)), t113)))) else (some (0, ([] : List (S33)), ([] : List (S33)), bt107.2.2)))) else (some (0, ([] : List (S33)), ([] : List (S33)), bt102.2.2)))) = some (r1, r2, r3, r4) := h
 clear h
 replace H := zB H
 obtain ⟨⟨t102, t103, t104⟩, A30, H⟩ := H
 try dsimp only at H
 have A3 := zM A30
 clear A30
 by_cases c4 : t104 = 0
 ·
  rw [if_pos c4] at H
  have c4b0 : (t104 == 0) = true := zG c4
  have c4b1 : (t104 != 0) = false := zH c4
  clear c4
  replace H := zB H
  obtain ⟨⟨t107, t108, t109⟩, A50, H⟩ := H
  try dsimp only at H
  have A5 := zM A50
  clear A50
  by_cases c6 : t109 = 0
  ·
   rw [if_pos c6] at H
   have c6b0 : (t109 == 0) = true := zG c6
   have c6b1 : (t109 != 0) = false := zH c6
   clear c6
   replace H := zB H
   obtain ⟨t113, A70, H⟩ := H
   try dsimp only at H
   have A7 := zM A70
   clear A70
   by_cases c8 : t113 = 0
   ·
    rw [if_pos c8] at H
    have c8b0 : (t113 == 0) = true := zG c8
    have c8b1 : (t113 != 0) = false := zH c8
    clear c8
    simp only [Option.some.injEq, Prod.mk.injEq] at H
    obtain ⟨rfl, rfl, rfl, rfl⟩ := H
    go_enter Tryd.func16, Tryd.ntmps16
    go_wp2_with (first | ((with_reducible refine gate_dst (N := 4) rfl ?_); refine box_event ?hg (N := 4) ?hd (cs := #[.int .i64 0, .slice none 0 0, .slice none 0 0]) (t := 25) ?hr ?_; (case hd => rfl); (case hg => rfl); (case hr => first | (go_simp; done) | (go_simp; rfl)); intro gb101 hg w9 hbox hb; have BK101 := zM (hbox); have GW101 := zM (zh hg : w.heap.size ≤ gb101); have GE101 := zM (zh hg : w.heap.size ≤ gb101); replace HB := zM (below_step zb hb); clear hb hbox hg) | ((with_reducible refine gate_callee (f := 42) rfl ?_); refine goesL_ (some 16) rfl rfl Tryd.func42 (by kernel_rfl) rfl #[.string a0] rfl zl ?_; (with_reducible refine (aumbryref04_Parse.calls k a0 t102 t103 t104 _ A3.out).mono ?_); rintro e w10 ⟨v105, rfl, ho0, hb⟩; refine ⟨_, rfl, ?_⟩; have HO106 := zM (Kd.R_lower ho0 (below_size zb)); replace BK101 := zM (blk_below (zk BK101.out) hb); replace HB := zM (below_step zb hb); (try clear hb); (try clear ho0)) | ((with_reducible refine gate_callee (f := 42) rfl ?_); refine goesL_ (some 26) rfl rfl Tryd.func42 (by kernel_rfl) rfl #[.string a1] rfl zl ?_; (with_reducible refine (aumbryref04_Parse.calls k a1 t107 t108 t109 _ A5.out).mono ?_); rintro e w11 ⟨v110, rfl, ho0, hb⟩; refine ⟨_, rfl, ?_⟩; have HO111 := zM (Kd.R_lower (Kd.R_new' ho0 (Kd.R_lt (zr HO106.out))) (below_size zb)); replace HO106 := zM (Kd.R_elder' (zr HO106.out) (Kd.R_base ho0) hb); replace BK101 := zM (blk_below (zk BK101.out) hb); replace HB := zM (below_step zb hb); (try clear hb); (try clear ho0); obtain ⟨Ao12, co12, eo12⟩ := Kd.R_slice HO111.out; subst eo12; obtain ⟨Ao13, co13, eo13⟩ := Kd.R_slice HO106.out; subst eo13) | ((with_reducible refine gate_dst (N := 12) rfl ?_); refine box_event ?hg (N := 12) ?hd (cs := #[.int .i64 0, .slice none 0 0, .slice none 0 0]) (t := 25) ?hr ?_; (case hd => rfl); (case hg => rfl); (case hr => first | (go_simp; done) | (go_simp; rfl)); intro gb112 hg w14 hbox hb; replace HO106 := zM (Kd.R_below (zr HO106.out) hb); replace HO111 := zM (Kd.R_below (zr HO111.out) hb); have BK112 := zM (hbox); have GW112 := zM (zh hg : w.heap.size ≤ gb112); have GE112 := zM (zh hg : w.heap.size ≤ gb112); replace HB := zM (below_step zb hb); have NB101_112 := zM ((by rw [hg]; exact Nat.ne_of_lt (blk_lt (zk BK101.out)) : gb101 ≠ gb112)); have NB112_101 := zM ((by rw [hg]; exact Nat.ne_of_gt (blk_lt (zk BK101.out)) : gb112 ≠ gb101)); replace BK101 := zM (blk_below (zk BK101.out) hb); clear hb hbox hg; have hnb15 := NB112_101.out; have hnc15 := NB101_112.out; have hcz16_0 : w14.cell? ⟨gb112, 0, none⟩ = some (.int .i64 0) := (zX BK112.out 0).trans rfl; have hcz16_1 : w14.cell? ⟨gb112, 1, none⟩ = some (.slice none 0 0) := (zX BK112.out 1).trans rfl; have hcz16_2 : w14.cell? ⟨gb112, 2, none⟩ = some (.slice none 0 0) := (zX BK112.out 2).trans rfl; have hfz16_0 := zY BK112.out 0; have hfz16_1 := zY BK112.out 1; have hfz16_2 := zY BK112.out 2) | ((with_reducible refine gate_callee (f := 13) rfl ?_); refine goesL_ (some 38) rfl rfl Tryd.func13 (by kernel_rfl) rfl #[.agg #[.int .i64 0, .slice Ao13 t102.length co13, .slice Ao12 t107.length co12]] rfl zl ?_; (with_reducible refine (aumbryref06_Check.calls k 0 _ _ t102 _ _ t107 t113 _ ?side1 ?side2 ?side3 ?side4 A7.out).mono ?_); (case side1 => refine (Kd.R_reads' (e := 33) (base := w.heap.size) (ok := fun k_ => (True ∧ some k_ ≠ (.slice Ao12 t107.length co12 : Value).ownBlock)) (n := t102.length) (c := co13) ?_).2.2; exact (by (with_reducible repeat (first | apply Kd.R_alloc | apply Kd.R_drewN | apply Kd.R_drew)); exact (Kd.R_mono (Kd.R_far (p := ⟨gb112, 2, none⟩) (Kd.R_far (p := ⟨gb112, 1, none⟩) (Kd.R_far (p := ⟨gb112, 0, none⟩) (Kd.R_types HO106.out BK112.out (by decide)) (fun _ hk => hk.2) (.int .i64 0)) (fun _ hk => hk.2) (.slice Ao13 t102.length co13)) (fun _ hk => hk.2) (.slice Ao12 t107.length co12)) (fun _ h_ => h_.1)))); (case side2 => exact (Kd.R_reads' HO106.out).2.1); (case side3 => refine (Kd.R_reads' (e := 33) (base := w.heap.size) (ok := fun k_ => (True ∧ some k_ ≠ (.slice Ao13 t102.length co13 : Value).ownBlock)) (n := t107.length) (c := co12) ?_).2.2; exact (by (with_reducible repeat (first | apply Kd.R_alloc | apply Kd.R_drewN | apply Kd.R_drew)); exact (Kd.R_mono (Kd.R_far (p := ⟨gb112, 2, none⟩) (Kd.R_far (p := ⟨gb112, 1, none⟩) (Kd.R_far (p := ⟨gb112, 0, none⟩) (Kd.R_types HO111.out BK112.out (by decide)) (fun _ hk => hk.2) (.int .i64 0)) (fun _ hk => hk.2) (.slice Ao13 t102.length co13)) (fun _ hk => hk.2) (.slice Ao12 t107.length co12)) (fun _ h_ => h_.1)))); (case side4 => exact (Kd.R_reads' HO111.out).2.1); rintro e w17 ⟨rfl, hb⟩; refine ⟨_, rfl, ?_⟩; replace HO106 := zM (Kd.R_below (by (with_reducible repeat (first | apply Kd.R_alloc | apply Kd.R_drewN | apply Kd.R_drew)); exact (Kd.R_mono (Kd.R_far (p := ⟨gb112, 2, none⟩) (Kd.R_far (p := ⟨gb112, 1, none⟩) (Kd.R_far (p := ⟨gb112, 0, none⟩) (Kd.R_types HO106.out BK112.out (by decide)) (fun _ hk => hk.2) (.int .i64 0)) (fun _ hk => hk.2) (.slice Ao13 t102.length co13)) (fun _ hk => hk.2) (.slice Ao12 t107.length co12)) (fun _ h_ => h_.1))) hb); replace HO111 := zM (Kd.R_below (by (with_reducible repeat (first | apply Kd.R_alloc | apply Kd.R_drewN | apply Kd.R_drew)); exact (Kd.R_mono (Kd.R_far (p := ⟨gb112, 2, none⟩) (Kd.R_far (p := ⟨gb112, 1, none⟩) (Kd.R_far (p := ⟨gb112, 0, none⟩) (Kd.R_types HO111.out BK112.out (by decide)) (fun _ hk => hk.2) (.int .i64 0)) (fun _ hk => hk.2) (.slice Ao13 t102.length co13)) (fun _ hk => hk.2) (.slice Ao12 t107.length co12)) (fun _ h_ => h_.1))) hb); replace BK101 := zM (blk_below (g := gb101) (o := .cells #[.int .i64 0, .slice none 0 0, .slice none 0 0] 25 (0, 0)) (by refine zk ?_; refine blk_far ?_ NB101_112.out _; refine zk ?_; refine blk_far ?_ NB101_112.out _; refine zk ?_; refine blk_far ?_ NB101_112.out _; refine zk ?_; exact BK101.out) hb); replace BK112 := zM (blk_below (g := gb112) (o := .cells #[.int .i64 0, .slice Ao13 t102.length co13, .slice Ao12 t107.length co12] 25 (0, 0)) (by refine zk ?_; refine blk_put (cs := #[.int .i64 0, .slice Ao13 t102.length co13, .slice none 0 0]) ?_ 2 _ rfl; refine zk ?_; refine blk_put (cs := #[.int .i64 0, .slice none 0 0, .slice none 0 0]) ?_ 1 _ rfl; refine zk ?_; refine blk_put (cs := #[.int .i64 0, .slice none 0 0, .slice none 0 0]) ?_ 0 _ rfl; refine zk ?_; exact BK112.out) hb); replace HB := zM (below_step zb hb); (try clear hb); have hcz18_0 : w17.cell? ⟨gb112, 0, none⟩ = some (.int .i64 0) := (zX BK112.out 0).trans rfl; have hcz18_1 : w17.cell? ⟨gb112, 1, none⟩ = some (.slice Ao13 t102.length co13) := (zX BK112.out 1).trans rfl; have hcz18_2 : w17.cell? ⟨gb112, 2, none⟩ = some (.slice Ao12 t107.length co12) := (zX BK112.out 2).trans rfl; have hfz18_0 := zY BK112.out 0; have hfz18_1 := zY BK112.out 1; have hfz18_2 := zY BK112.out 2; have hcz19_0 : w17.cell? ⟨gb101, 0, none⟩ = some (.int .i64 0) := (zX BK101.out 0).trans rfl; have hcz19_1 : w17.cell? ⟨gb101, 1, none⟩ = some (.slice none 0 0) := (zX BK101.out 1).trans rfl; have hcz19_2 : w17.cell? ⟨gb101, 2, none⟩ = some (.slice none 0 0) := (zX BK101.out 2).trans rfl; have hfz19_0 := zY BK101.out 0; have hfz19_1 := zY BK101.out 1; have hfz19_2 := zY BK101.out 2))
    refine bodyPost_ret (results_ct rfl _ _ gb101 25 #[.int .i64 0, .slice Ao13 t102.length co13, .slice Ao12 t107.length co12] (0, 0) _ rfl (by refine zk ?_; refine blk_put (cs := #[.int .i64 0, .slice Ao13 t102.length co13, .slice none 0 0]) ?_ 2 _ rfl; refine zk ?_; refine blk_put (cs := #[.int .i64 0, .slice none 0 0, .slice none 0 0]) ?_ 1 _ rfl; refine zk ?_; refine blk_put (cs := #[.int .i64 0, .slice none 0 0, .slice none 0 0]) ?_ 0 _ rfl; refine zk ?_; exact BK101.out) Tryd.underlying25 rfl (by kernel_rfl)) rfl ?_
    exact ⟨_, _, zw, by (with_reducible repeat (first | apply Kd.R_alloc | apply Kd.R_drewN | apply Kd.R_drew)); exact Kd.R_mono (Kd.R_far (p := ⟨gb101, 2, none⟩) (Kd.R_far (p := ⟨gb101, 1, none⟩) (Kd.R_far (p := ⟨gb101, 0, none⟩) (Kd.R_types HO106.out BK101.out (by decide)) (fun _ hk => hk.2) (.int .i64 0)) (fun _ hk => hk.2) (.slice Ao13 t102.length co13)) (fun _ hk => hk.2) (.slice Ao12 t107.length co12)) (fun _ hk => hk.1.2), by (with_reducible repeat (first | apply Kd.R_alloc | apply Kd.R_drewN | apply Kd.R_drew)); exact Kd.R_mono (Kd.R_far (p := ⟨gb101, 2, none⟩) (Kd.R_far (p := ⟨gb101, 1, none⟩) (Kd.R_far (p := ⟨gb101, 0, none⟩) (Kd.R_types HO111.out BK101.out (by decide)) (fun _ hk => hk.2) (.int .i64 0)) (fun _ hk => hk.2) (.slice Ao13 t102.length co13)) (fun _ hk => hk.2) (.slice Ao12 t107.length co12)) (fun _ hk => hk.1.2), zb⟩
   ·
    rw [if_neg c8] at H
    have c8b0 : (t113 == 0) = false := zE c8
    have c8b1 : (t113 != 0) = true := zF c8
    simp only [Option.some.injEq, Prod.mk.injEq] at H
    obtain ⟨rfl, rfl, rfl, rfl⟩ := H
    go_enter Tryd.func16, Tryd.ntmps16
    go_wp2_with (first | ((with_reducible refine gate_dst (N := 4) rfl ?_); refine box_event ?hg (N := 4) ?hd (cs := #[.int .i64 0, .slice none 0 0, .slice none 0 0]) (t := 25) ?hr ?_; (case hd => rfl); (case hg => rfl); (case hr => first | (go_simp; done) | (go_simp; rfl)); intro gb101 hg w20 hbox hb; have BK101 := zM (hbox); have GW101 := zM (zh hg : w.heap.size ≤ gb101); have GE101 := zM (zh hg : w.heap.size ≤ gb101); replace HB := zM (below_step zb hb); clear hb hbox hg) | ((with_reducible refine gate_callee (f := 42) rfl ?_); refine goesL_ (some 16) rfl rfl Tryd.func42 (by kernel_rfl) rfl #[.string a0] rfl zl ?_; (with_reducible refine (aumbryref04_Parse.calls k a0 t102 t103 t104 _ A3.out).mono ?_); rintro e w21 ⟨v105, rfl, ho0, hb⟩; refine ⟨_, rfl, ?_⟩; have HO106 := zM (Kd.R_lower ho0 (below_size zb)); replace BK101 := zM (blk_below (zk BK101.out) hb); replace HB := zM (below_step zb hb); (try clear hb); (try clear ho0)) | ((with_reducible refine gate_callee (f := 42) rfl ?_); refine goesL_ (some 26) rfl rfl Tryd.func42 (by kernel_rfl) rfl #[.string a1] rfl zl ?_; (with_reducible refine (aumbryref04_Parse.calls k a1 t107 t108 t109 _ A5.out).mono ?_); rintro e w22 ⟨v110, rfl, ho0, hb⟩; refine ⟨_, rfl, ?_⟩; have HO111 := zM (Kd.R_lower (Kd.R_new' ho0 (Kd.R_lt (zr HO106.out))) (below_size zb)); replace HO106 := zM (Kd.R_elder' (zr HO106.out) (Kd.R_base ho0) hb); replace BK101 := zM (blk_below (zk BK101.out) hb); replace HB := zM (below_step zb hb); (try clear hb); (try clear ho0); obtain ⟨Ao23, co23, eo23⟩ := Kd.R_slice HO111.out; subst eo23; obtain ⟨Ao24, co24, eo24⟩ := Kd.R_slice HO106.out; subst eo24) | ((with_reducible refine gate_dst (N := 12) rfl ?_); refine box_event ?hg (N := 12) ?hd (cs := #[.int .i64 0, .slice none 0 0, .slice none 0 0]) (t := 25) ?hr ?_; (case hd => rfl); (case hg => rfl); (case hr => first | (go_simp; done) | (go_simp; rfl)); intro gb112 hg w25 hbox hb; replace HO106 := zM (Kd.R_below (zr HO106.out) hb); replace HO111 := zM (Kd.R_below (zr HO111.out) hb); have BK112 := zM (hbox); have GW112 := zM (zh hg : w.heap.size ≤ gb112); have GE112 := zM (zh hg : w.heap.size ≤ gb112); replace HB := zM (below_step zb hb); have NB101_112 := zM ((by rw [hg]; exact Nat.ne_of_lt (blk_lt (zk BK101.out)) : gb101 ≠ gb112)); have NB112_101 := zM ((by rw [hg]; exact Nat.ne_of_gt (blk_lt (zk BK101.out)) : gb112 ≠ gb101)); replace BK101 := zM (blk_below (zk BK101.out) hb); clear hb hbox hg; have hnb26 := NB112_101.out; have hnc26 := NB101_112.out; have hcz27_0 : w25.cell? ⟨gb112, 0, none⟩ = some (.int .i64 0) := (zX BK112.out 0).trans rfl; have hcz27_1 : w25.cell? ⟨gb112, 1, none⟩ = some (.slice none 0 0) := (zX BK112.out 1).trans rfl; have hcz27_2 : w25.cell? ⟨gb112, 2, none⟩ = some (.slice none 0 0) := (zX BK112.out 2).trans rfl; have hfz27_0 := zY BK112.out 0; have hfz27_1 := zY BK112.out 1; have hfz27_2 := zY BK112.out 2) | ((with_reducible refine gate_callee (f := 13) rfl ?_); refine goesL_ (some 38) rfl rfl Tryd.func13 (by kernel_rfl) rfl #[.agg #[.int .i64 0, .slice Ao24 t102.length co24, .slice Ao23 t107.length co23]] rfl zl ?_; (with_reducible refine (aumbryref06_Check.calls k 0 _ _ t102 _ _ t107 t113 _ ?side1 ?side2 ?side3 ?side4 A7.out).mono ?_); (case side1 => refine (Kd.R_reads' (e := 33) (base := w.heap.size) (ok := fun k_ => (True ∧ some k_ ≠ (.slice Ao23 t107.length co23 : Value).ownBlock)) (n := t102.length) (c := co24) ?_).2.2; exact (by (with_reducible repeat (first | apply Kd.R_alloc | apply Kd.R_drewN | apply Kd.R_drew)); exact (Kd.R_mono (Kd.R_far (p := ⟨gb112, 2, none⟩) (Kd.R_far (p := ⟨gb112, 1, none⟩) (Kd.R_far (p := ⟨gb112, 0, none⟩) (Kd.R_types HO106.out BK112.out (by decide)) (fun _ hk => hk.2) (.int .i64 0)) (fun _ hk => hk.2) (.slice Ao24 t102.length co24)) (fun _ hk => hk.2) (.slice Ao23 t107.length co23)) (fun _ h_ => h_.1)))); (case side2 => exact (Kd.R_reads' HO106.out).2.1); (case side3 => refine (Kd.R_reads' (e := 33) (base := w.heap.size) (ok := fun k_ => (True ∧ some k_ ≠ (.slice Ao24 t102.length co24 : Value).ownBlock)) (n := t107.length) (c := co23) ?_).2.2; exact (by (with_reducible repeat (first | apply Kd.R_alloc | apply Kd.R_drewN | apply Kd.R_drew)); exact (Kd.R_mono (Kd.R_far (p := ⟨gb112, 2, none⟩) (Kd.R_far (p := ⟨gb112, 1, none⟩) (Kd.R_far (p := ⟨gb112, 0, none⟩) (Kd.R_types HO111.out BK112.out (by decide)) (fun _ hk => hk.2) (.int .i64 0)) (fun _ hk => hk.2) (.slice Ao24 t102.length co24)) (fun _ hk => hk.2) (.slice Ao23 t107.length co23)) (fun _ h_ => h_.1)))); (case side4 => exact (Kd.R_reads' HO111.out).2.1); rintro e w28 ⟨rfl, hb⟩; refine ⟨_, rfl, ?_⟩; replace HO106 := zM (Kd.R_below (by (with_reducible repeat (first | apply Kd.R_alloc | apply Kd.R_drewN | apply Kd.R_drew)); exact (Kd.R_mono (Kd.R_far (p := ⟨gb112, 2, none⟩) (Kd.R_far (p := ⟨gb112, 1, none⟩) (Kd.R_far (p := ⟨gb112, 0, none⟩) (Kd.R_types HO106.out BK112.out (by decide)) (fun _ hk => hk.2) (.int .i64 0)) (fun _ hk => hk.2) (.slice Ao24 t102.length co24)) (fun _ hk => hk.2) (.slice Ao23 t107.length co23)) (fun _ h_ => h_.1))) hb); replace HO111 := zM (Kd.R_below (by (with_reducible repeat (first | apply Kd.R_alloc | apply Kd.R_drewN | apply Kd.R_drew)); exact (Kd.R_mono (Kd.R_far (p := ⟨gb112, 2, none⟩) (Kd.R_far (p := ⟨gb112, 1, none⟩) (Kd.R_far (p := ⟨gb112, 0, none⟩) (Kd.R_types HO111.out BK112.out (by decide)) (fun _ hk => hk.2) (.int .i64 0)) (fun _ hk => hk.2) (.slice Ao24 t102.length co24)) (fun _ hk => hk.2) (.slice Ao23 t107.length co23)) (fun _ h_ => h_.1))) hb); replace BK101 := zM (blk_below (g := gb101) (o := .cells #[.int .i64 0, .slice none 0 0, .slice none 0 0] 25 (0, 0)) (by refine zk ?_; refine blk_far ?_ NB101_112.out _; refine zk ?_; refine blk_far ?_ NB101_112.out _; refine zk ?_; refine blk_far ?_ NB101_112.out _; refine zk ?_; exact BK101.out) hb); replace BK112 := zM (blk_below (g := gb112) (o := .cells #[.int .i64 0, .slice Ao24 t102.length co24, .slice Ao23 t107.length co23] 25 (0, 0)) (by refine zk ?_; refine blk_put (cs := #[.int .i64 0, .slice Ao24 t102.length co24, .slice none 0 0]) ?_ 2 _ rfl; refine zk ?_; refine blk_put (cs := #[.int .i64 0, .slice none 0 0, .slice none 0 0]) ?_ 1 _ rfl; refine zk ?_; refine blk_put (cs := #[.int .i64 0, .slice none 0 0, .slice none 0 0]) ?_ 0 _ rfl; refine zk ?_; exact BK112.out) hb); replace HB := zM (below_step zb hb); (try clear hb); have hcz29_0 : w28.cell? ⟨gb101, 0, none⟩ = some (.int .i64 0) := (zX BK101.out 0).trans rfl; have hcz29_1 : w28.cell? ⟨gb101, 1, none⟩ = some (.slice none 0 0) := (zX BK101.out 1).trans rfl; have hcz29_2 : w28.cell? ⟨gb101, 2, none⟩ = some (.slice none 0 0) := (zX BK101.out 2).trans rfl; have hfz29_0 := zY BK101.out 0; have hfz29_1 := zY BK101.out 1; have hfz29_2 := zY BK101.out 2))
    refine bodyPost_ret (results_ct rfl _ _ gb101 25 #[.int .i64 0, .slice none 0 0, .slice none 0 0] (0, 0) _ rfl (by refine zk ?_; refine blk_put (cs := #[.int .i64 0, .slice none 0 0, .slice none 0 0]) ?_ 2 _ rfl; refine zk ?_; refine blk_put (cs := #[.int .i64 0, .slice none 0 0, .slice none 0 0]) ?_ 1 _ rfl; refine zk ?_; refine blk_put (cs := #[.int .i64 0, .slice none 0 0, .slice none 0 0]) ?_ 0 _ rfl; refine zk ?_; exact BK101.out) Tryd.underlying25 rfl (by kernel_rfl)) rfl ?_
    exact ⟨_, _, zw, by first | exact Kd.R_nil _ _ _ _ _ | exact Kd.N_nil _ _ _ _ _ | exact Kd.V_nil _ _ _ _ _ | exact Kd.Q_nil _ _ _ _ _ | exact Kd.S_nil _ _ _ _ _, by first | exact Kd.R_nil _ _ _ _ _ | exact Kd.N_nil _ _ _ _ _ | exact Kd.V_nil _ _ _ _ _ | exact Kd.Q_nil _ _ _ _ _ | exact Kd.S_nil _ _ _ _ _, zb⟩
  ·
   rw [if_neg c6] at H
   have c6b0 : (t109 == 0) = false := zE c6
   have c6b1 : (t109 != 0) = true := zF c6
   simp only [Option.some.injEq, Prod.mk.injEq] at H
   obtain ⟨rfl, rfl, rfl, rfl⟩ := H
   go_enter Tryd.func16, Tryd.ntmps16
   go_wp2_with (first | ((with_reducible refine gate_dst (N := 4) rfl ?_); refine box_event ?hg (N := 4) ?hd (cs := #[.int .i64 0, .slice none 0 0, .slice none 0 0]) (t := 25) ?hr ?_; (case hd => rfl); (case hg => rfl); (case hr => first | (go_simp; done) | (go_simp; rfl)); intro gb101 hg w30 hbox hb; have BK101 := zM (hbox); have GW101 := zM (zh hg : w.heap.size ≤ gb101); have GE101 := zM (zh hg : w.heap.size ≤ gb101); replace HB := zM (below_step zb hb); clear hb hbox hg) | ((with_reducible refine gate_callee (f := 42) rfl ?_); refine goesL_ (some 16) rfl rfl Tryd.func42 (by kernel_rfl) rfl #[.string a0] rfl zl ?_; (with_reducible refine (aumbryref04_Parse.calls k a0 t102 t103 t104 _ A3.out).mono ?_); rintro e w31 ⟨v105, rfl, ho0, hb⟩; refine ⟨_, rfl, ?_⟩; have HO106 := zM (Kd.R_lower ho0 (below_size zb)); replace BK101 := zM (blk_below (zk BK101.out) hb); replace HB := zM (below_step zb hb); (try clear hb); (try clear ho0)) | ((with_reducible refine gate_callee (f := 42) rfl ?_); refine goesL_ (some 26) rfl rfl Tryd.func42 (by kernel_rfl) rfl #[.string a1] rfl zl ?_; (with_reducible refine (aumbryref04_Parse.calls k a1 t107 t108 t109 _ A5.out).mono ?_); rintro e w32 ⟨v110, rfl, ho0, hb⟩; refine ⟨_, rfl, ?_⟩; have HO111 := zM (Kd.R_lower (Kd.R_new' ho0 (Kd.R_lt (zr HO106.out))) (below_size zb)); replace HO106 := zM (Kd.R_elder' (zr HO106.out) (Kd.R_base ho0) hb); replace BK101 := zM (blk_below (zk BK101.out) hb); replace HB := zM (below_step zb hb); (try clear hb); (try clear ho0); have hcz33_0 : w32.cell? ⟨gb101, 0, none⟩ = some (.int .i64 0) := (zX BK101.out 0).trans rfl; have hcz33_1 : w32.cell? ⟨gb101, 1, none⟩ = some (.slice none 0 0) := (zX BK101.out 1).trans rfl; have hcz33_2 : w32.cell? ⟨gb101, 2, none⟩ = some (.slice none 0 0) := (zX BK101.out 2).trans rfl; have hfz33_0 := zY BK101.out 0; have hfz33_1 := zY BK101.out 1; have hfz33_2 := zY BK101.out 2))
   refine bodyPost_ret (results_ct rfl _ _ gb101 25 #[.int .i64 0, .slice none 0 0, .slice none 0 0] (0, 0) _ rfl (by refine zk ?_; refine blk_put (cs := #[.int .i64 0, .slice none 0 0, .slice none 0 0]) ?_ 2 _ rfl; refine zk ?_; refine blk_put (cs := #[.int .i64 0, .slice none 0 0, .slice none 0 0]) ?_ 1 _ rfl; refine zk ?_; refine blk_put (cs := #[.int .i64 0, .slice none 0 0, .slice none 0 0]) ?_ 0 _ rfl; refine zk ?_; exact BK101.out) Tryd.underlying25 rfl (by kernel_rfl)) rfl ?_
   exact ⟨_, _, zw, by first | exact Kd.R_nil _ _ _ _ _ | exact Kd.N_nil _ _ _ _ _ | exact Kd.V_nil _ _ _ _ _ | exact Kd.Q_nil _ _ _ _ _ | exact Kd.S_nil _ _ _ _ _, by first | exact Kd.R_nil _ _ _ _ _ | exact Kd.N_nil _ _ _ _ _ | exact Kd.V_nil _ _ _ _ _ | exact Kd.Q_nil _ _ _ _ _ | exact Kd.S_nil _ _ _ _ _, zb⟩
 ·
  rw [if_neg c4] at H
  have c4b0 : (t104 == 0) = false := zE c4
  have c4b1 : (t104 != 0) = true := zF c4
  simp only [Option.some.injEq, Prod.mk.injEq] at H
  obtain ⟨rfl, rfl, rfl, rfl⟩ := H
  go_enter Tryd.func16, Tryd.ntmps16
  go_wp2_with (first | ((with_reducible refine gate_dst (N := 4) rfl ?_); refine box_event ?hg (N := 4) ?hd (cs := #[.int .i64 0, .slice none 0 0, .slice none 0 0]) (t := 25) ?hr ?_; (case hd => rfl); (case hg => rfl); (case hr => first | (go_simp; done) | (go_simp; rfl)); intro gb101 hg w34 hbox hb; have BK101 := zM (hbox); have GW101 := zM (zh hg : w.heap.size ≤ gb101); have GE101 := zM (zh hg : w.heap.size ≤ gb101); replace HB := zM (below_step zb hb); clear hb hbox hg) | ((with_reducible refine gate_callee (f := 42) rfl ?_); refine goesL_ (some 16) rfl rfl Tryd.func42 (by kernel_rfl) rfl #[.string a0] rfl zl ?_; (with_reducible refine (aumbryref04_Parse.calls k a0 t102 t103 t104 _ A3.out).mono ?_); rintro e w35 ⟨v105, rfl, ho0, hb⟩; refine ⟨_, rfl, ?_⟩; have HO106 := zM (Kd.R_lower ho0 (below_size zb)); replace BK101 := zM (blk_below (zk BK101.out) hb); replace HB := zM (below_step zb hb); (try clear hb); (try clear ho0); have hcz36_0 : w35.cell? ⟨gb101, 0, none⟩ = some (.int .i64 0) := (zX BK101.out 0).trans rfl; have hcz36_1 : w35.cell? ⟨gb101, 1, none⟩ = some (.slice none 0 0) := (zX BK101.out 1).trans rfl; have hcz36_2 : w35.cell? ⟨gb101, 2, none⟩ = some (.slice none 0 0) := (zX BK101.out 2).trans rfl; have hfz36_0 := zY BK101.out 0; have hfz36_1 := zY BK101.out 1; have hfz36_2 := zY BK101.out 2))
  refine bodyPost_ret (results_ct rfl _ _ gb101 25 #[.int .i64 0, .slice none 0 0, .slice none 0 0] (0, 0) _ rfl (by refine zk ?_; refine blk_put (cs := #[.int .i64 0, .slice none 0 0, .slice none 0 0]) ?_ 2 _ rfl; refine zk ?_; refine blk_put (cs := #[.int .i64 0, .slice none 0 0, .slice none 0 0]) ?_ 1 _ rfl; refine zk ?_; refine blk_put (cs := #[.int .i64 0, .slice none 0 0, .slice none 0 0]) ?_ 0 _ rfl; refine zk ?_; exact BK101.out) Tryd.underlying25 rfl (by kernel_rfl)) rfl ?_
  exact ⟨_, _, zw, by first | exact Kd.R_nil _ _ _ _ _ | exact Kd.N_nil _ _ _ _ _ | exact Kd.V_nil _ _ _ _ _ | exact Kd.Q_nil _ _ _ _ _ | exact Kd.S_nil _ _ _ _ _, by first | exact Kd.R_nil _ _ _ _ _ | exact Kd.N_nil _ _ _ _ _ | exact Kd.V_nil _ _ _ _ _ | exact Kd.Q_nil _ _ _ _ _ | exact Kd.S_nil _ _ _ _ _, zb⟩


-- ==== PF20

def aumbryref06_Text.f (k : Nat) (a0_0 : Int) (l0_1 : List (S33)) (l0_2 : List (S33)) : Option (ByteArray) := (aumbryref04_Text.f k l0_1).bind fun t102 => (if t102.size + 4 ≤ 9223372036854775807 then ((aumbryref04_Text.f k l0_2).bind fun t103 => (if (t102 ++ (⟨#[32, 45, 62, 32]⟩ : ByteArray)).size + t103.size ≤ 9223372036854775807 then (some ((t102 ++ (⟨#[32, 45, 62, 32]⟩ : ByteArray)) ++ t103)) else (none))) else (none))
theorem aumbryref06_Text.mono : ∀ a0 a1 a2 k, LeO (aumbryref06_Text.f k a0 a1 a2) (aumbryref06_Text.f (k + 1) a0 a1 a2) := by
 intro a0 a1 a2 k
 unfold aumbryref06_Text.f
 repeat' first
  | (with_reducible exact aumbryref04_Text.mono _ _)
  | (with_reducible exact LeO.refl _)
  | (with_reducible exact LeO.none _)
  | (with_reducible refine LeO.ite ?_ ?_)
  | (with_reducible refine LeO.bind ?_ (fun _ => ?_))
def aumbryref06_Text.T1 : Bool × List (List Nat × List Nat) := (true, [([], []), ([0], [0]), ([1], [1]), ([2], [2]), ([], []), ([4], [4]), ([5, 2], [5]), ([3, 6], [3, 6]), ([7, 6, 0, 1, 2, 3, 4, 5, 6, 7], [7])])
def aumbryref06_Text.B1 : List Nat := [0, 1, 3, 7, 0, 16, 55, 127, 255]
theorem aumbryref06_Text.tab1 : rtab .any (opsOf Tryd.f20 1) = aumbryref06_Text.T1 := by kernel_rfl
theorem aumbryref06_Text.bits1 : waitsOk aumbryref06_Text.T1.2 aumbryref06_Text.B1 = true := by kernel_rfl
theorem aumbryref06_Text.calls (k : Nat) (a0_0 : Int) (A0_1 : Option Addr) (c0_1 : Nat) (l0_1 : List (S33)) (A0_2 : Option Addr) (c0_2 : Nat) (l0_2 : List (S33)) (r : ByteArray) (w : World) (hr0_1 : Kd.C k33 w A0_1 l0_1.length l0_1) (hc0_1 : l0_1.length ≤ c0_1) (hr0_2 : Kd.C k33 w A0_2 l0_2.length l0_2) (hc0_2 : l0_2.length ≤ c0_2) (h : aumbryref06_Text.f k a0_0 l0_1 l0_2 = some r) :
 Calls Tryd.prog 20 #[.agg #[.int .i64 a0_0, .slice A0_1 l0_1.length c0_1, .slice A0_2 l0_2.length c0_2]] w fun e w' => e = .returned (.string r) ∧ Below w.heap.size w w' := by
 have hu25 := Tryd.underlying25
 have HR0_1 := zM hr0_1
 have HC0_1 := zM hc0_1
 clear hr0_1 hc0_1
 have HR0_2 := zM hr0_2
 have HC0_2 := zM hc0_2
 clear hr0_2 hc0_2
 have HB := zM (Below.refl w.heap.size w)
 have H : ((aumbryref04_Text.f k l0_1).bind fun t102 => (if t102.size + 4 ≤ 9223372036854775807 then ((aumbryref04_Text.f k l0_2).bind fun t103 => (if (t102 ++ (⟨#[32, 45, 62, 32]⟩ : ByteArray)).size + t103.size ≤ 9223372036854775807 then (some ((t102 ++ (⟨#[32, 45, 62, 32]⟩ : ByteArray)) ++ t103)) else (none))) else (none))) = some r := h
 clear h
 replace H := zB H
 obtain ⟨t102, A20, H⟩ := H
 try dsimp only at H
 have A2 := zM A20
 clear A20
 by_cases c3 : t102.size + 4 ≤ 9223372036854775807
 ·
  rw [if_pos c3] at H
  have c3b0 := eq_true c3
  have c3b1 : decide (t102.size + 4 ≤ 9223372036854775807) = true := zQ c3
  try have c3b2 : (9223372036854775807 < t102.size + 4) = False := eq_false (Nat.not_lt.2 c3)
  replace H := zB H
  obtain ⟨t103, A40, H⟩ := H
  try dsimp only at H
  have A4 := zM A40
  clear A40
  by_cases c5 : (t102 ++ (⟨#[32, 45, 62, 32]⟩ : ByteArray)).size + t103.size ≤ 9223372036854775807
  ·
   rw [if_pos c5] at H
   have c5b0 := eq_true c5
   have c5b1 : decide ((t102 ++ (⟨#[32, 45, 62, 32]⟩ : ByteArray)).size + t103.size ≤ 9223372036854775807) = true := zQ c5
   try have c5b2 : (9223372036854775807 < (t102 ++ (⟨#[32, 45, 62, 32]⟩ : ByteArray)).size + t103.size) = False := eq_false (Nat.not_lt.2 c5)
   try have c5b3 : (9223372036854775807 < t102.size + 4 + t103.size) = False := eq_false (Nat.not_lt.2 (by have h_ := c5; rw [ByteArray.size_append] at h_; exact h_))
   obtain rfl := zS H
   go_enter Tryd.func20, Tryd.ntmps20
   try go_wp2_with (first | ((with_reducible refine gate_dst (N := 1) rfl ?_); refine box_event ?hg (N := 1) ?hd (cs := #[.int .i64 a0_0, .slice A0_1 l0_1.length c0_1, .slice A0_2 l0_2.length c0_2]) (t := 25) ?hr ?_; (case hd => rfl); (case hg => rfl); (case hr => first | (go_simp; done) | (go_simp; rfl)); intro gb101 hg w6 hbox hb; have BK101 := zM (hbox); have GW101 := zM (zh hg : w.heap.size ≤ gb101); have GE101 := zM (zh hg : w.heap.size ≤ gb101); replace HB := zM (below_step zb hb); clear hb hbox hg))
   have n0_ := zM (blk_drew BK101.out)
   have n1_ := zM (zD HB.out)
   clear BK101
   clear HB
   have BK101 := n0_
   have HB := n1_
   clear n0_ n1_
   refine start_ (n := 9) (S := fun w' => w'.cell? ⟨gb101, 0, none⟩ = some (.int .i64 a0_0) ∧ w'.cell? ⟨gb101, 1, none⟩ = some (.slice A0_1 l0_1.length c0_1) ∧ w'.cell? ⟨gb101, 2, none⟩ = some (.slice A0_2 l0_2.length c0_2)) (ds := []) #[false, false, false, false, false, false, false, false, false] (by kernel_rfl) rfl rfl ⟨(zX BK101.out 0).trans rfl, (zX BK101.out 1).trans rfl, (zX BK101.out 2).trans rfl⟩ (fun hHeld => ?_); refine with_tabW aumbryref06_Text.tab1 aumbryref06_Text.bits1 (fun HT_ HW_ => ?_)
   generalize w6.drew = w7 at BK101 HB hHeld ⊢
   refine pure_ (i := 0) (N := some 3) (v := ?_) (a' := ?_) #[true, false, false, false, false, false, false, false, false] rfl rfl (any_of HT_.out (by kernel_rfl)) (fun _ _ _ h => h) (Or.inl ⟨by rfl, ?_⟩) ?_ ?_
   rotate_left
   ·
    intro w'
    go_simp
    with_reducible rfl
   rotate_left
   ·
    simp only [Act.put, zp1, zp2, zp3, i64_w, i32_w]
    rfl
   refine pure_ (i := 4) (N := some 7) (v := ?_) (a' := ?_) #[true, false, false, false, true, false, false, false, false] rfl rfl (any_of HT_.out (by kernel_rfl)) (fun _ _ _ h => h) (Or.inl ⟨by rfl, ?_⟩) ?_ ?_
   rotate_left
   ·
    intro w'
    go_simp
    with_reducible rfl
   rotate_left
   ·
    simp only [Act.put, zp1, zp2, zp3, i64_w, i32_w]
    rfl
   refine take_ (i := 1) (N := some 4) (v := ?_) (a' := ?_) #[true, true, false, false, true, false, false, false, false] rfl rfl (take_ofW HT_.out HW_.out (by kernel_rfl)) (fun _ _ _ h => h) (Or.inl ⟨by rfl, ?_⟩) hHeld ?_ ?_
   rotate_left
   ·
    rintro w' ⟨s0, s1, s2⟩
    go_simp
    with_reducible rfl
   rotate_left
   ·
    simp only [Act.put, zp1, zp2, zp3, i64_w, i32_w]
    rfl
   refine take_ (i := 5) (N := some 8) (v := ?_) (a' := ?_) #[true, true, false, false, true, true, false, false, false] rfl rfl (take_ofW HT_.out HW_.out (by kernel_rfl)) (fun _ _ _ h => h) (Or.inl ⟨by rfl, ?_⟩) hHeld ?_ ?_
   rotate_left
   ·
    rintro w' ⟨s0, s1, s2⟩
    go_simp
    with_reducible rfl
   rotate_left
   ·
    simp only [Act.put, zp1, zp2, zp3, i64_w, i32_w]
    rfl
   refine one_ (i := 2) (N := some 5) #[true, true, true, false, true, true, false, false, false] rfl rfl (one_of HT_.out (by kernel_rfl)) (by decide) (fun K hK => ?_)
   refine goes_ Tryd.func49 (by kernel_rfl) rfl #[.slice A0_1 l0_1.length c0_1] (by rfl) rfl rfl zl ?_
   with_reducible refine (aumbryref04_Text.calls k _ _ l0_1 t102 _ ?side1 ?side2 A2.out).mono ?_
   (case side1 => exact Kd.C_below HR0_1.out zb)
   (case side2 => exact HC0_1.out)
   rintro e w8 ⟨rfl, hb⟩
   refine ⟨_, rfl, ?_⟩
   have n0_ := zM (blk_below (zk BK101.out) hb)
   have n1_ := zM (below_step zb hb)
   clear BK101
   clear HB
   have BK101 := n0_
   have HB := n1_
   clear n0_ n1_
   (try clear hb)
   (try clear hb2)
   (try clear hk)
   (try clear hi)
   refine hK.out _ _ ⟨(zX BK101.out 0).trans rfl, (zX BK101.out 1).trans rfl, (zX BK101.out 2).trans rfl⟩ (fun hHeld => ?_)
   clear hK K
   refine norm_ (a' := ?_) ?_ ?_
   rotate_left
   ·
    show Act.put _ (some 5) _ = _
    simp only [Act.put, zp1, zp2, zp3, i64_w, i32_w]
    rfl
   refine pure_ (i := 3) (N := some 6) (v := ?_) (a' := ?_) #[true, true, true, true, true, true, false, false, false] rfl rfl (any_of HT_.out (by kernel_rfl)) (fun _ _ _ h => h) (Or.inl ⟨by rfl, ?_⟩) ?_ ?_
   rotate_left
   ·
    intro w'
    go_simp
    with_reducible rfl
   rotate_left
   ·
    simp only [Act.put, zp1, zp2, zp3, i64_w, i32_w]
    rfl
   refine one_ (i := 6) (N := some 9) #[true, true, true, true, true, true, true, false, false] rfl rfl (one_of HT_.out (by kernel_rfl)) (by decide) (fun K hK => ?_)
   refine goes_ Tryd.func49 (by kernel_rfl) rfl #[.slice A0_2 l0_2.length c0_2] (by rfl) rfl rfl zl ?_
   with_reducible refine (aumbryref04_Text.calls k _ _ l0_2 t103 _ ?side1 ?side2 A4.out).mono ?_
   (case side1 => exact Kd.C_below HR0_2.out zb)
   (case side2 => exact HC0_2.out)
   rintro e w9 ⟨rfl, hb⟩
   refine ⟨_, rfl, ?_⟩
   have n0_ := zM (blk_below (zk BK101.out) hb)
   have n1_ := zM (below_step zb hb)
   clear BK101
   clear HB
   have BK101 := n0_
   have HB := n1_
   clear n0_ n1_
   (try clear hb)
   (try clear hb2)
   (try clear hk)
   (try clear hi)
   refine hK.out _ _ ⟨(zX BK101.out 0).trans rfl, (zX BK101.out 1).trans rfl, (zX BK101.out 2).trans rfl⟩ (fun hHeld => ?_)
   clear hK K
   refine norm_ (a' := ?_) ?_ ?_
   rotate_left
   ·
    show Act.put _ (some 9) _ = _
    simp only [Act.put, zp1, zp2, zp3, i64_w, i32_w]
    rfl
   refine pure_ (i := 7) (N := some 10) (v := ?_) (a' := ?_) #[true, true, true, true, true, true, true, true, false] rfl rfl (any_of HT_.out (by kernel_rfl)) (fun _ _ _ h => h) (Or.inl ⟨by rfl, ?_⟩) ?_ ?_
   rotate_left
   ·
    intro w'
    go_simp
    with_reducible rfl
   rotate_left
   ·
    simp only [Act.put, zp1, zp2, zp3, i64_w, i32_w]
    rfl
   refine pure_ (i := 8) (N := some 2) (v := ?_) (a' := ?_) #[true, true, true, true, true, true, true, true, true] rfl rfl (any_of HT_.out (by kernel_rfl)) (fun _ _ _ h => h) (Or.inl ⟨by rfl, ?_⟩) ?_ ?_
   rotate_left
   ·
    intro w'
    go_simp
    with_reducible rfl
   rotate_left
   ·
    simp only [Act.put, zp1, zp2, zp3, i64_w, i32_w]
    rfl
   refine done_ (done_of HT_.out (by kernel_rfl)) ?_
   try go_wp2
   go_ret
   exact ⟨zw, zb⟩
  ·
   rw [if_neg c5] at H
   exact absurd H (by simp)
 ·
  rw [if_neg c3] at H
  exact absurd H (by simp)


-- ==== PF71

mutual
def aumbryref03_Write.l0 : Nat → Int → ByteArray → Option (ByteArray)
 | 0, _, _ => none
 | k + 1, x0, x3 => if x0 > 9 then ((some (([(wrap64 (48 + (Int.tmod x0 10))) % 256] : List Int) : List Int)).bind fun y102 => (if (strOfNums y102).size + x3.size ≤ 9223372036854775807 then (aumbryref03_Write.l0 k (wrap64 (Int.tdiv x0 10)) ((strOfNums y102) ++ x3)) else (none))) else ((some (([(wrap64 (48 + x0)) % 256] : List Int) : List Int)).bind fun y105 => (if (strOfNums y105).size + x3.size ≤ 9223372036854775807 then (some ((strOfNums y105) ++ x3)) else (none)))
def aumbryref03_Write.f : Nat → Int → Option (ByteArray)
 | 0, _ => none
 | k + 1, a0 => if a0 = (-9223372036854775808) then (some (⟨#[45, 57, 50, 50, 51, 51, 55, 50, 48, 51, 54, 56, 53, 52, 55, 55, 53, 56, 48, 56]⟩ : ByteArray)) else (if a0 < 0 then ((aumbryref03_Write.f k (wrap64 (-a0))).bind fun t101 => (if 1 + t101.size ≤ 9223372036854775807 then (some ((⟨#[45]⟩ : ByteArray) ++ t101)) else (none))) else (aumbryref03_Write.l0 k a0 (⟨#[]⟩ : ByteArray)))
end
theorem aumbryref03_Write.mono_l : ∀ k, (∀ y0, LeO (aumbryref03_Write.f k y0) (aumbryref03_Write.f (k + 1) y0)) ∧ (∀ y0 y1, LeO (aumbryref03_Write.l0 k y0 y1) (aumbryref03_Write.l0 (k + 1) y0 y1))
 | 0 => ⟨fun _ r h => by simp [aumbryref03_Write.f] at h, fun _ _ r h => by simp [aumbryref03_Write.l0] at h⟩
 | k + 1 => by
  obtain ⟨ih0, ih1⟩ := aumbryref03_Write.mono_l k
  refine ⟨?_, ?_⟩
  ·
   intro y0
   unfold aumbryref03_Write.f
   repeat' first
   | (with_reducible exact ih0 _)
   | (with_reducible exact ih1 _ _)
   | (with_reducible exact LeO.refl _)
   | (with_reducible exact LeO.none _)
   | (with_reducible refine LeO.ite ?_ ?_)
   | (with_reducible refine LeO.bind ?_ (fun _ => ?_))
  ·
   intro y0 y1
   unfold aumbryref03_Write.l0
   repeat' first
   | (with_reducible exact ih0 _)
   | (with_reducible exact ih1 _ _)
   | (with_reducible exact LeO.refl _)
   | (with_reducible exact LeO.none _)
   | (with_reducible refine LeO.ite ?_ ?_)
   | (with_reducible refine LeO.bind ?_ (fun _ => ?_))
theorem aumbryref03_Write.mono : ∀ a0 k, LeO (aumbryref03_Write.f k a0) (aumbryref03_Write.f (k + 1) a0) := by
 intro a0 k
 obtain ⟨ih0, ih1⟩ := aumbryref03_Write.mono_l k
 exact ih0 a0
theorem aumbryref03_Write.calls (k : Nat) : ∀ (a0 : Int) (r : ByteArray) (w : World) (h : aumbryref03_Write.f k a0 = some r),
 Calls Tryd.prog 71 #[.int .i64 a0] w fun e w' => e = .returned (.string r) ∧ Below w.heap.size w w' := by
 induction k using Nat.strongRecOn with
 | _ k ih =>
 intro a0 r w h
 cases k with
 | zero => exact absurd h (by simp [aumbryref03_Write.f])
 | succ k =>
 simp only [aumbryref03_Write.f] at h
 have HB := zM (Below.refl w.heap.size w)
 have H : (if a0 = (-9223372036854775808) then (some (⟨#[45, 57, 50, 50, 51, 51, 55, 50, 48, 51, 54, 56, 53, 52, 55, 55, 53, 56, 48, 56]⟩ : ByteArray)) else (if a0 < 0 then ((aumbryref03_Write.f k (wrap64 (-a0))).bind fun t101 => (if 1 + t101.size ≤ 9223372036854775807 then (some ((⟨#[45]⟩ : ByteArray) ++ t101)) else (none))) else (aumbryref03_Write.l0 k a0 (⟨#[]⟩ : ByteArray)))) = some r := h
 clear h
 by_cases c2 : a0 = (-9223372036854775808)
 ·
  rw [if_pos c2] at H
  have c2b0 : (a0 == (-9223372036854775808)) = true := zG c2
  have c2b1 : (a0 != (-9223372036854775808)) = false := zH c2
  clear c2
  obtain rfl := zS H
  go_enter Tryd.func71, Tryd.ntmps71
  go_wp2
  go_ret
  exact ⟨zw, zb⟩
 ·
  rw [if_neg c2] at H
  have c2b0 : (a0 == (-9223372036854775808)) = false := zE c2
  have c2b1 : (a0 != (-9223372036854775808)) = true := zF c2
  by_cases c3 : a0 < 0
  ·
   rw [if_pos c3] at H
   have c3b0 : decide (a0 < 0) = true := zQ c3
   clear c3
   replace H := zB H
   obtain ⟨t101, A40, H⟩ := H
   try dsimp only at H
   have A4 := zM A40
   clear A40
   by_cases c5 : 1 + t101.size ≤ 9223372036854775807
   ·
    rw [if_pos c5] at H
    have c5b0 := eq_true c5
    have c5b1 : decide (1 + t101.size ≤ 9223372036854775807) = true := zQ c5
    try have c5b2 : (9223372036854775807 < 1 + t101.size) = False := eq_false (Nat.not_lt.2 c5)
    obtain rfl := zS H
    go_enter Tryd.func71, Tryd.ntmps71
    go_wp2_with (first | ((with_reducible refine gate_callee (f := 71) rfl ?_); refine goesL_ (some 10) rfl rfl Tryd.func71 (by kernel_rfl) rfl #[.int .i64 (wrap64 (-a0))] rfl zl ?_; (with_reducible refine (ih k (by omega) (wrap64 (-a0)) t101 _ A4.out).mono ?_); rintro e w6 ⟨rfl, hb⟩; refine ⟨_, rfl, ?_⟩; replace HB := zM (below_step zb hb); (try clear hb)))
    go_ret
    exact ⟨zw, zb⟩
   ·
    rw [if_neg c5] at H
    exact absurd H (by simp)
  ·
   rw [if_neg c3] at H
   have c3b0 : decide (a0 < 0) = false := zR c3
   clear c3
   have H' := zM H
   clear H
   go_enter Tryd.func71, Tryd.ntmps71
   go_wp2
   go_loopg [0, 3] k (fun kq v0 v3 w' => ∃ (x0_1 : Int) (x3_1 : ByteArray), v0 = .int .i64 x0_1 ∧ v3 = .string x3_1 ∧ Aside0 (aumbryref03_Write.l0 kq x0_1 x3_1 = some r) ∧ Aside0 (kq ≤ k) ∧ Aside0 (Below w.heap.size w w'))
   case atStart => exact ⟨(a0), ((⟨#[]⟩ : ByteArray)), zy, zy, H', ⟨Nat.le_refl _⟩, ⟨zb⟩⟩
   case round =>
    clear H'
    try clear c2
    try clear c2b0
    try clear c2b1
    try clear p2
    try clear c3
    try clear c3b0
    try clear c5
    try clear c5b0
    try clear c5b1
    try clear c5b2
    try clear p6
    obtain ⟨x0_1, x3_1, rfl, rfl, HA, HK1, HB⟩ := hrel
    cases gk with
    | zero => exact absurd HA.out (by simp [aumbryref03_Write.l0])
    | succ k1 =>
     have H := HA.out
     clear HA
     simp only [aumbryref03_Write.l0] at H
     by_cases c7 : x0_1 > 9
     ·
      rw [if_pos c7] at H
      have c7b0 : decide (9 < x0_1) = true := zQ c7
      clear c7
      obtain ⟨y102, hy102⟩ : ∃ y_ : List Int, y_ = (([(wrap64 (48 + (Int.tmod x0_1 10))) % 256] : List Int)) := ⟨_, rfl⟩
      replace H : (if (strOfNums y102).size + x3_1.size ≤ 9223372036854775807 then (aumbryref03_Write.l0 k1 (wrap64 (Int.tdiv x0_1 10)) ((strOfNums y102) ++ x3_1)) else (none)) = some r := by first | (rw [hy102]; with_reducible exact H) | (have H2_ := (Option.bind_some _ _).symm.trans H; rw [hy102]; with_reducible exact H2_) | (have H2_ := (Option.bind_some _ _).symm.trans H; with_reducible exact H2_) | with_reducible exact H | (rw [hy102]; exact H) | exact H
      have Ny102 := zM hy102
      clear hy102
      by_cases c8 : (strOfNums y102).size + x3_1.size ≤ 9223372036854775807
      ·
       rw [if_pos c8] at H
       have c8b0 := eq_true c8
       have c8b1 : decide ((strOfNums y102).size + x3_1.size ≤ 9223372036854775807) = true := zQ c8
       try have c8b2 : (9223372036854775807 < (strOfNums y102).size + x3_1.size) = False := eq_false (Nat.not_lt.2 c8)
       have H' := zM H
       clear H
       go_wp2_with (first | ((with_reducible refine gate_dst (N := 18) rfl ?_); refine Kd.R_lit (Kd.int .u8) _ 5 ?hg (N := 18) ?hd (xs := ([(wrap64 (48 + (Int.tmod x0_1 10))) % 256] : List Int)) (inner := [.int .u8 ((wrap64 (48 + (Int.tmod x0_1 10))) % 256)]) (ok := fun _ => True) (okp := fun _ => True) ?hr ?hp (fun _ hk => hk) trivial (Below.refl _ _) (Nat.le_refl _) (by simp) ?_; (case hd => rfl); (case hg => rfl); (case hr => first | (go_simp; done) | (go_simp; rfl)); (case hp => exact (Reps.one (show Kd.M (Kd.int .u8) _ _ _ ((wrap64 (48 + (Int.tmod x0_1 10))) % 256) [.int .u8 ((wrap64 (48 + (Int.tmod x0_1 10))) % 256)] from rfl) (Reps.none _ _))); intro v103 w9 ho10 hb hg_ hnew_; clear hg_ hnew_; (first | rw [← Ny102.out] at ho10 | (simp only [Int.reduceToNat] at ho10; rw [← Ny102.out] at ho10)); have HO104 := zM (Kd.R_lower ho10 (below_size zb)); replace HB := zM (below_step zb hb); clear hb ho10; have hcv11 := own_string (P := Tryd.prog) Tryd.underlying97 Tryd.underlying5 Tryd.underlying9 (Kd.own_of_R HO104.out)))
       go_roundg k1
       case measure => have := HK1.out; omega
       case rel => exact ⟨(wrap64 (Int.tdiv x0_1 10)), ((strOfNums y102) ++ x3_1), zy, zy, H', ⟨by have := HK1.out; omega⟩, ⟨zb⟩⟩
      ·
       rw [if_neg c8] at H
       exact absurd H (by simp)
     ·
      rw [if_neg c7] at H
      have c7b0 : decide (9 < x0_1) = false := zR c7
      clear c7
      obtain ⟨y105, hy105⟩ : ∃ y_ : List Int, y_ = (([(wrap64 (48 + x0_1)) % 256] : List Int)) := ⟨_, rfl⟩
      replace H : (if (strOfNums y105).size + x3_1.size ≤ 9223372036854775807 then (some ((strOfNums y105) ++ x3_1)) else (none)) = some r := by first | (rw [hy105]; with_reducible exact H) | (have H2_ := (Option.bind_some _ _).symm.trans H; rw [hy105]; with_reducible exact H2_) | (have H2_ := (Option.bind_some _ _).symm.trans H; with_reducible exact H2_) | with_reducible exact H | (rw [hy105]; exact H) | exact H
      have Ny105 := zM hy105
      clear hy105
      by_cases c12 : (strOfNums y105).size + x3_1.size ≤ 9223372036854775807
      ·
       rw [if_pos c12] at H
       have c12b0 := eq_true c12
       have c12b1 : decide ((strOfNums y105).size + x3_1.size ≤ 9223372036854775807) = true := zQ c12
       try have c12b2 : (9223372036854775807 < (strOfNums y105).size + x3_1.size) = False := eq_false (Nat.not_lt.2 c12)
       obtain rfl := zS H
       go_wp2_with (first | ((with_reducible refine gate_dst (N := 27) rfl ?_); refine Kd.R_lit (Kd.int .u8) _ 5 ?hg (N := 27) ?hd (xs := ([(wrap64 (48 + x0_1)) % 256] : List Int)) (inner := [.int .u8 ((wrap64 (48 + x0_1)) % 256)]) (ok := fun _ => True) (okp := fun _ => True) ?hr ?hp (fun _ hk => hk) trivial (Below.refl _ _) (Nat.le_refl _) (by simp) ?_; (case hd => rfl); (case hg => rfl); (case hr => first | (go_simp; done) | (go_simp; rfl)); (case hp => exact (Reps.one (show Kd.M (Kd.int .u8) _ _ _ ((wrap64 (48 + x0_1)) % 256) [.int .u8 ((wrap64 (48 + x0_1)) % 256)] from rfl) (Reps.none _ _))); intro v106 w13 ho14 hb hg_ hnew_; clear hg_ hnew_; (first | rw [← Ny105.out] at ho14 | (simp only [Int.reduceToNat] at ho14; rw [← Ny105.out] at ho14)); have HO107 := zM (Kd.R_lower ho14 (below_size zb)); replace HB := zM (below_step zb hb); clear hb ho14; have hcv15 := own_string (P := Tryd.prog) Tryd.underlying97 Tryd.underlying5 Tryd.underlying9 (Kd.own_of_R HO107.out)))
       go_ret
       exact ⟨zw, zb⟩
      ·
       rw [if_neg c12] at H
       exact absurd H (by simp)


-- ==== PF50

mutual
def aumbryref06_named.l0 : Nat → List (S33) → List ByteArray → List (S33) → Int → Int → Option ((List (S33)))
 | 0, _, _, _, _, _ => none
 | k + 1, x0, x1, x5, x10, x11 => if x11 < x10 then (if 0 ≤ x11 then (if x11 < (x0.length : Int) then (aumbryref06_named.l1 k x0 x1 x5 x11 x10 x11 (x1.length : Int) 0 ((rd_T33 x0 x11).f0) ((rd_T33 x0 x11).f1)) else (none)) else (none)) else (some x5)
def aumbryref06_named.l1 : Nat → List (S33) → List ByteArray → List (S33) → Int → Int → Int → Int → Int → ByteArray → Int → Option ((List (S33)))
 | 0, _, _, _, _, _, _, _, _, _, _ => none
 | k + 1, x0, x1, x5, x6, x10, x11, x19, x20, x103000, x103001 => if x20 < x19 then (if 0 ≤ x6 then (if x6 < (x0.length : Int) then (if 0 ≤ x20 then (if x20 < (x1.length : Int) then (if ((rd_T33 x0 x6).f0).toList = (rdOf ByteArray.empty x1 x20).toList then ((aumbryref03_Write.f k x20).bind fun t105 => (if 1 + t105.size ≤ 9223372036854775807 then (aumbryref06_named.l1 k x0 x1 x5 x6 x10 x11 x19 (wrap64 (x20 + 1)) ((⟨#[88]⟩ : ByteArray) ++ t105) x103001) else (none))) else (aumbryref06_named.l1 k x0 x1 x5 x6 x10 x11 x19 (wrap64 (x20 + 1)) x103000 x103001)) else (none)) else (none)) else (none)) else (none)) else (if x5.length < 5864062014805 then (aumbryref06_named.l0 k x0 x1 (x5 ++ [(⟨x103000, x103001⟩ : S33)]) x10 (wrap64 (x11 + 1))) else (none))
end
def aumbryref06_named.f (k : Nat) (l0 : List (S33)) (l1 : List ByteArray) : Option ((List (S33))) := aumbryref06_named.l0 k l0 l1 ([] : List (S33)) (l0.length : Int) 0
theorem aumbryref06_named.mono_l : ∀ k, (∀ y0 y1 y2 y3 y4, LeO (aumbryref06_named.l0 k y0 y1 y2 y3 y4) (aumbryref06_named.l0 (k + 1) y0 y1 y2 y3 y4)) ∧ (∀ y0 y1 y2 y3 y4 y5 y6 y7 y8 y9, LeO (aumbryref06_named.l1 k y0 y1 y2 y3 y4 y5 y6 y7 y8 y9) (aumbryref06_named.l1 (k + 1) y0 y1 y2 y3 y4 y5 y6 y7 y8 y9))
 | 0 => ⟨fun _ _ _ _ _ r h => by simp [aumbryref06_named.l0] at h, fun _ _ _ _ _ _ _ _ _ _ r h => by simp [aumbryref06_named.l1] at h⟩
 | k + 1 => by
  obtain ⟨ih0, ih1⟩ := aumbryref06_named.mono_l k
  refine ⟨?_, ?_⟩
  ·
   intro y0 y1 y2 y3 y4
   unfold aumbryref06_named.l0
   repeat' first
   | (with_reducible exact ih0 _ _ _ _ _)
   | (with_reducible exact ih1 _ _ _ _ _ _ _ _ _ _)
   | (with_reducible exact aumbryref03_Write.mono _ _)
   | (with_reducible exact LeO.refl _)
   | (with_reducible exact LeO.none _)
   | (with_reducible refine LeO.ite ?_ ?_)
   | (with_reducible refine LeO.bind ?_ (fun _ => ?_))
  ·
   intro y0 y1 y2 y3 y4 y5 y6 y7 y8 y9
   unfold aumbryref06_named.l1
   repeat' first
   | (with_reducible exact ih0 _ _ _ _ _)
   | (with_reducible exact ih1 _ _ _ _ _ _ _ _ _ _)
   | (with_reducible exact aumbryref03_Write.mono _ _)
   | (with_reducible exact LeO.refl _)
   | (with_reducible exact LeO.none _)
   | (with_reducible refine LeO.ite ?_ ?_)
   | (with_reducible refine LeO.bind ?_ (fun _ => ?_))
theorem aumbryref06_named.mono : ∀ a0 a1 k, LeO (aumbryref06_named.f k a0 a1) (aumbryref06_named.f (k + 1) a0 a1) := by
 intro a0 a1 k
 obtain ⟨ih0, ih1⟩ := aumbryref06_named.mono_l k
 unfold aumbryref06_named.f
 repeat' first
  | (with_reducible exact ih0 _ _ _ _ _)
  | (with_reducible exact ih1 _ _ _ _ _ _ _ _ _ _)
  | (with_reducible exact aumbryref03_Write.mono _ _)
  | (with_reducible exact LeO.refl _)
  | (with_reducible exact LeO.none _)
  | (with_reducible refine LeO.ite ?_ ?_)
  | (with_reducible refine LeO.bind ?_ (fun _ => ?_))
theorem aumbryref06_named.calls (k : Nat) (A0 : Option Addr) (c0 : Nat) (l0 : List (S33)) (A1 : Option Addr) (c1 : Nat) (l1 : List ByteArray) (r : List (S33)) (w : World) (hr0 : Kd.C k33 w A0 l0.length l0) (hc0 : l0.length ≤ c0) (hr1 : Kd.C Kd.string w A1 l1.length l1) (hc1 : l1.length ≤ c1) (h : aumbryref06_named.f k l0 l1 = some r) :
 Calls Tryd.prog 50 #[.slice A0 l0.length c0, .slice A1 l1.length c1] w fun e w' => ∃ v0_ : Value, e = .returned (v0_) ∧ Kd.R k33 33 w' w.heap.size (fun _ => True) v0_ r ∧ Below w.heap.size w w' := by
 have hu33 := Tryd.underlying33
 have HR0 := zM hr0
 have HC0 := zM hc0
 clear hr0 hc0
 have HR1 := zM hr1
 have HC1 := zM hc1
 clear hr1 hc1
 have HB := zM (Below.refl w.heap.size w)
 have H : (aumbryref06_named.l0 k l0 l1 ([] : List (S33)) (l0.length : Int) 0) = some r := h
 clear h
 have H' := zM H
 clear H
 go_enter Tryd.func50, Tryd.ntmps50
 go_wp2
 repeat (go_quiet (fail); try go_wp2)
 go_loopg [5, 11] k (fun kq v5 v11 w' => ∃ (x5_1 : List (S33)) (x11_1 : Int), v11 = .int .i64 x11_1 ∧ Aside0 (aumbryref06_named.l0 kq l0 l1 x5_1 (l0.length : Int) x11_1 = some r) ∧ Aside0 (kq ≤ k) ∧ Aside0 (Kd.R k33 33 w' w.heap.size (fun _ => True) v5 x5_1) ∧ Aside0 (Below w.heap.size w w'))
 case atStart => exact ⟨(([] : List (S33))), (0), zy, H', ⟨Nat.le_refl _⟩, ⟨by first | exact Kd.R_nil _ _ _ _ _ | exact Kd.N_nil _ _ _ _ _ | exact Kd.V_nil _ _ _ _ _ | exact Kd.Q_nil _ _ _ _ _ | exact Kd.S_nil _ _ _ _ _⟩, ⟨zb⟩⟩
 case round =>
  clear H'
  try clear c1
  try clear p2
  obtain ⟨x5_1, x11_1, rfl, HA, HK1, HO_5, HB⟩ := hrel
  cases gk with
  | zero => exact absurd HA.out (by simp [aumbryref06_named.l0])
  | succ k1 =>
   have H := HA.out
   clear HA
   simp only [aumbryref06_named.l0] at H
   by_cases c3 : x11_1 < (l0.length : Int)
   ·
    rw [if_pos c3] at H
    have c3b0 : decide (x11_1 < (l0.length : Int)) = true := zQ c3
    clear c3
    by_cases c4 : 0 ≤ x11_1
    ·
     rw [if_pos c4] at H
     have c4b0 : decide (0 ≤ x11_1) = true := zQ c4
     clear c4
     by_cases c5 : x11_1 < (l0.length : Int)
     ·
      rw [if_pos c5] at H
      have c5b0 : decide (x11_1 < (l0.length : Int)) = true := zQ c5
      clear c5
      have H' := zM H
      clear H
      have p101 : 0 ≤ (x11_1 : Int) := zT zv
      have q101 : x11_1 < (l0.length : Int) := zT zv
      obtain ⟨ad101, e101, hx101_0, hx101_1⟩ := at_T33 HR0.out x11_1 p101 q101
      cases e101
      replace hx101_0 := (HB.out.cell (World.block_lt_of_cell? w _ hx101_0)).trans hx101_0
      replace hx101_1 := (HB.out.cell (World.block_lt_of_cell? w _ hx101_1)).trans hx101_1
      replace p101 := eq_true p101
      replace q101 := eq_true q101
      go_wp2_with (first | ((with_reducible refine gate_dst (N := 7) rfl ?_); refine box_event ?hg (N := 7) ?hd (cs := #[.string (⟨#[]⟩ : ByteArray), .int .i64 0]) (t := 33) ?hr ?_; (case hd => rfl); (case hg => rfl); (case hr => first | (go_simp; done) | (go_simp; rfl)); intro gb102 hg w6 hbox hb; replace HO_5 := zM (Kd.R_below (Kd.R_elderB (zr HO_5.out) gb102 (Nat.le_of_eq hg.symm)) hb); have BK102 := zM (hbox); have GW102 := zM (zh hg : w.heap.size ≤ gb102); have GE102 := zM (zh hg : w.heap.size ≤ gb102); replace HB := zM (below_step zb hb); clear hb hbox hg; have hcz7_0 : w6.cell? ⟨gb102, 0, none⟩ = some (.string (⟨#[]⟩ : ByteArray)) := (zX BK102.out 0).trans rfl; have hcz7_1 : w6.cell? ⟨gb102, 1, none⟩ = some (.int .i64 0) := (zX BK102.out 1).trans rfl; have hfz7_0 := zY BK102.out 0; have hfz7_1 := zY BK102.out 1))
      repeat (go_quiet (first | ((with_reducible refine gate_dst (N := 7) rfl ?_); refine box_event ?hg (N := 7) ?hd (cs := #[.string (⟨#[]⟩ : ByteArray), .int .i64 0]) (t := 33) ?hr ?_; (case hd => rfl); (case hg => rfl); (case hr => first | (go_simp; done) | (go_simp; rfl)); intro gb102 hg w6 hbox hb; replace HO_5 := zM (Kd.R_below (Kd.R_elderB (zr HO_5.out) gb102 (Nat.le_of_eq hg.symm)) hb); have BK102 := zM (hbox); have GW102 := zM (zh hg : w.heap.size ≤ gb102); have GE102 := zM (zh hg : w.heap.size ≤ gb102); replace HB := zM (below_step zb hb); clear hb hbox hg; have hcz7_0 : w6.cell? ⟨gb102, 0, none⟩ = some (.string (⟨#[]⟩ : ByteArray)) := (zX BK102.out 0).trans rfl; have hcz7_1 : w6.cell? ⟨gb102, 1, none⟩ = some (.int .i64 0) := (zX BK102.out 1).trans rfl; have hfz7_0 := zY BK102.out 0; have hfz7_1 := zY BK102.out 1)); try go_wp2_with (first | ((with_reducible refine gate_dst (N := 7) rfl ?_); refine box_event ?hg (N := 7) ?hd (cs := #[.string (⟨#[]⟩ : ByteArray), .int .i64 0]) (t := 33) ?hr ?_; (case hd => rfl); (case hg => rfl); (case hr => first | (go_simp; done) | (go_simp; rfl)); intro gb102 hg w6 hbox hb; replace HO_5 := zM (Kd.R_below (Kd.R_elderB (zr HO_5.out) gb102 (Nat.le_of_eq hg.symm)) hb); have BK102 := zM (hbox); have GW102 := zM (zh hg : w.heap.size ≤ gb102); have GE102 := zM (zh hg : w.heap.size ≤ gb102); replace HB := zM (below_step zb hb); clear hb hbox hg; have hcz7_0 : w6.cell? ⟨gb102, 0, none⟩ = some (.string (⟨#[]⟩ : ByteArray)) := (zX BK102.out 0).trans rfl; have hcz7_1 : w6.cell? ⟨gb102, 1, none⟩ = some (.int .i64 0) := (zX BK102.out 1).trans rfl; have hfz7_0 := zY BK102.out 0; have hfz7_1 := zY BK102.out 1)))
      go_loopg [20] k1 (fun kq v20 w' => ∃ (x20_2 : Int) (x103000_2 : ByteArray), v20 = .int .i64 x20_2 ∧ Aside0 (aumbryref06_named.l1 kq l0 l1 x5_1 x11_1 (l0.length : Int) x11_1 (l1.length : Int) x20_2 x103000_2 ((rd_T33 l0 x11_1).f1) = some r) ∧ Aside0 (kq ≤ k1) ∧ Aside0 (Kd.R k33 33 w' w.heap.size (fun k_ => k_ ≠ gb102) u5 x5_1) ∧ Aside0 (w'.heap[gb102]? = some (.cells #[.string x103000_2, .int .i64 ((rd_T33 l0 x11_1).f1)] 33 (0, 0))) ∧ Aside0 (Below w.heap.size w w'))
      case atStart => exact ⟨(0), ((rd_T33 l0 x11_1).f0), zy, H', ⟨Nat.le_refl _⟩, ⟨by (with_reducible repeat (first | apply Kd.R_alloc | apply Kd.R_drewN | apply Kd.R_drew)); exact Kd.R_mono (Kd.R_far (p := ⟨gb102, 1, none⟩) (Kd.R_far (p := ⟨gb102, 0, none⟩) (Kd.R_mono HO_5.out (fun k_ hk => (⟨hk, hk.2⟩ : _ ∧ k_ ≠ gb102))) (fun _ hk => hk.2) (.string ((rd_T33 l0 x11_1).f0))) (fun _ hk => hk.2) (.int .i64 ((rd_T33 l0 x11_1).f1))) (fun _ hk => hk.1.2)⟩, ⟨by refine zk ?_; refine blk_put (cs := #[.string ((rd_T33 l0 x11_1).f0), .int .i64 0]) ?_ 1 _ rfl; refine zk ?_; refine blk_put (cs := #[.string (⟨#[]⟩ : ByteArray), .int .i64 0]) ?_ 0 _ rfl; refine zk ?_; exact BK102.out⟩, ⟨zb⟩⟩
      case round =>
       clear H'
       try clear c1
       try clear p1
       try clear q1
       try clear hx1
       try clear p2
       try clear c3
       try clear c3b0
       try clear c4
       try clear c4b0
       try clear c5
       try clear c5b0
       try clear hcz7_0
       try clear hcz7_1
       try clear hfz7_0
       try clear hfz7_1
       try clear hx101_0
       try clear hx101_1
       try clear p101
       try clear p2
       try clear q101
       obtain ⟨x20_2, x103000_2, rfl, HA, HK2, HO_5, BK102, HB⟩ := hrel
       cases gk with
       | zero => exact absurd HA.out (by simp [aumbryref06_named.l1])
       | succ k2 =>
        have H := HA.out
        clear HA
        simp only [aumbryref06_named.l1] at H
        by_cases c8 : x20_2 < (l1.length : Int)
        ·
         rw [if_pos c8] at H
         have c8b0 : decide (x20_2 < (l1.length : Int)) = true := zQ c8
         clear c8
         by_cases c9 : 0 ≤ x11_1
         ·
          rw [if_pos c9] at H
          have c9b0 : decide (0 ≤ x11_1) = true := zQ c9
          clear c9
          by_cases c10 : x11_1 < (l0.length : Int)
          ·
           rw [if_pos c10] at H
           have c10b0 : decide (x11_1 < (l0.length : Int)) = true := zQ c10
           clear c10
           by_cases c11 : 0 ≤ x20_2
           ·
            rw [if_pos c11] at H
            have c11b0 : decide (0 ≤ x20_2) = true := zQ c11
            clear c11
            by_cases c12 : x20_2 < (l1.length : Int)
            ·
             rw [if_pos c12] at H
             have c12b0 : decide (x20_2 < (l1.length : Int)) = true := zQ c12
             clear c12
             by_cases c13 : ((rd_T33 l0 x11_1).f0).toList = (rdOf ByteArray.empty l1 x20_2).toList
             ·
              rw [if_pos c13] at H
              have c13b0 : (((rd_T33 l0 x11_1).f0).toList == (rdOf ByteArray.empty l1 x20_2).toList) = true := zG c13
              have c13b1 : (((rd_T33 l0 x11_1).f0).toList != (rdOf ByteArray.empty l1 x20_2).toList) = false := zH c13
              clear c13
              replace H := zB H
              obtain ⟨t105, A140, H⟩ := H
              try dsimp only at H
              have A14 := zM A140
              clear A140
              by_cases c15 : 1 + t105.size ≤ 9223372036854775807
              ·
               rw [if_pos c15] at H
               have c15b0 := eq_true c15
               have c15b1 : decide (1 + t105.size ≤ 9223372036854775807) = true := zQ c15
               try have c15b2 : (9223372036854775807 < 1 + t105.size) = False := eq_false (Nat.not_lt.2 c15)
               have H' := zM H
               clear H
               have p103 : 0 ≤ (x11_1 : Int) := zT zv
               have q103 : x11_1 < (l0.length : Int) := zT zv
               obtain ⟨ad103, e103, hx103_0, hx103_1⟩ := at_T33 HR0.out x11_1 p103 q103
               obtain rfl : ad101 = ad103 := (by injection e103)
               replace hx103_0 := (HB.out.cell (World.block_lt_of_cell? w _ hx103_0)).trans hx103_0
               replace hx103_1 := (HB.out.cell (World.block_lt_of_cell? w _ hx103_1)).trans hx103_1
               replace p103 := eq_true p103
               replace q103 := eq_true q103
               have p104 : 0 ≤ (x20_2 : Int) := zT zv
               have q104 : x20_2 < (l1.length : Int) := zT zv
               obtain ⟨ad104, e104, hx104_0⟩ := Kd.at_string HR1.out x20_2 p104 q104
               cases e104
               replace hx104_0 := (HB.out.cell (World.block_lt_of_cell? w _ hx104_0)).trans hx104_0
               replace p104 := eq_true p104
               replace q104 := eq_true q104
               go_wp2_with (first | (go_at_call 71; (with_reducible refine (aumbryref03_Write.calls k2 x20_2 t105 _ A14.out).mono ?_); rintro e w16 ⟨rfl, hb⟩; replace HO_5 := zM (Kd.R_below (zr HO_5.out) hb); replace BK102 := zM (blk_below (g := gb102) (o := .cells #[.string x103000_2, .int .i64 ((rd_T33 l0 x11_1).f1)] 33 (0, 0)) (zk BK102.out) hb); replace HB := zM (below_step zb hb); (try clear hb); have hcz17_0 : w16.cell? ⟨gb102, 0, none⟩ = some (.string x103000_2) := (zX BK102.out 0).trans rfl; have hcz17_1 : w16.cell? ⟨gb102, 1, none⟩ = some (.int .i64 ((rd_T33 l0 x11_1).f1)) := (zX BK102.out 1).trans rfl; have hfz17_0 := zY BK102.out 0; have hfz17_1 := zY BK102.out 1))
               repeat (go_quiet (first | (go_at_call 71; (with_reducible refine (aumbryref03_Write.calls k2 x20_2 t105 _ A14.out).mono ?_); rintro e w16 ⟨rfl, hb⟩; replace HO_5 := zM (Kd.R_below (zr HO_5.out) hb); replace BK102 := zM (blk_below (g := gb102) (o := .cells #[.string x103000_2, .int .i64 ((rd_T33 l0 x11_1).f1)] 33 (0, 0)) (zk BK102.out) hb); replace HB := zM (below_step zb hb); (try clear hb); have hcz17_0 : w16.cell? ⟨gb102, 0, none⟩ = some (.string x103000_2) := (zX BK102.out 0).trans rfl; have hcz17_1 : w16.cell? ⟨gb102, 1, none⟩ = some (.int .i64 ((rd_T33 l0 x11_1).f1)) := (zX BK102.out 1).trans rfl; have hfz17_0 := zY BK102.out 0; have hfz17_1 := zY BK102.out 1)); try go_wp2_with (first | (go_at_call 71; (with_reducible refine (aumbryref03_Write.calls k2 x20_2 t105 _ A14.out).mono ?_); rintro e w16 ⟨rfl, hb⟩; replace HO_5 := zM (Kd.R_below (zr HO_5.out) hb); replace BK102 := zM (blk_below (g := gb102) (o := .cells #[.string x103000_2, .int .i64 ((rd_T33 l0 x11_1).f1)] 33 (0, 0)) (zk BK102.out) hb); replace HB := zM (below_step zb hb); (try clear hb); have hcz17_0 : w16.cell? ⟨gb102, 0, none⟩ = some (.string x103000_2) := (zX BK102.out 0).trans rfl; have hcz17_1 : w16.cell? ⟨gb102, 1, none⟩ = some (.int .i64 ((rd_T33 l0 x11_1).f1)) := (zX BK102.out 1).trans rfl; have hfz17_0 := zY BK102.out 0; have hfz17_1 := zY BK102.out 1)))
               go_roundg k2
               case measure => have := HK1.out; have := HK2.out; omega
               case rel => exact ⟨(wrap64 (x20_2 + 1)), ((⟨#[88]⟩ : ByteArray) ++ t105), zy, H', ⟨by have := HK1.out; have := HK2.out; omega⟩, ⟨by (with_reducible repeat (first | apply Kd.R_alloc | apply Kd.R_drewN | apply Kd.R_drew)); exact Kd.R_mono (Kd.R_far (p := ⟨gb102, 0, none⟩) (Kd.R_mono HO_5.out (fun k_ hk => (⟨hk, hk⟩ : _ ∧ k_ ≠ gb102))) (fun _ hk => hk.2) (.string ((⟨#[88]⟩ : ByteArray) ++ t105))) (fun _ hk => hk.1)⟩, ⟨by refine zk ?_; refine blk_put (cs := #[.string x103000_2, .int .i64 ((rd_T33 l0 x11_1).f1)]) ?_ 0 _ rfl; refine zk ?_; exact BK102.out⟩, ⟨zb⟩⟩
              ·
               rw [if_neg c15] at H
               exact absurd H (by simp)
             ·
              rw [if_neg c13] at H
              have c13b0 : (((rd_T33 l0 x11_1).f0).toList == (rdOf ByteArray.empty l1 x20_2).toList) = false := zE c13
              have c13b1 : (((rd_T33 l0 x11_1).f0).toList != (rdOf ByteArray.empty l1 x20_2).toList) = true := zF c13
              have H' := zM H
              clear H
              have p103 : 0 ≤ (x11_1 : Int) := zT zv
              have q103 : x11_1 < (l0.length : Int) := zT zv
              obtain ⟨ad103, e103, hx103_0, hx103_1⟩ := at_T33 HR0.out x11_1 p103 q103
              obtain rfl : ad101 = ad103 := (by injection e103)
              replace hx103_0 := (HB.out.cell (World.block_lt_of_cell? w _ hx103_0)).trans hx103_0
              replace hx103_1 := (HB.out.cell (World.block_lt_of_cell? w _ hx103_1)).trans hx103_1
              replace p103 := eq_true p103
              replace q103 := eq_true q103
              have p104 : 0 ≤ (x20_2 : Int) := zT zv
              have q104 : x20_2 < (l1.length : Int) := zT zv
              obtain ⟨ad104, e104, hx104_0⟩ := Kd.at_string HR1.out x20_2 p104 q104
              cases e104
              replace hx104_0 := (HB.out.cell (World.block_lt_of_cell? w _ hx104_0)).trans hx104_0
              replace p104 := eq_true p104
              replace q104 := eq_true q104
              go_wp2
              repeat (go_quiet (fail); try go_wp2)
              go_roundg k2
              case measure => have := HK1.out; have := HK2.out; omega
              case rel => exact ⟨(wrap64 (x20_2 + 1)), (x103000_2), zy, H', ⟨by have := HK1.out; have := HK2.out; omega⟩, ⟨zr HO_5.out⟩, ⟨by refine zk ?_; exact BK102.out⟩, ⟨zb⟩⟩
            ·
             rw [if_neg c12] at H
             exact absurd H (by simp)
           ·
            rw [if_neg c11] at H
            exact absurd H (by simp)
          ·
           rw [if_neg c10] at H
           exact absurd H (by simp)
         ·
          rw [if_neg c9] at H
          exact absurd H (by simp)
        ·
         rw [if_neg c8] at H
         have c8b0 : decide (x20_2 < (l1.length : Int)) = false := zR c8
         clear c8
         by_cases c18 : x5_1.length < 5864062014805
         ·
          rw [if_pos c18] at H
          have LMc18 := zM c18
          clear c18
          obtain ⟨y106, hy106⟩ : ∃ y_ : List (S33), y_ = (x5_1 ++ [(⟨x103000_2, ((rd_T33 l0 x11_1).f1)⟩ : S33)]) := ⟨_, rfl⟩
          replace H : (aumbryref06_named.l0 k2 l0 l1 y106 (l0.length : Int) (wrap64 (x11_1 + 1))) = some r := by first | (rw [hy106]; with_reducible exact H) | (have H2_ := (Option.bind_some _ _).symm.trans H; rw [hy106]; with_reducible exact H2_) | (have H2_ := (Option.bind_some _ _).symm.trans H; with_reducible exact H2_) | with_reducible exact H | (rw [hy106]; exact H) | exact H
          have Ny106 := zM hy106
          clear hy106
          have H' := zM H
          clear H
          have hcz19_0 : wr.cell? ⟨gb102, 0, none⟩ = some (.string x103000_2) := (zX BK102.out 0).trans rfl
          have hcz19_1 : wr.cell? ⟨gb102, 1, none⟩ = some (.int .i64 ((rd_T33 l0 x11_1).f1)) := (zX BK102.out 1).trans rfl
          have hfz19_0 := zY BK102.out 0
          have hfz19_1 := zY BK102.out 1
          go_wp2_with (first | ((with_reducible refine gate_builtin (b := .append) (xs := #[.tmp 38, .tmp 40]) rfl ?_); at_builtin; refine Kd.R_append k33 (w0 := w) w.heap.size rfl (.tmp 38) (.tmp 40) 23 33 (.agg #[(.string ⟨#[]⟩), (.int .i64 0)]) 24 rfl Tryd.underlying23 info33 rfl (by decide) (by omega) u5 x5_1 (⟨x103000_2, ((rd_T33 l0 x11_1).f1)⟩ : S33) [.string x103000_2, .int .i64 ((rd_T33 l0 x11_1).f1)] (fun k_ => k_ ≠ gb102) (fun _ => False) rfl rfl ?aP (fun _ hk => hk.elim) ?aF ?aO ?aB ?aS ?aL ?_; (case aP => exact k33_mkM _ _ _ (⟨x103000_2, ((rd_T33 l0 x11_1).f1)⟩ : S33)); (case aB => exact zb); (case aF => exact (fun k_ hk => Kd.freshB (g := gb102) (o := .cells #[.string x103000_2, .int .i64 ((rd_T33 l0 x11_1).f1)] 33 (0, 0)) (zk BK102.out) k_ hk)); (case aO => exact (zr HO_5.out)); (case aS => exact (below_size zb)); (case aL => have := LMc18.out; omega); intro v107 w20 ho hb hg hat; rw [← Ny106.out] at ho; replace BK102 := zM (blk_grown (g := gb102) (o := .cells #[.string x103000_2, .int .i64 ((rd_T33 l0 x11_1).f1)] 33 (0, 0)) (zk BK102.out) hg (Kd.R_away HO_5.out (fun _ hk => hk))); replace HB := zM (hb); have HO108 := zM (ho); clear HO_5; clear ho hb hg hat))
          repeat (go_quiet (first | ((with_reducible refine gate_builtin (b := .append) (xs := #[.tmp 38, .tmp 40]) rfl ?_); at_builtin; refine Kd.R_append k33 (w0 := w) w.heap.size rfl (.tmp 38) (.tmp 40) 23 33 (.agg #[(.string ⟨#[]⟩), (.int .i64 0)]) 24 rfl Tryd.underlying23 info33 rfl (by decide) (by omega) u5 x5_1 (⟨x103000_2, ((rd_T33 l0 x11_1).f1)⟩ : S33) [.string x103000_2, .int .i64 ((rd_T33 l0 x11_1).f1)] (fun k_ => k_ ≠ gb102) (fun _ => False) rfl rfl ?aP (fun _ hk => hk.elim) ?aF ?aO ?aB ?aS ?aL ?_; (case aP => exact k33_mkM _ _ _ (⟨x103000_2, ((rd_T33 l0 x11_1).f1)⟩ : S33)); (case aB => exact zb); (case aF => exact (fun k_ hk => Kd.freshB (g := gb102) (o := .cells #[.string x103000_2, .int .i64 ((rd_T33 l0 x11_1).f1)] 33 (0, 0)) (zk BK102.out) k_ hk)); (case aO => exact (zr HO_5.out)); (case aS => exact (below_size zb)); (case aL => have := LMc18.out; omega); intro v107 w20 ho hb hg hat; rw [← Ny106.out] at ho; replace BK102 := zM (blk_grown (g := gb102) (o := .cells #[.string x103000_2, .int .i64 ((rd_T33 l0 x11_1).f1)] 33 (0, 0)) (zk BK102.out) hg (Kd.R_away HO_5.out (fun _ hk => hk))); replace HB := zM (hb); have HO108 := zM (ho); clear HO_5; clear ho hb hg hat)); try go_wp2_with (first | ((with_reducible refine gate_builtin (b := .append) (xs := #[.tmp 38, .tmp 40]) rfl ?_); at_builtin; refine Kd.R_append k33 (w0 := w) w.heap.size rfl (.tmp 38) (.tmp 40) 23 33 (.agg #[(.string ⟨#[]⟩), (.int .i64 0)]) 24 rfl Tryd.underlying23 info33 rfl (by decide) (by omega) u5 x5_1 (⟨x103000_2, ((rd_T33 l0 x11_1).f1)⟩ : S33) [.string x103000_2, .int .i64 ((rd_T33 l0 x11_1).f1)] (fun k_ => k_ ≠ gb102) (fun _ => False) rfl rfl ?aP (fun _ hk => hk.elim) ?aF ?aO ?aB ?aS ?aL ?_; (case aP => exact k33_mkM _ _ _ (⟨x103000_2, ((rd_T33 l0 x11_1).f1)⟩ : S33)); (case aB => exact zb); (case aF => exact (fun k_ hk => Kd.freshB (g := gb102) (o := .cells #[.string x103000_2, .int .i64 ((rd_T33 l0 x11_1).f1)] 33 (0, 0)) (zk BK102.out) k_ hk)); (case aO => exact (zr HO_5.out)); (case aS => exact (below_size zb)); (case aL => have := LMc18.out; omega); intro v107 w20 ho hb hg hat; rw [← Ny106.out] at ho; replace BK102 := zM (blk_grown (g := gb102) (o := .cells #[.string x103000_2, .int .i64 ((rd_T33 l0 x11_1).f1)] 33 (0, 0)) (zk BK102.out) hg (Kd.R_away HO_5.out (fun _ hk => hk))); replace HB := zM (hb); have HO108 := zM (ho); clear HO_5; clear ho hb hg hat)))
          go_roundg k2
          case measure => have := HK1.out; have := HK2.out; omega
          case rel => exact ⟨(y106), (wrap64 (x11_1 + 1)), zy, H', ⟨by have := HK1.out; have := HK2.out; omega⟩, ⟨by (with_reducible repeat (first | apply Kd.R_alloc | apply Kd.R_drewN | apply Kd.R_drew)); exact Kd.R_mono HO108.out (fun _ hk => trivial)⟩, ⟨zb⟩⟩
         ·
          rw [if_neg c18] at H
          exact absurd H (by simp)
     ·
      rw [if_neg c5] at H
      exact absurd H (by simp)
    ·
     rw [if_neg c4] at H
     exact absurd H (by simp)
   ·
    rw [if_neg c3] at H
    have c3b0 : decide (x11_1 < (l0.length : Int)) = false := zR c3
    clear c3
    obtain rfl := zS H
    go_wp2
    repeat (go_quiet (fail); try go_wp2)
    go_ret
    exact ⟨_, zw, zr HO_5.out, zb⟩


-- ==== PF21

def aumbryref06_Plain.f (k : Nat) (a0_0 : Int) (l0_1 : List (S33)) (l0_2 : List (S33)) : Option (Int × (List (S33)) × (List (S33))) := (aumbryref04_Vars.f k l0_1).bind fun t103 => ((aumbryref06_named.f k l0_1 t103).bind fun t106 => ((aumbryref06_named.f k l0_2 t103).bind fun t109 => (some (a0_0, t106, t109))))
theorem aumbryref06_Plain.mono : ∀ a0 a1 a2 k, LeO (aumbryref06_Plain.f k a0 a1 a2) (aumbryref06_Plain.f (k + 1) a0 a1 a2) := by
 intro a0 a1 a2 k
 unfold aumbryref06_Plain.f
 repeat' first
  | (with_reducible exact aumbryref04_Vars.mono _ _)
  | (with_reducible exact aumbryref06_named.mono _ _ _)
  | (with_reducible exact LeO.refl _)
  | (with_reducible exact LeO.none _)
  | (with_reducible refine LeO.ite ?_ ?_)
  | (with_reducible refine LeO.bind ?_ (fun _ => ?_))
def aumbryref06_Plain.T2 : Bool × List (List Nat × List Nat) := (true, [([], []), ([0], [0]), ([], []), ([2], [2]), ([], []), ([3, 4], [3, 4]), ([], []), ([6], [6]), ([], []), ([7, 8, 5], [7, 8]), ([1, 5, 9], [1, 5, 9]), ([10, 9, 0, 1, 2, 3, 4, 5, 6, 7, 8, 9, 10], [10])])
def aumbryref06_Plain.B2 : List Nat := [0, 1, 0, 4, 0, 28, 0, 64, 0, 508, 1023, 2047]
theorem aumbryref06_Plain.tab2 : rtab .any (opsOf Tryd.f21 2) = aumbryref06_Plain.T2 := by kernel_rfl
theorem aumbryref06_Plain.bits2 : waitsOk aumbryref06_Plain.T2.2 aumbryref06_Plain.B2 = true := by kernel_rfl
theorem aumbryref06_Plain.calls (k : Nat) (a0_0 : Int) (A0_1 : Option Addr) (c0_1 : Nat) (l0_1 : List (S33)) (A0_2 : Option Addr) (c0_2 : Nat) (l0_2 : List (S33)) (r1 : Int) (r2 : List (S33)) (r3 : List (S33)) (w : World) (hr0_1 : Kd.C k33 w A0_1 l0_1.length l0_1) (hc0_1 : l0_1.length ≤ c0_1) (hr0_2 : Kd.C k33 w A0_2 l0_2.length l0_2) (hc0_2 : l0_2.length ≤ c0_2) (h : aumbryref06_Plain.f k a0_0 l0_1 l0_2 = some (r1, r2, r3)) :
 Calls Tryd.prog 21 #[.agg #[.int .i64 a0_0, .slice A0_1 l0_1.length c0_1, .slice A0_2 l0_2.length c0_2]] w fun e w' => ∃ v1_ v2_ : Value, e = .returned (.agg #[.int .i64 r1, v1_, v2_]) ∧ Kd.R k33 33 w' w.heap.size (fun k_ => some k_ ≠ (v2_ : Value).ownBlock) v1_ r2 ∧ Kd.R k33 33 w' w.heap.size (fun k_ => some k_ ≠ (v1_ : Value).ownBlock) v2_ r3 ∧ Below w.heap.size w w' := by
 have hu25 := Tryd.underlying25
 have HR0_1 := zM hr0_1
 have HC0_1 := zM hc0_1
 clear hr0_1 hc0_1
 have HR0_2 := zM hr0_2
 have HC0_2 := zM hc0_2
 clear hr0_2 hc0_2
 have HB := zM (Below.refl w.heap.size w)
 have H : ((aumbryref04_Vars.f k l0_1).bind fun t103 => ((aumbryref06_named.f k l0_1 t103).bind fun t106 => ((aumbryref06_named.f k l0_2 t103).bind fun t109 => (some (a0_0, t106, t109))))) = some (r1, r2, r3) := h
 clear h
 replace H := zB H
 obtain ⟨t103, A20, H⟩ := H
 try dsimp only at H
 have A2 := zM A20
 clear A20
 replace H := zB H
 obtain ⟨t106, A30, H⟩ := H
 try dsimp only at H
 have A3 := zM A30
 clear A30
 replace H := zB H
 obtain ⟨t109, A40, H⟩ := H
 try dsimp only at H
 have A4 := zM A40
 clear A40
 simp only [Option.some.injEq, Prod.mk.injEq] at H
 obtain ⟨rfl, rfl, rfl⟩ := H
 go_enter Tryd.func21, Tryd.ntmps21
 try go_wp2_with (first | ((with_reducible refine gate_dst (N := 1) rfl ?_); refine box_event ?hg (N := 1) ?hd (cs := #[.int .i64 a0_0, .slice A0_1 l0_1.length c0_1, .slice A0_2 l0_2.length c0_2]) (t := 25) ?hr ?_; (case hd => rfl); (case hg => rfl); (case hr => first | (go_simp; done) | (go_simp; rfl)); intro gb101 hg w5 hbox hb; have BK101 := zM (hbox); have GW101 := zM (zh hg : w.heap.size ≤ gb101); have GE101 := zM (zh hg : w.heap.size ≤ gb101); replace HB := zM (below_step zb hb); clear hb hbox hg) | ((with_reducible refine gate_dst (N := 2) rfl ?_); refine box_event ?hg (N := 2) ?hd (cs := #[.int .i64 0, .slice none 0 0, .slice none 0 0]) (t := 25) ?hr ?_; (case hd => rfl); (case hg => rfl); (case hr => first | (go_simp; done) | (go_simp; rfl)); intro gb102 hg w6 hbox hb; have BK102 := zM (hbox); have GW102 := zM (zh hg : w.heap.size ≤ gb102); have GE102 := zM (zh hg : w.heap.size ≤ gb102); replace HB := zM (below_step zb hb); have NB101_102 := zM ((by rw [hg]; exact Nat.ne_of_lt (blk_lt (zk BK101.out)) : gb101 ≠ gb102)); have NB102_101 := zM ((by rw [hg]; exact Nat.ne_of_gt (blk_lt (zk BK101.out)) : gb102 ≠ gb101)); replace BK101 := zM (blk_below (zk BK101.out) hb); clear hb hbox hg; have hnb7 := NB101_102.out; have hnc7 := NB102_101.out; have hcz8_0 : w6.cell? ⟨gb101, 0, none⟩ = some (.int .i64 a0_0) := (zX BK101.out 0).trans rfl; have hcz8_1 : w6.cell? ⟨gb101, 1, none⟩ = some (.slice A0_1 l0_1.length c0_1) := (zX BK101.out 1).trans rfl; have hcz8_2 : w6.cell? ⟨gb101, 2, none⟩ = some (.slice A0_2 l0_2.length c0_2) := (zX BK101.out 2).trans rfl; have hfz8_0 := zY BK101.out 0; have hfz8_1 := zY BK101.out 1; have hfz8_2 := zY BK101.out 2) | ((with_reducible refine gate_callee (f := 39) rfl ?_); refine goesL_ (some 6) rfl rfl Tryd.func39 (by kernel_rfl) rfl #[.slice A0_1 l0_1.length c0_1] rfl zl ?_; (with_reducible refine (aumbryref04_Vars.calls k _ _ l0_1 t103 _ ?side1 ?side2 A2.out).mono ?_); (case side1 => exact Kd.C_below HR0_1.out zb); (case side2 => exact HC0_1.out); rintro e w9 ⟨v104, rfl, ho0, hb⟩; refine ⟨_, rfl, ?_⟩; have HO105 := zM (Kd.R_lower ho0 (below_size zb)); replace BK101 := zM (blk_below (zk BK101.out) hb); replace BK102 := zM (blk_below (zk BK102.out) hb); replace HB := zM (below_step zb hb); (try clear hb); (try clear ho0)))
 have n0_ := zM (Kd.R_drew HO105.out)
 have n1_ := zM (blk_drew BK101.out)
 have n2_ := zM (blk_drew BK102.out)
 have n3_ := zM (zD HB.out)
 clear HO105
 clear BK101
 clear BK102
 clear HB
 have HO105 := n0_
 have BK101 := n1_
 have BK102 := n2_
 have HB := n3_
 clear n0_ n1_ n2_ n3_
 obtain ⟨Ao11, co11, eo11⟩ := Kd.R_slice HO105.out
 (first | subst eo11 | (injection eo11 with f1_ f2_ f3_; have f4_ := f1_.symm; have f5_ := f3_.symm; clear f1_ f2_ f3_; subst f4_; subst f5_))
 refine start_ (n := 12) (S := fun w' => w'.cell? ⟨gb101, 0, none⟩ = some (.int .i64 a0_0) ∧ w'.cell? ⟨gb101, 1, none⟩ = some (.slice A0_1 l0_1.length c0_1) ∧ w'.cell? ⟨gb101, 2, none⟩ = some (.slice A0_2 l0_2.length c0_2)) (ds := []) #[false, false, false, false, false, false, false, false, false, false, false, false] (by kernel_rfl) rfl rfl ⟨(zX BK101.out 0).trans rfl, (zX BK101.out 1).trans rfl, (zX BK101.out 2).trans rfl⟩ (fun hHeld => ?_); refine with_tabW aumbryref06_Plain.tab2 aumbryref06_Plain.bits2 (fun HT_ HW_ => ?_)
 generalize w9.drew = w10 at HO105 BK101 BK102 HB hHeld ⊢
 refine pure_ (i := 0) (N := some 7) (v := ?_) (a' := ?_) #[true, false, false, false, false, false, false, false, false, false, false, false] rfl rfl (any_of HT_.out (by kernel_rfl)) (fun _ _ _ h => h) (Or.inl ⟨by rfl, ?_⟩) ?_ ?_
 rotate_left
 ·
  intro w'
  go_simp
  with_reducible rfl
 rotate_left
 ·
  simp only [Act.put, zp1, zp2, zp3, i64_w, i32_w]
  rfl
 refine pure_ (i := 2) (N := some 9) (v := ?_) (a' := ?_) #[true, false, true, false, false, false, false, false, false, false, false, false] rfl rfl (any_of HT_.out (by kernel_rfl)) (fun _ _ _ h => h) (Or.inl ⟨by rfl, ?_⟩) ?_ ?_
 rotate_left
 ·
  intro w'
  go_simp
  with_reducible rfl
 rotate_left
 ·
  simp only [Act.put, zp1, zp2, zp3, i64_w, i32_w]
  rfl
 refine pure_ (i := 4) (N := some 11) (v := ?_) (a' := ?_) #[true, false, true, false, true, false, false, false, false, false, false, false] rfl rfl (any_of HT_.out (by kernel_rfl)) (fun _ _ _ h => h) (Or.inl ⟨by rfl, ?_⟩) ?_ ?_
 rotate_left
 ·
  intro w'
  go_simp
  with_reducible rfl
 rotate_left
 ·
  simp only [Act.put, zp1, zp2, zp3, i64_w, i32_w]
  rfl
 refine pure_ (i := 6) (N := some 13) (v := ?_) (a' := ?_) #[true, false, true, false, true, false, true, false, false, false, false, false] rfl rfl (any_of HT_.out (by kernel_rfl)) (fun _ _ _ h => h) (Or.inl ⟨by rfl, ?_⟩) ?_ ?_
 rotate_left
 ·
  intro w'
  go_simp
  with_reducible rfl
 rotate_left
 ·
  simp only [Act.put, zp1, zp2, zp3, i64_w, i32_w]
  rfl
 refine pure_ (i := 8) (N := some 15) (v := ?_) (a' := ?_) #[true, false, true, false, true, false, true, false, true, false, false, false] rfl rfl (any_of HT_.out (by kernel_rfl)) (fun _ _ _ h => h) (Or.inl ⟨by rfl, ?_⟩) ?_ ?_
 rotate_left
 ·
  intro w'
  go_simp
  with_reducible rfl
 rotate_left
 ·
  simp only [Act.put, zp1, zp2, zp3, i64_w, i32_w]
  rfl
 refine take_ (i := 1) (N := some 8) (v := ?_) (a' := ?_) #[true, true, true, false, true, false, true, false, true, false, false, false] rfl rfl (take_ofW HT_.out HW_.out (by kernel_rfl)) (fun _ _ _ h => h) (Or.inl ⟨by rfl, ?_⟩) hHeld ?_ ?_
 rotate_left
 ·
  rintro w' ⟨s0, s1, s2⟩
  go_simp
  with_reducible rfl
 rotate_left
 ·
  simp only [Act.put, zp1, zp2, zp3, i64_w, i32_w]
  rfl
 refine take_ (i := 3) (N := some 10) (v := ?_) (a' := ?_) #[true, true, true, true, true, false, true, false, true, false, false, false] rfl rfl (take_ofW HT_.out HW_.out (by kernel_rfl)) (fun _ _ _ h => h) (Or.inl ⟨by rfl, ?_⟩) hHeld ?_ ?_
 rotate_left
 ·
  rintro w' ⟨s0, s1, s2⟩
  go_simp
  with_reducible rfl
 rotate_left
 ·
  simp only [Act.put, zp1, zp2, zp3, i64_w, i32_w]
  rfl
 refine take_ (i := 7) (N := some 14) (v := ?_) (a' := ?_) #[true, true, true, true, true, false, true, true, true, false, false, false] rfl rfl (take_ofW HT_.out HW_.out (by kernel_rfl)) (fun _ _ _ h => h) (Or.inl ⟨by rfl, ?_⟩) hHeld ?_ ?_
 rotate_left
 ·
  rintro w' ⟨s0, s1, s2⟩
  go_simp
  with_reducible rfl
 rotate_left
 ·
  simp only [Act.put, zp1, zp2, zp3, i64_w, i32_w]
  rfl
 refine one_ (i := 5) (N := some 12) #[true, true, true, true, true, true, true, true, true, false, false, false] rfl rfl (one_of HT_.out (by kernel_rfl)) (by decide) (fun K hK => ?_)
 refine goes_ Tryd.func50 (by kernel_rfl) rfl #[.slice A0_1 l0_1.length c0_1, .slice Ao11 t103.length co11] (by rfl) rfl rfl zl ?_
 with_reducible refine (aumbryref06_named.calls k _ _ l0_1 _ _ t103 t106 _ ?side1 ?side2 ?side3 ?side4 A3.out).mono ?_
 (case side1 => exact Kd.C_below HR0_1.out zb)
 (case side2 => exact HC0_1.out)
 (case side3 => exact Kd.C_below (Kd.R_reads' HO105.out).2.2 zg)
 (case side4 => exact (Kd.R_reads' HO105.out).2.1)
 rintro e w12 ⟨v107, rfl, ho0, hb⟩
 refine ⟨_, rfl, ?_⟩
 have n0_ := zM (Kd.R_below (zr HO105.out) hb)
 have n1_ := zM (Kd.R_lower ho0 (below_size zb))
 have n2_ := zM (blk_below (zk BK101.out) hb)
 have n3_ := zM (blk_below (zk BK102.out) hb)
 have n4_ := zM (below_step zb hb)
 clear HO105
 clear BK101
 clear BK102
 clear HB
 have HO105 := n0_
 have HO108 := n1_
 have BK101 := n2_
 have BK102 := n3_
 have HB := n4_
 clear n0_ n1_ n2_ n3_ n4_
 (try clear hb)
 (try clear hb2)
 (try clear hk)
 (try clear hi)
 (try clear ho0)
 refine hK.out _ _ ⟨(zX BK101.out 0).trans rfl, (zX BK101.out 1).trans rfl, (zX BK101.out 2).trans rfl⟩ (fun hHeld => ?_)
 clear hK K
 refine norm_ (a' := ?_) ?_ ?_
 rotate_left
 ·
  show Act.put _ (some 12) _ = _
  simp only [Act.put, zp1, zp2, zp3, i64_w, i32_w]
  rfl
 refine one_ (i := 9) (N := some 16) #[true, true, true, true, true, true, true, true, true, true, false, false] rfl rfl (one_of HT_.out (by kernel_rfl)) (by decide) (fun K hK => ?_)
 refine goes_ Tryd.func50 (by kernel_rfl) rfl #[.slice A0_2 l0_2.length c0_2, .slice Ao11 t103.length co11] (by rfl) rfl rfl zl ?_
 with_reducible refine (aumbryref06_named.calls k _ _ l0_2 _ _ t103 t109 _ ?side1 ?side2 ?side3 ?side4 A4.out).mono ?_
 (case side1 => exact Kd.C_below HR0_2.out zb)
 (case side2 => exact HC0_2.out)
 (case side3 => exact Kd.C_below (Kd.R_reads' HO105.out).2.2 zg)
 (case side4 => exact (Kd.R_reads' HO105.out).2.1)
 rintro e w13 ⟨v110, rfl, ho0, hb⟩
 refine ⟨_, rfl, ?_⟩
 have n0_ := zM (Kd.R_below (zr HO105.out) hb)
 have n1_ := zM (Kd.R_elder' (zr HO108.out) (Kd.R_base ho0) hb)
 have n2_ := zM (Kd.R_lower (Kd.R_new' ho0 (Kd.R_lt (zr HO108.out))) (below_size zb))
 have n3_ := zM (blk_below (zk BK101.out) hb)
 have n4_ := zM (blk_below (zk BK102.out) hb)
 have n5_ := zM (below_step zb hb)
 clear HO105
 clear HO108
 clear BK101
 clear BK102
 clear HB
 have HO105 := n0_
 have HO108 := n1_
 have HO111 := n2_
 have BK101 := n3_
 have BK102 := n4_
 have HB := n5_
 clear n0_ n1_ n2_ n3_ n4_ n5_
 (try clear hb)
 (try clear hb2)
 (try clear hk)
 (try clear hi)
 (try clear ho0)
 obtain ⟨Ao14, co14, eo14⟩ := Kd.R_slice HO111.out
 (first | subst eo14 | (injection eo14 with f1_ f2_ f3_; have f4_ := f1_.symm; have f5_ := f3_.symm; clear f1_ f2_ f3_; subst f4_; subst f5_))
 obtain ⟨Ao15, co15, eo15⟩ := Kd.R_slice HO108.out
 (first | subst eo15 | (injection eo15 with f1_ f2_ f3_; have f4_ := f1_.symm; have f5_ := f3_.symm; clear f1_ f2_ f3_; subst f4_; subst f5_))
 refine hK.out _ _ ⟨(zX BK101.out 0).trans rfl, (zX BK101.out 1).trans rfl, (zX BK101.out 2).trans rfl⟩ (fun hHeld => ?_)
 clear hK K
 refine norm_ (a' := ?_) ?_ ?_
 rotate_left
 ·
  show Act.put _ (some 16) _ = _
  simp only [Act.put, zp1, zp2, zp3, i64_w, i32_w]
  rfl
 refine pure_ (i := 10) (N := some 17) (v := ?_) (a' := ?_) #[true, true, true, true, true, true, true, true, true, true, true, false] rfl rfl (any_of HT_.out (by kernel_rfl)) (fun _ _ _ h => h) (Or.inl ⟨by rfl, ?_⟩) ?_ ?_
 rotate_left
 ·
  intro w'
  go_simp
  with_reducible rfl
 rotate_left
 ·
  simp only [Act.put, zp1, zp2, zp3, i64_w, i32_w]
  rfl
 refine one_ (i := 11) (N := none) #[true, true, true, true, true, true, true, true, true, true, true, true] rfl rfl (one_of HT_.out (by kernel_rfl)) (by decide) (fun K hK => ?_)
 have hs16 : w13.cell? ⟨gb102, 0, none⟩ = some (.int .i64 0) := (zX BK102.out 0).trans rfl
 have hfs16 := zY BK102.out 0
 have hns16_0 := NB101_102.out
 have hms16_0 := NB102_101.out
 have hs17 : w13.cell? ⟨gb102, 1, none⟩ = some (.slice none 0 0) := (zX BK102.out 1).trans rfl
 have hfs17 := zY BK102.out 1
 have hns17_0 := NB101_102.out
 have hms17_0 := NB102_101.out
 have hs18 : w13.cell? ⟨gb102, 2, none⟩ = some (.slice none 0 0) := (zX BK102.out 2).trans rfl
 have hfs18 := zY BK102.out 2
 have hns18_0 := NB101_102.out
 have hms18_0 := NB102_101.out
 refine skip_ (w1 := ?_) (by rfl) rfl ?_ ?_
 rotate_left
 ·
  go_simp
  rfl
 refine hK.out _ _ ⟨((cell_far (p := ⟨gb102, _, none⟩) NB101_102.out _).trans (((cell_far (p := ⟨gb102, _, none⟩) NB101_102.out _).trans (((cell_far (p := ⟨gb102, _, none⟩) NB101_102.out _).trans (hHeld.1)))))), ((cell_far (p := ⟨gb102, _, none⟩) NB101_102.out _).trans (((cell_far (p := ⟨gb102, _, none⟩) NB101_102.out _).trans (((cell_far (p := ⟨gb102, _, none⟩) NB101_102.out _).trans (hHeld.2.1)))))), ((cell_far (p := ⟨gb102, _, none⟩) NB101_102.out _).trans (((cell_far (p := ⟨gb102, _, none⟩) NB101_102.out _).trans (((cell_far (p := ⟨gb102, _, none⟩) NB101_102.out _).trans (hHeld.2.2))))))⟩ (fun hHeld => ?_)
 clear hK K
 refine done_ (done_of HT_.out (by kernel_rfl)) ?_
 try go_wp2
 refine bodyPost_ret (results_cell_row rfl _ _ gb102 25 #[.int .i64 a0_0, .slice Ao15 t106.length co15, .slice Ao14 t109.length co14] (0, 0) _ rfl (by refine zk ?_; refine blk_put (cs := #[.int .i64 a0_0, .slice Ao15 t106.length co15, .slice none 0 0]) ?_ 2 _ rfl; refine zk ?_; refine blk_put (cs := #[.int .i64 a0_0, .slice none 0 0, .slice none 0 0]) ?_ 1 _ rfl; refine zk ?_; refine blk_put (cs := #[.int .i64 0, .slice none 0 0, .slice none 0 0]) ?_ 0 _ rfl; refine zk ?_; exact BK102.out) Tryd.underlying25 rfl (by kernel_rfl)) rfl ?_
 exact ⟨_, _, zw, by (with_reducible repeat (first | apply Kd.R_alloc | apply Kd.R_drewN | apply Kd.R_drew)); exact Kd.R_mono (Kd.R_far (p := ⟨gb102, 2, none⟩) (Kd.R_far (p := ⟨gb102, 1, none⟩) (Kd.R_far (p := ⟨gb102, 0, none⟩) (Kd.R_types HO108.out BK102.out (by decide)) (fun _ hk => hk.2) (.int .i64 a0_0)) (fun _ hk => hk.2) (.slice Ao15 t106.length co15)) (fun _ hk => hk.2) (.slice Ao14 t109.length co14)) (fun _ hk => hk.1.2), by (with_reducible repeat (first | apply Kd.R_alloc | apply Kd.R_drewN | apply Kd.R_drew)); exact Kd.R_mono (Kd.R_far (p := ⟨gb102, 2, none⟩) (Kd.R_far (p := ⟨gb102, 1, none⟩) (Kd.R_far (p := ⟨gb102, 0, none⟩) (Kd.R_types HO111.out BK102.out (by decide)) (fun _ hk => hk.2) (.int .i64 a0_0)) (fun _ hk => hk.2) (.slice Ao15 t106.length co15)) (fun _ hk => hk.2) (.slice Ao14 t109.length co14)) (fun _ hk => hk.1.2), zb⟩


-- ==== PF76

def aumbryref05_At.l0 : Nat → List (S109) → ByteArray → Int → Int → Option (Int)
 | 0, _, _, _, _ => none
 | k + 1, x0, x1, x7, x8 => if x8 < x7 then (if 0 ≤ x8 then (if x8 < (x0.length : Int) then (if ((rd_T109 x0 x8).f0).toList = x1.toList then (some x8) else (aumbryref05_At.l0 k x0 x1 x7 (wrap64 (x8 + 1)))) else (none)) else (none)) else (some (-1))
def aumbryref05_At.f (k : Nat) (l0 : List (S109)) (a1 : ByteArray) : Option (Int) := aumbryref05_At.l0 k l0 a1 (l0.length : Int) 0
theorem aumbryref05_At.mono_l : ∀ k, (∀ y0 y1 y2 y3, LeO (aumbryref05_At.l0 k y0 y1 y2 y3) (aumbryref05_At.l0 (k + 1) y0 y1 y2 y3))
 | 0 => fun _ _ _ _ r h => by simp [aumbryref05_At.l0] at h
 | k + 1 => by
  have ih0 := aumbryref05_At.mono_l k
  ·
   intro y0 y1 y2 y3
   unfold aumbryref05_At.l0
   repeat' first
   | (with_reducible exact ih0 _ _ _ _)
   | (with_reducible exact LeO.refl _)
   | (with_reducible exact LeO.none _)
   | (with_reducible refine LeO.ite ?_ ?_)
   | (with_reducible refine LeO.bind ?_ (fun _ => ?_))
theorem aumbryref05_At.mono : ∀ a0 a1 k, LeO (aumbryref05_At.f k a0 a1) (aumbryref05_At.f (k + 1) a0 a1) := by
 intro a0 a1 k
 have ih0 := aumbryref05_At.mono_l k
 unfold aumbryref05_At.f
 repeat' first
  | (with_reducible exact ih0 _ _ _ _)
  | (with_reducible exact LeO.refl _)
  | (with_reducible exact LeO.none _)
  | (with_reducible refine LeO.ite ?_ ?_)
  | (with_reducible refine LeO.bind ?_ (fun _ => ?_))
theorem aumbryref05_At.calls (k : Nat) (A0 : Option Addr) (c0 : Nat) (l0 : List (S109)) (a1 : ByteArray) (r : Int) (w : World) (hr0 : Kd.C k109 w A0 l0.length l0) (hc0 : l0.length ≤ c0) (h : aumbryref05_At.f k l0 a1 = some r) :
 Calls Tryd.prog 76 #[.slice A0 l0.length c0, .string a1] w fun e w' => e = .returned (.int .i64 r) ∧ Drawn0 w w' := by
 have HR0 := zM hr0
 have HC0 := zM hc0
 clear hr0 hc0
 have H : (aumbryref05_At.l0 k l0 a1 (l0.length : Int) 0) = some r := h
 clear h
 have H' := zM H
 clear H
 go_enter Tryd.func76, Tryd.ntmps76
 go_wp2
 go_loopg [8] k (fun kq v8 w' => ∃ (x8_1 : Int), v8 = .int .i64 x8_1 ∧ Aside0 (aumbryref05_At.l0 kq l0 a1 (l0.length : Int) x8_1 = some r) ∧ Aside0 (kq ≤ k) ∧ Drawn0 w w')
 case atStart => exact ⟨(0), zy, H', ⟨Nat.le_refl _⟩, zd⟩
 case round =>
  clear H'
  try clear p2
  obtain ⟨x8_1, rfl, HA, HK1, ⟨m1, rfl⟩⟩ := hrel
  cases gk with
  | zero => exact absurd HA.out (by simp [aumbryref05_At.l0])
  | succ k1 =>
   have H := HA.out
   clear HA
   simp only [aumbryref05_At.l0] at H
   by_cases c3 : x8_1 < (l0.length : Int)
   ·
    rw [if_pos c3] at H
    have c3b0 : decide (x8_1 < (l0.length : Int)) = true := zQ c3
    clear c3
    by_cases c4 : 0 ≤ x8_1
    ·
     rw [if_pos c4] at H
     have c4b0 : decide (0 ≤ x8_1) = true := zQ c4
     clear c4
     by_cases c5 : x8_1 < (l0.length : Int)
     ·
      rw [if_pos c5] at H
      have c5b0 : decide (x8_1 < (l0.length : Int)) = true := zQ c5
      clear c5
      by_cases c6 : ((rd_T109 l0 x8_1).f0).toList = a1.toList
      ·
       rw [if_pos c6] at H
       have c6b0 : (((rd_T109 l0 x8_1).f0).toList == a1.toList) = true := zG c6
       have c6b1 : (((rd_T109 l0 x8_1).f0).toList != a1.toList) = false := zH c6
       clear c6
       obtain rfl := zS H
       have p101 : 0 ≤ (x8_1 : Int) := zT zv
       have q101 : x8_1 < (l0.length : Int) := zT zv
       obtain ⟨ad101, A101_1, c101_1, e101, hx101_0, hx101_1, hl101_1, hi101_1⟩ := at_T109 HR0.out x8_1 p101 q101
       cases e101
       have HR101_1 := zM hi101_1
       have HC101_1 := zM hl101_1
       clear hi101_1 hl101_1
       replace p101 := eq_true p101
       replace q101 := eq_true q101
       go_wp2
       go_ret
       exact ⟨zy, zd⟩
      ·
       rw [if_neg c6] at H
       have c6b0 : (((rd_T109 l0 x8_1).f0).toList == a1.toList) = false := zE c6
       have c6b1 : (((rd_T109 l0 x8_1).f0).toList != a1.toList) = true := zF c6
       have H' := zM H
       clear H
       have p101 : 0 ≤ (x8_1 : Int) := zT zv
       have q101 : x8_1 < (l0.length : Int) := zT zv
       obtain ⟨ad101, A101_1, c101_1, e101, hx101_0, hx101_1, hl101_1, hi101_1⟩ := at_T109 HR0.out x8_1 p101 q101
       cases e101
       have HR101_1 := zM hi101_1
       have HC101_1 := zM hl101_1
       clear hi101_1 hl101_1
       replace p101 := eq_true p101
       replace q101 := eq_true q101
       go_wp2
       go_roundg k1
       case measure => have := HK1.out; omega
       case rel => exact ⟨(wrap64 (x8_1 + 1)), zy, H', ⟨by have := HK1.out; omega⟩, zd⟩
     ·
      rw [if_neg c5] at H
      exact absurd H (by simp)
    ·
     rw [if_neg c4] at H
     exact absurd H (by simp)
   ·
    rw [if_neg c3] at H
    have c3b0 : decide (x8_1 < (l0.length : Int)) = false := zR c3
    clear c3
    obtain rfl := zS H
    go_wp2
    go_ret
    exact ⟨zy, zd⟩

end Go.Proofs.YtpnamhplhdaphaaDoor.P
