/- RulePlain: the law answers true at every input that the given row speaks of. Conditions: those of the given row, none besides. (Part 5 of 5; written by programs of this session, which drive the kit's print, and by hand.) -/
import Derived.KernelRfl
import Derived.Test.YtpnamhplhdaphaaDoorCards
import Derived.Test.YtpnamhplhdaphaaDoorTie
import Derived.Deep.DeepHandedRow
import Derived.Lay
import Derived.SevenTiedAt
import Derived.Test.YtpnamhplhdaphaaDoorRows
import Derived.WalkKit
import Derived.ProofKit
import Derived.OpenShut
import Derived.ShutString
import Derived.ChangeOld
import Derived.Below
import Derived.Carry
import Derived.SizedLaws
import Derived.Test.YtpnamhplhdaphaaDoorZRulePlain0
import Derived.Test.YtpnamhplhdaphaaDoorZRulePlain1
import Derived.Test.YtpnamhplhdaphaaDoorZRulePlain2
import Derived.Test.YtpnamhplhdaphaaDoorZRulePlain3
set_option maxHeartbeats 8000000
set_option maxRecDepth 100000
-- ==== PF21
namespace Go.Proofs.YtpnamhplhdaphaaDoor.P
open Go.RowKit Go.Proofs.YtpnamhplhdaphaaDoorW.PrintWords Go.Proofs.YtpnamhplhdaphaaDoorW.PrintLast Go.Proofs.YtpnamhplhdaphaaDoorW.PrintMore
attribute [local go_sem] max2_int min2_int max_two min_two max_three min_three max_four min_four   -- for this text's walks alone
set_option linter.unusedVariables false
set_option linter.unusedSimpArgs false

/-! ### aumbryref06_Plain: function 21 -/
def aumbryref06_Plain.f (k : Nat) (a0_0 : Int) (l0_1 : List (S33)) (l0_2 : List (S33)) : Option (Int × (List (S33)) × (List (S33))) := (aumbryref04_Vars.f k l0_1).bind fun t103 => ((aumbryref06_named.f k l0_1 t103).bind fun t106 => ((aumbryref06_named.f k l0_2 t103).bind fun t109 => (some (a0_0, t106, t109))))
theorem aumbryref06_Plain.mono : ∀ a0 a1 a2 k, LeO (aumbryref06_Plain.f k a0 a1 a2) (aumbryref06_Plain.f (k + 1) a0 a1 a2) := by
 intro a0 a1 a2 k
 unfold aumbryref06_Plain.f
 repeat' first
  | (with_reducible exact aumbryref04_Vars.mono _ _)
  | (with_reducible exact aumbryref06_named.mono _ _ _)
  | (with_reducible exact LeO.refl _)
  | (with_reducible exact LeO.none _)
  | (with_reducible refine LeO.ite ?_ ?_)
  | (with_reducible refine LeO.bind ?_ (fun _ => ?_))
def aumbryref06_Plain.T2 : Bool × List (List Nat × List Nat) := (true, [([], []), ([0], [0]), ([], []), ([2], [2]), ([], []), ([3, 4], [3, 4]), ([], []), ([6], [6]), ([], []), ([7, 8, 5], [7, 8]), ([1, 5, 9], [1, 5, 9]), ([10, 9, 0, 1, 2, 3, 4, 5, 6, 7, 8, 9, 10], [10])])
def aumbryref06_Plain.B2 : List Nat := [0, 1, 0, 4, 0, 28, 0, 64, 0, 508, 1023, 2047]
theorem aumbryref06_Plain.tab2 : rtab .any (opsOf Tryd.f21 2) = aumbryref06_Plain.T2 := by kernel_rfl
theorem aumbryref06_Plain.bits2 : waitsOk aumbryref06_Plain.T2.2 aumbryref06_Plain.B2 = true := by kernel_rfl
theorem aumbryref06_Plain.calls (k : Nat) (a0_0 : Int) (A0_1 : Option Addr) (c0_1 : Nat) (l0_1 : List (S33)) (A0_2 : Option Addr) (c0_2 : Nat) (l0_2 : List (S33)) (r1 : Int) (r2 : List (S33)) (r3 : List (S33)) (w : World) (hr0_1 : Kd.C k33 w A0_1 l0_1.length l0_1) (hc0_1 : l0_1.length ≤ c0_1) (hr0_2 : Kd.C k33 w A0_2 l0_2.length l0_2) (hc0_2 : l0_2.length ≤ c0_2) (h : aumbryref06_Plain.f k a0_0 l0_1 l0_2 = some (r1, r2, r3)) :
 Calls Tryd.prog 21 #[.agg #[.int .i64 a0_0, .slice A0_1 l0_1.length c0_1, .slice A0_2 l0_2.length c0_2]] w fun e w' => ∃ v1_ v2_ : Value, e = .returned (.agg #[.int .i64 r1, v1_, v2_]) ∧ Kd.R k33 33 w' w.heap.size (fun k_ => some k_ ≠ (v2_ : Value).ownBlock) v1_ r2 ∧ Kd.R k33 33 w' w.heap.size (fun k_ => some k_ ≠ (v1_ : Value).ownBlock) v2_ r3 ∧ Below w.heap.size w w' := by
 have hu25 := Tryd.underlying25
 have HR0_1 := zM hr0_1
 have HC0_1 := zM hc0_1
 clear hr0_1 hc0_1
 have HR0_2 := zM hr0_2
 have HC0_2 := zM hc0_2
 clear hr0_2 hc0_2
 have HB := zM (Below.refl w.heap.size w)
 have H : ((aumbryref04_Vars.f k l0_1).bind fun t103 => ((aumbryref06_named.f k l0_1 t103).bind fun t106 => ((aumbryref06_named.f k l0_2 t103).bind fun t109 => (some (a0_0, t106, t109))))) = some (r1, r2, r3) := h
 clear h
 replace H := zB H
 obtain ⟨t103, A20, H⟩ := H
 try dsimp only at H
 have A2 := zM A20
 clear A20
 replace H := zB H
 obtain ⟨t106, A30, H⟩ := H
 try dsimp only at H
 have A3 := zM A30
 clear A30
 replace H := zB H
 obtain ⟨t109, A40, H⟩ := H
 try dsimp only at H
 have A4 := zM A40
 clear A40
 simp only [Option.some.injEq, Prod.mk.injEq] at H
 obtain ⟨rfl, rfl, rfl⟩ := H
 go_enter Tryd.func21, Tryd.ntmps21
 try go_wp2_with (first | ((with_reducible refine gate_dst (N := 1) rfl ?_); refine box_event ?hg (N := 1) ?hd (cs := #[.int .i64 a0_0, .slice A0_1 l0_1.length c0_1, .slice A0_2 l0_2.length c0_2]) (t := 25) ?hr ?_; (case hd => rfl); (case hg => rfl); (case hr => first | (go_simp; done) | (go_simp; rfl)); intro gb101 hg w5 hbox hb; have BK101 := zM (hbox); have GW101 := zM (zh hg : w.heap.size ≤ gb101); have GE101 := zM (zh hg : w.heap.size ≤ gb101); replace HB := zM (below_step zb hb); clear hb hbox hg) | ((with_reducible refine gate_dst (N := 2) rfl ?_); refine box_event ?hg (N := 2) ?hd (cs := #[.int .i64 0, .slice none 0 0, .slice none 0 0]) (t := 25) ?hr ?_; (case hd => rfl); (case hg => rfl); (case hr => first | (go_simp; done) | (go_simp; rfl)); intro gb102 hg w6 hbox hb; have BK102 := zM (hbox); have GW102 := zM (zh hg : w.heap.size ≤ gb102); have GE102 := zM (zh hg : w.heap.size ≤ gb102); replace HB := zM (below_step zb hb); have NB101_102 := zM ((by rw [hg]; exact Nat.ne_of_lt (blk_lt (zk BK101.out)) : gb101 ≠ gb102)); have NB102_101 := zM ((by rw [hg]; exact Nat.ne_of_gt (blk_lt (zk BK101.out)) : gb102 ≠ gb101)); replace BK101 := zM (blk_below (zk BK101.out) hb); clear hb hbox hg; have hnb7 := NB101_102.out; have hnc7 := NB102_101.out; have hcz8_0 : w6.cell? ⟨gb101, 0, none⟩ = some (.int .i64 a0_0) := (zX BK101.out 0).trans rfl; have hcz8_1 : w6.cell? ⟨gb101, 1, none⟩ = some (.slice A0_1 l0_1.length c0_1) := (zX BK101.out 1).trans rfl; have hcz8_2 : w6.cell? ⟨gb101, 2, none⟩ = some (.slice A0_2 l0_2.length c0_2) := (zX BK101.out 2).trans rfl; have hfz8_0 := zY BK101.out 0; have hfz8_1 := zY BK101.out 1; have hfz8_2 := zY BK101.out 2) | ((with_reducible refine gate_callee (f := 39) rfl ?_); refine goesL_ (some 6) rfl rfl Tryd.func39 (by kernel_rfl) rfl #[.slice A0_1 l0_1.length c0_1] rfl zl ?_; (with_reducible refine (aumbryref04_Vars.calls k _ _ l0_1 t103 _ ?side1 ?side2 A2.out).mono ?_); (case side1 => exact Kd.C_below HR0_1.out zb); (case side2 => exact HC0_1.out); rintro e w9 ⟨v104, rfl, ho0, hb⟩; refine ⟨_, rfl, ?_⟩; have HO105 := zM (Kd.R_lower ho0 (below_size zb)); replace BK101 := zM (blk_below (zk BK101.out) hb); replace BK102 := zM (blk_below (zk BK102.out) hb); replace HB := zM (below_step zb hb); (try clear hb); (try clear ho0)))
 have n0_ := zM (Kd.R_drew HO105.out)
 have n1_ := zM (blk_drew BK101.out)
 have n2_ := zM (blk_drew BK102.out)
 have n3_ := zM (zD HB.out)
 clear HO105
 clear BK101
 clear BK102
 clear HB
 have HO105 := n0_
 have BK101 := n1_
 have BK102 := n2_
 have HB := n3_
 clear n0_ n1_ n2_ n3_
 obtain ⟨Ao11, co11, eo11⟩ := Kd.R_slice HO105.out
 (first | subst eo11 | (injection eo11 with f1_ f2_ f3_; have f4_ := f1_.symm; have f5_ := f3_.symm; clear f1_ f2_ f3_; subst f4_; subst f5_))
 refine start_ (n := 12) (S := fun w' => w'.cell? ⟨gb101, 0, none⟩ = some (.int .i64 a0_0) ∧ w'.cell? ⟨gb101, 1, none⟩ = some (.slice A0_1 l0_1.length c0_1) ∧ w'.cell? ⟨gb101, 2, none⟩ = some (.slice A0_2 l0_2.length c0_2)) (ds := []) #[false, false, false, false, false, false, false, false, false, false, false, false] (by kernel_rfl) rfl rfl ⟨(zX BK101.out 0).trans rfl, (zX BK101.out 1).trans rfl, (zX BK101.out 2).trans rfl⟩ (fun hHeld => ?_); refine with_tabW aumbryref06_Plain.tab2 aumbryref06_Plain.bits2 (fun HT_ HW_ => ?_)
 generalize w9.drew = w10 at HO105 BK101 BK102 HB hHeld ⊢
 refine pure_ (i := 0) (N := some 7) (v := ?_) (a' := ?_) #[true, false, false, false, false, false, false, false, false, false, false, false] rfl rfl (any_of HT_.out (by kernel_rfl)) (fun _ _ _ h => h) (Or.inl ⟨by rfl, ?_⟩) ?_ ?_
 rotate_left
 ·
  intro w'
  go_simp
  with_reducible rfl
 rotate_left
 ·
  simp only [Act.put, List.setIfInBounds_toArray, List.set_cons_zero, List.set_cons_succ, i64_w, i32_w]
  rfl
 refine pure_ (i := 2) (N := some 9) (v := ?_) (a' := ?_) #[true, false, true, false, false, false, false, false, false, false, false, false] rfl rfl (any_of HT_.out (by kernel_rfl)) (fun _ _ _ h => h) (Or.inl ⟨by rfl, ?_⟩) ?_ ?_
 rotate_left
 ·
  intro w'
  go_simp
  with_reducible rfl
 rotate_left
 ·
  simp only [Act.put, List.setIfInBounds_toArray, List.set_cons_zero, List.set_cons_succ, i64_w, i32_w]
  rfl
 refine pure_ (i := 4) (N := some 11) (v := ?_) (a' := ?_) #[true, false, true, false, true, false, false, false, false, false, false, false] rfl rfl (any_of HT_.out (by kernel_rfl)) (fun _ _ _ h => h) (Or.inl ⟨by rfl, ?_⟩) ?_ ?_
 rotate_left
 ·
  intro w'
  go_simp
  with_reducible rfl
 rotate_left
 ·
  simp only [Act.put, List.setIfInBounds_toArray, List.set_cons_zero, List.set_cons_succ, i64_w, i32_w]
  rfl
 refine pure_ (i := 6) (N := some 13) (v := ?_) (a' := ?_) #[true, false, true, false, true, false, true, false, false, false, false, false] rfl rfl (any_of HT_.out (by kernel_rfl)) (fun _ _ _ h => h) (Or.inl ⟨by rfl, ?_⟩) ?_ ?_
 rotate_left
 ·
  intro w'
  go_simp
  with_reducible rfl
 rotate_left
 ·
  simp only [Act.put, List.setIfInBounds_toArray, List.set_cons_zero, List.set_cons_succ, i64_w, i32_w]
  rfl
 refine pure_ (i := 8) (N := some 15) (v := ?_) (a' := ?_) #[true, false, true, false, true, false, true, false, true, false, false, false] rfl rfl (any_of HT_.out (by kernel_rfl)) (fun _ _ _ h => h) (Or.inl ⟨by rfl, ?_⟩) ?_ ?_
 rotate_left
 ·
  intro w'
  go_simp
  with_reducible rfl
 rotate_left
 ·
  simp only [Act.put, List.setIfInBounds_toArray, List.set_cons_zero, List.set_cons_succ, i64_w, i32_w]
  rfl
 refine take_ (i := 1) (N := some 8) (v := ?_) (a' := ?_) #[true, true, true, false, true, false, true, false, true, false, false, false] rfl rfl (take_ofW HT_.out HW_.out (by kernel_rfl)) (fun _ _ _ h => h) (Or.inl ⟨by rfl, ?_⟩) hHeld ?_ ?_
 rotate_left
 ·
  rintro w' ⟨s0, s1, s2⟩
  go_simp
  with_reducible rfl
 rotate_left
 ·
  simp only [Act.put, List.setIfInBounds_toArray, List.set_cons_zero, List.set_cons_succ, i64_w, i32_w]
  rfl
 refine take_ (i := 3) (N := some 10) (v := ?_) (a' := ?_) #[true, true, true, true, true, false, true, false, true, false, false, false] rfl rfl (take_ofW HT_.out HW_.out (by kernel_rfl)) (fun _ _ _ h => h) (Or.inl ⟨by rfl, ?_⟩) hHeld ?_ ?_
 rotate_left
 ·
  rintro w' ⟨s0, s1, s2⟩
  go_simp
  with_reducible rfl
 rotate_left
 ·
  simp only [Act.put, List.setIfInBounds_toArray, List.set_cons_zero, List.set_cons_succ, i64_w, i32_w]
  rfl
 refine take_ (i := 7) (N := some 14) (v := ?_) (a' := ?_) #[true, true, true, true, true, false, true, true, true, false, false, false] rfl rfl (take_ofW HT_.out HW_.out (by kernel_rfl)) (fun _ _ _ h => h) (Or.inl ⟨by rfl, ?_⟩) hHeld ?_ ?_
 rotate_left
 ·
  rintro w' ⟨s0, s1, s2⟩
  go_simp
  with_reducible rfl
 rotate_left
 ·
  simp only [Act.put, List.setIfInBounds_toArray, List.set_cons_zero, List.set_cons_succ, i64_w, i32_w]
  rfl
 refine one_ (i := 5) (N := some 12) #[true, true, true, true, true, true, true, true, true, false, false, false] rfl rfl (one_of HT_.out (by kernel_rfl)) (by decide) (fun K hK => ?_)
 refine goes_ Tryd.func50 (by kernel_rfl) rfl #[.slice A0_1 l0_1.length c0_1, .slice Ao11 t103.length co11] (by rfl) rfl rfl zl ?_
 with_reducible refine (aumbryref06_named.calls k _ _ l0_1 _ _ t103 t106 _ ?side1 ?side2 ?side3 ?side4 A3.out).mono ?_
 (case side1 => exact Kd.C_below HR0_1.out zb)
 (case side2 => exact HC0_1.out)
 (case side3 => exact Kd.C_below (Kd.R_reads' HO105.out).2.2 zg)
 (case side4 => exact (Kd.R_reads' HO105.out).2.1)
 rintro e w12 ⟨v107, rfl, ho0, hb⟩
 refine ⟨_, rfl, ?_⟩
 have n0_ := zM (Kd.R_below (zr HO105.out) hb)
 have n1_ := zM (Kd.R_lower ho0 (below_size zb))
 have n2_ := zM (blk_below (zk BK101.out) hb)
 have n3_ := zM (blk_below (zk BK102.out) hb)
 have n4_ := zM (below_step zb hb)
 clear HO105
 clear BK101
 clear BK102
 clear HB
 have HO105 := n0_
 have HO108 := n1_
 have BK101 := n2_
 have BK102 := n3_
 have HB := n4_
 clear n0_ n1_ n2_ n3_ n4_
 (try clear hb)
 (try clear hb2)
 (try clear hk)
 (try clear hi)
 (try clear ho0)
 refine hK.out _ _ ⟨(zX BK101.out 0).trans rfl, (zX BK101.out 1).trans rfl, (zX BK101.out 2).trans rfl⟩ (fun hHeld => ?_)
 clear hK K
 refine norm_ (a' := ?_) ?_ ?_
 rotate_left
 ·
  show Act.put _ (some 12) _ = _
  simp only [Act.put, List.setIfInBounds_toArray, List.set_cons_zero, List.set_cons_succ, i64_w, i32_w]
  rfl
 refine one_ (i := 9) (N := some 16) #[true, true, true, true, true, true, true, true, true, true, false, false] rfl rfl (one_of HT_.out (by kernel_rfl)) (by decide) (fun K hK => ?_)
 refine goes_ Tryd.func50 (by kernel_rfl) rfl #[.slice A0_2 l0_2.length c0_2, .slice Ao11 t103.length co11] (by rfl) rfl rfl zl ?_
 with_reducible refine (aumbryref06_named.calls k _ _ l0_2 _ _ t103 t109 _ ?side1 ?side2 ?side3 ?side4 A4.out).mono ?_
 (case side1 => exact Kd.C_below HR0_2.out zb)
 (case side2 => exact HC0_2.out)
 (case side3 => exact Kd.C_below (Kd.R_reads' HO105.out).2.2 zg)
 (case side4 => exact (Kd.R_reads' HO105.out).2.1)
 rintro e w13 ⟨v110, rfl, ho0, hb⟩
 refine ⟨_, rfl, ?_⟩
 have n0_ := zM (Kd.R_below (zr HO105.out) hb)
 have n1_ := zM (Kd.R_elder' (zr HO108.out) (Kd.R_base ho0) hb)
 have n2_ := zM (Kd.R_lower (Kd.R_new' ho0 (Kd.R_lt (zr HO108.out))) (below_size zb))
 have n3_ := zM (blk_below (zk BK101.out) hb)
 have n4_ := zM (blk_below (zk BK102.out) hb)
 have n5_ := zM (below_step zb hb)
 clear HO105
 clear HO108
 clear BK101
 clear BK102
 clear HB
 have HO105 := n0_
 have HO108 := n1_
 have HO111 := n2_
 have BK101 := n3_
 have BK102 := n4_
 have HB := n5_
 clear n0_ n1_ n2_ n3_ n4_ n5_
 (try clear hb)
 (try clear hb2)
 (try clear hk)
 (try clear hi)
 (try clear ho0)
 obtain ⟨Ao14, co14, eo14⟩ := Kd.R_slice HO111.out
 (first | subst eo14 | (injection eo14 with f1_ f2_ f3_; have f4_ := f1_.symm; have f5_ := f3_.symm; clear f1_ f2_ f3_; subst f4_; subst f5_))
 obtain ⟨Ao15, co15, eo15⟩ := Kd.R_slice HO108.out
 (first | subst eo15 | (injection eo15 with f1_ f2_ f3_; have f4_ := f1_.symm; have f5_ := f3_.symm; clear f1_ f2_ f3_; subst f4_; subst f5_))
 refine hK.out _ _ ⟨(zX BK101.out 0).trans rfl, (zX BK101.out 1).trans rfl, (zX BK101.out 2).trans rfl⟩ (fun hHeld => ?_)
 clear hK K
 refine norm_ (a' := ?_) ?_ ?_
 rotate_left
 ·
  show Act.put _ (some 16) _ = _
  simp only [Act.put, List.setIfInBounds_toArray, List.set_cons_zero, List.set_cons_succ, i64_w, i32_w]
  rfl
 refine pure_ (i := 10) (N := some 17) (v := ?_) (a' := ?_) #[true, true, true, true, true, true, true, true, true, true, true, false] rfl rfl (any_of HT_.out (by kernel_rfl)) (fun _ _ _ h => h) (Or.inl ⟨by rfl, ?_⟩) ?_ ?_
 rotate_left
 ·
  intro w'
  go_simp
  with_reducible rfl
 rotate_left
 ·
  simp only [Act.put, List.setIfInBounds_toArray, List.set_cons_zero, List.set_cons_succ, i64_w, i32_w]
  rfl
 refine one_ (i := 11) (N := none) #[true, true, true, true, true, true, true, true, true, true, true, true] rfl rfl (one_of HT_.out (by kernel_rfl)) (by decide) (fun K hK => ?_)
 have hs16 : w13.cell? ⟨gb102, 0, none⟩ = some (.int .i64 0) := (zX BK102.out 0).trans rfl
 have hfs16 := zY BK102.out 0
 have hns16_0 := NB101_102.out
 have hms16_0 := NB102_101.out
 have hs17 : w13.cell? ⟨gb102, 1, none⟩ = some (.slice none 0 0) := (zX BK102.out 1).trans rfl
 have hfs17 := zY BK102.out 1
 have hns17_0 := NB101_102.out
 have hms17_0 := NB102_101.out
 have hs18 : w13.cell? ⟨gb102, 2, none⟩ = some (.slice none 0 0) := (zX BK102.out 2).trans rfl
 have hfs18 := zY BK102.out 2
 have hns18_0 := NB101_102.out
 have hms18_0 := NB102_101.out
 refine skip_ (w1 := ?_) (by rfl) rfl ?_ ?_
 rotate_left
 ·
  go_simp
  rfl
 refine hK.out _ _ ⟨((cell_far (p := ⟨gb102, _, none⟩) NB101_102.out _).trans (((cell_far (p := ⟨gb102, _, none⟩) NB101_102.out _).trans (((cell_far (p := ⟨gb102, _, none⟩) NB101_102.out _).trans (hHeld.1)))))), ((cell_far (p := ⟨gb102, _, none⟩) NB101_102.out _).trans (((cell_far (p := ⟨gb102, _, none⟩) NB101_102.out _).trans (((cell_far (p := ⟨gb102, _, none⟩) NB101_102.out _).trans (hHeld.2.1)))))), ((cell_far (p := ⟨gb102, _, none⟩) NB101_102.out _).trans (((cell_far (p := ⟨gb102, _, none⟩) NB101_102.out _).trans (((cell_far (p := ⟨gb102, _, none⟩) NB101_102.out _).trans (hHeld.2.2))))))⟩ (fun hHeld => ?_)
 clear hK K
 refine done_ (done_of HT_.out (by kernel_rfl)) ?_
 try go_wp2
 refine bodyPost_ret (results_cell_row rfl _ _ gb102 25 #[.int .i64 a0_0, .slice Ao15 t106.length co15, .slice Ao14 t109.length co14] (0, 0) _ rfl (by refine zk ?_; refine blk_put (cs := #[.int .i64 a0_0, .slice Ao15 t106.length co15, .slice none 0 0]) ?_ 2 _ rfl; refine zk ?_; refine blk_put (cs := #[.int .i64 a0_0, .slice none 0 0, .slice none 0 0]) ?_ 1 _ rfl; refine zk ?_; refine blk_put (cs := #[.int .i64 0, .slice none 0 0, .slice none 0 0]) ?_ 0 _ rfl; refine zk ?_; exact BK102.out) Tryd.underlying25 rfl (by kernel_rfl)) rfl ?_
 exact ⟨_, _, zw, by (with_reducible repeat (first | apply Kd.R_alloc | apply Kd.R_drewN | apply Kd.R_drew)); exact Kd.R_mono (Kd.R_far (p := ⟨gb102, 2, none⟩) (Kd.R_far (p := ⟨gb102, 1, none⟩) (Kd.R_far (p := ⟨gb102, 0, none⟩) (Kd.R_types HO108.out BK102.out (by decide)) (fun _ hk => hk.2) (.int .i64 a0_0)) (fun _ hk => hk.2) (.slice Ao15 t106.length co15)) (fun _ hk => hk.2) (.slice Ao14 t109.length co14)) (fun _ hk => hk.1.2), by (with_reducible repeat (first | apply Kd.R_alloc | apply Kd.R_drewN | apply Kd.R_drew)); exact Kd.R_mono (Kd.R_far (p := ⟨gb102, 2, none⟩) (Kd.R_far (p := ⟨gb102, 1, none⟩) (Kd.R_far (p := ⟨gb102, 0, none⟩) (Kd.R_types HO111.out BK102.out (by decide)) (fun _ hk => hk.2) (.int .i64 a0_0)) (fun _ hk => hk.2) (.slice Ao15 t106.length co15)) (fun _ hk => hk.2) (.slice Ao14 t109.length co14)) (fun _ hk => hk.1.2), zb⟩

end Go.Proofs.YtpnamhplhdaphaaDoor.P

-- ==== PL6n
/- Plain laws of chapter 6: the plain form of a rule: its variables are called by their places. -/
namespace Go.Proofs.YtpnamhplhdaphaaDoor.P
open Go.RowKit Go.Proofs.YtpnamhplhdaphaaDoorW.PrintWords
set_option linter.unusedVariables false
set_option linter.unusedSimpArgs false
/-- The place of a text in a list. -/
def ixS : List ByteArray → ByteArray → Nat → Option Nat
 | [], _, _ => none
 | v :: u, a, i => if v = a then some i else ixS u a (i + 1)
def ixI : Option Nat → Int
 | none => -1
 | some i => (i : Int)
theorem ixS_cons (v : ByteArray) (u : List ByteArray) (a : ByteArray) (i : Nat) : ixS (v :: u) a i = if v = a then some i else ixS u a (i + 1) := rfl
theorem ixS_lt : ∀ (u : List ByteArray) (a : ByteArray) (i j : Nat), ixS u a i = some j → i ≤ j ∧ j < i + u.length
 | [], a, i, j, h => by cases h
 | v :: u, a, i, j, h => by
  rw [ixS_cons] at h
  by_cases hv : v = a
  ·
   rw [if_pos hv] at h
   injection h with h
   subst h
   simp
  ·
   rw [if_neg hv] at h
   have := ixS_lt u a (i + 1) j h
   simp only [List.length_cons]
   omega
theorem ixS_none : ∀ (u : List ByteArray) (a : ByteArray) (i : Nat), a ∉ u → ixS u a i = none
 | [], a, i, h => rfl
 | v :: u, a, i, h => by
  rw [ixS_cons, if_neg (fun e => h (by rw [e]; simp))]
  exact ixS_none u a (i + 1) (fun e => h (List.mem_cons_of_mem _ e))
theorem ixS_some : ∀ (u : List ByteArray) (a : ByteArray) (i : Nat), a ∈ u → ∃ j, ixS u a i = some j
 | [], a, i, h => by simp at h
 | v :: u, a, i, h => by
  rw [ixS_cons]
  by_cases hv : v = a
  ·
   exact ⟨i, if_pos hv⟩
  ·
   rw [if_neg hv]
   refine ixS_some u a (i + 1) ?_
   rcases List.mem_cons.1 h with e | e
   ·
    exact absurd e.symm hv
   ·
    exact e
theorem ev_index_at (l : List ByteArray) (a : ByteArray) (hl : l.length ≤ 9223372036854775806) : ∀ (u : List ByteArray) (i : Nat), i ≤ l.length → l.drop i = u →
 Ev (fun k => slices_Index_string_string.l0 k l a (l.length : Int) (i : Int)) (ixI (ixS u a i))
 | [], i, hi, hu => by
  have h1 := drop_nil_len hi hu
  refine Ev.step (fun k => (show slices_Index_string_string.l0 (k + 1) l a (l.length : Int) (i : Int) = _ from by rw [slices_Index_string_string.l0])) ?_
  exact evIfn (by omega) (Ev.now _)
 | b :: u, i, hi, hu => by
  obtain ⟨h1, _, h3⟩ := drop_cons hu
  refine Ev.step (fun k => (show slices_Index_string_string.l0 (k + 1) l a (l.length : Int) (i : Int) = _ from by rw [slices_Index_string_string.l0])) ?_
  refine evIfp (by omega) (evIfp (by omega) (evIfp (by omega) ?_))
  rw [rd_txt hu, ixS_cons]
  by_cases hab : a.toList = b.toList
  ·
   rw [if_pos ((bytes_eq a b).1 hab).symm]
   exact evIfp hab (Ev.now _)
  ·
   rw [if_neg (fun e => hab (by rw [e]))]
   refine evIfn hab ?_
   rw [up_cast i (by omega)]
   exact ev_index_at l a hl u (i + 1) (by omega) h3
theorem ev_index (l : List ByteArray) (a : ByteArray) (hl : l.length ≤ 9223372036854775806) : Ev (fun k => slices_Index_string_string.f k l a) (ixI (ixS l a 0)) := by
 unfold slices_Index_string_string.f
 exact ev_index_at l a hl l 0 (by omega) rfl
def xnm (j : Nat) : ByteArray := (⟨#[88]⟩ : ByteArray) ++ itB (j : Int)
/-- A name as the plain form calls it. -/
def pnS (vars : List ByteArray) (a : ByteArray) : ByteArray := match ixS vars a 0 with
 | none => a
 | some j => xnm j
def pcS (vars : List ByteArray) (c : Cel) : Cel := ⟨pnS vars c.f0, c.f1⟩
theorem ev_plL (vars : List ByteArray) (hv : vars.length ≤ 8) : ∀ u : List Cel, Ev (fun k => plL k vars u) (u.map (pcS vars))
 | [] => Ev.now _
 | c :: u => by
  have e : (fun k => plL k vars (c :: u)) = (fun k => (slices_Index_string_string.f k vars c.f0).bind fun j => if j ≥ 0 then (if j < 8 then (plL k vars u).bind fun q => some (⟨(⟨#[88]⟩ : ByteArray) ++ itB j, c.f1⟩ :: q) else none) else (plL k vars u).bind fun q => some (c :: q)) := rfl
  rw [e]
  refine Ev.bind (ev_index vars c.f0 (by omega)) ?_
  rw [List.map_cons]
  cases h : ixS vars c.f0 0 with
  | none =>
   have : pcS vars c = c := by unfold pcS pnS; rw [h]
   rw [this]
   exact evIfn (by simp [ixI]) (Ev.bind (ev_plL vars hv u) (Ev.now _))
  | some j =>
   have : pcS vars c = ⟨xnm j, c.f1⟩ := by unfold pcS pnS; rw [h]
   have hj := ixS_lt _ _ _ _ h
   rw [this]
   refine evIfp (by show ((j : Nat) : Int) ≥ 0; omega) (evIfp (by show ((j : Nat) : Int) < 8; omega) ?_)
   exact Ev.bind (ev_plL vars hv u) (Ev.now _)
theorem ev_plF (vars : List ByteArray) (hv : vars.length ≤ 8) (u : List Cel) (hu : u.length ≤ 64) : Ev (fun k => plF k vars u) (u.map (pcS vars)) := by
 unfold plF
 exact evIfp (by omega) (ev_plL vars hv u)
/-- The plain form of a right rule. -/
def plS (vars : List ByteArray) (t : List Cel) : List Cel := t.map (pcS vars)
theorem ev_plain {id : Int} {l r : List Cel} (h : ruleS id l r = 0) : Ev (fun k => rule_Plain.f k id l r) (id, plS (varsS [] l) l, plS (varsS [] l) r, 0) := by
 obtain ⟨h1, h2, h3, h4, _⟩ := ruleS_ok h
 have hv := varsS_len l []
 simp only [List.length_nil] at hv
 unfold rule_Plain.f plainF
 refine Ev.bind (ev_rch id l r) (evIfp h ?_)
 have hv' : (varsS [] l).length ≤ 8 := by omega
 refine Ev.bind (ev_vars h1) (Ev.bind (ev_plF _ hv' l (by omega)) (Ev.bind (ev_plF _ hv' r (by omega)) ?_))
 exact Ev.now _
theorem ev_plain_no {id : Int} {l r : List Cel} (h : ¬ ruleS id l r = 0) : Ev (fun k => rule_Plain.f k id l r) (0, [], [], ruleS id l r) := by
 unfold rule_Plain.f plainF
 exact Ev.bind (ev_rch id l r) (evIfn h (Ev.now _))
/-! ### the document's -/
theorem varsS_nodup : ∀ (u : List Cel) (out : List ByteArray), out.Nodup → (varsS out u).Nodup
 | [], out, h => h
 | c :: u, out, h => by
  have hv : varsS out (c :: u) = if kindS c.f0 = 2 then (if c.f0 ∈ out then varsS out u else varsS (out ++ [c.f0]) u) else varsS out u := rfl
  rw [hv]
  split
  ·
   split
   ·
    exact varsS_nodup u out h
   ·
    rename_i hm
    refine varsS_nodup u _ ?_
    refine List.nodup_append.2 ⟨h, by simp, ?_⟩
    intro a ha b hb e
    simp only [List.mem_singleton] at hb
    subst hb
    subst e
    exact hm ha
  ·
   exact varsS_nodup u out h
theorem plS_len (vars : List ByteArray) (t : List Cel) : (plS vars t).length = t.length := List.length_map _
end Go.Proofs.YtpnamhplhdaphaaDoor.P

-- ==== PL6o
/- Plain laws of chapter 6: the plain form of a rule: a renaming of its variables that keeps them apart; the plain form of it is itself. -/
namespace Go.Proofs.YtpnamhplhdaphaaDoor.P
open Go.RowKit Go.Proofs.YtpnamhplhdaphaaDoorW.PrintWords
set_option linter.unusedVariables false
set_option linter.unusedSimpArgs false
structure OkV (V : List ByteArray) : Prop where
 len : V.length ≤ 8
 nodup : V.Nodup
 kind : ∀ v ∈ V, kindS v = 2
theorem kind_xnm (j : Nat) (h : j < 8) : kindS (xnm j) = 2 := by
 have : j = 0 ∨ j = 1 ∨ j = 2 ∨ j = 3 ∨ j = 4 ∨ j = 5 ∨ j = 6 ∨ j = 7 := by omega
 clear h
 rcases this with rfl | rfl | rfl | rfl | rfl | rfl | rfl | rfl <;> rfl
theorem bl_xnm (j : Nat) : bl (xnm j) = [88, UInt8.ofNat (48 + j)] := by
 unfold xnm
 rw [bl_append]
 rfl
theorem xnm_inj {i j : Nat} (hi : i < 8) (hj : j < 8) (h : xnm i = xnm j) : i = j := by
 have h1 := congrArg bl h
 rw [bl_xnm, bl_xnm] at h1
 injection h1 with _ h1
 injection h1 with h1 _
 have h2 := congrArg UInt8.toNat h1
 simp only [UInt8.toNat_ofNat'] at h2
 omega
theorem ixS_inj : ∀ (u : List ByteArray) (a b : ByteArray) (i j : Nat), ixS u a i = some j → ixS u b i = some j → a = b
 | [], a, b, i, j, h, _ => by cases h
 | v :: u, a, b, i, j, h1, h2 => by
  rw [ixS_cons] at h1 h2
  by_cases ha : v = a
  ·
   rw [if_pos ha] at h1
   injection h1 with h1
   by_cases hb : v = b
   ·
    rw [← ha, ← hb]
   ·
    rw [if_neg hb] at h2
    have := ixS_lt _ _ _ _ h2
    omega
  ·
   rw [if_neg ha] at h1
   by_cases hb : v = b
   ·
    rw [if_pos hb] at h2
    injection h2 with h2
    have := ixS_lt _ _ _ _ h1
    omega
   ·
    rw [if_neg hb] at h2
    exact ixS_inj u a b (i + 1) j h1 h2
theorem pn_out {V : List ByteArray} {a : ByteArray} (h : a ∉ V) : pnS V a = a := by
 unfold pnS
 rw [ixS_none V a 0 h]
section
variable {V : List ByteArray} (hV : OkV V)
include hV
theorem pn_in {a : ByteArray} (h : a ∈ V) : ∃ j, ixS V a 0 = some j ∧ j < 8 ∧ pnS V a = xnm j := by
 obtain ⟨j, hj⟩ := ixS_some V a 0 h
 have h1 := ixS_lt _ _ _ _ hj
 have h2 := hV.len
 refine ⟨j, hj, by omega, ?_⟩
 unfold pnS
 rw [hj]
theorem pn_inj {a b : ByteArray} (ha : a ∈ V) (hb : b ∈ V) (h : pnS V a = pnS V b) : a = b := by
 obtain ⟨i, h1, h2, h3⟩ := pn_in hV ha
 obtain ⟨j, g1, g2, g3⟩ := pn_in hV hb
 rw [h3, g3] at h
 have := xnm_inj h2 g2 h
 subst this
 exact ixS_inj V a b 0 i h1 g1
theorem pn_kind {a : ByteArray} (h : kindS a = 2 → a ∈ V) : kindS (pnS V a) = kindS a := by
 by_cases ha : a ∈ V
 ·
  obtain ⟨i, h1, h2, h3⟩ := pn_in hV ha
  rw [h3, kind_xnm i h2, hV.kind a ha]
 ·
  rw [pn_out ha]
theorem pc_sym {c : Cel} (h : ¬ kindS c.f0 = 2) : pcS V c = c := by
 unfold pcS
 rw [pn_out (fun hc => h (hV.kind _ hc))]
/-- Each variable of the term is one of the list's. -/
def Cov (V : List ByteArray) (t : List Cel) : Prop := ∀ c ∈ t, kindS c.f0 = 2 → c.f0 ∈ V
omit hV in
theorem cov_tl {c : Cel} {t : List Cel} (h : Cov V (c :: t)) : (kindS c.f0 = 2 → c.f0 ∈ V) ∧ Cov V t := ⟨h c (List.mem_cons_self ..), fun d hd => h d (List.mem_cons_of_mem _ hd)⟩
theorem okc_ren {c : Cel} (h : Okc c) (hc : kindS c.f0 = 2 → c.f0 ∈ V) : Okc (pcS V c) := by
 have hk : kindS (pcS V c).f0 = kindS c.f0 := pn_kind hV hc
 exact ⟨by rw [hk]; exact h.kind, h.lo, h.hi, fun h2 => h.var (by rw [← hk]; exact h2)⟩
omit hV in
theorem segN_ren : ∀ (t : List Cel) (n : Nat), segN (plS V t) n = (segN t n).map (plS V)
 | t, 0 => by rw [segN_zero, segN_zero]; rfl
 | [], n + 1 => rfl
 | c :: t, n + 1 => segN_ren t (n + ar c)
theorem check_ren {t : List Cel} (hc : Cov V t) (h : checkS t = 0) : checkS (plS V t) = 0 := by
 obtain ⟨h1, h2, h3⟩ := checkS_ok h
 refine checkS_of (by rw [plS_len]; exact h1) ?_ ?_
 ·
  intro d hd
  obtain ⟨c, hm, rfl⟩ := List.mem_map.1 hd
  exact okc_ren hV (h2 c hm) (hc c hm)
 ·
  rw [segN_ren, h3]
  rfl
omit hV in
theorem mem_vars : ∀ (u : List Cel) (out : List ByteArray) (v : ByteArray), v ∈ varsS out u ↔ v ∈ out ∨ ∃ c ∈ u, kindS c.f0 = 2 ∧ c.f0 = v
 | [], out, v => by simp [varsS]
 | c :: u, out, v => by
  have hv : varsS out (c :: u) = if kindS c.f0 = 2 then (if c.f0 ∈ out then varsS out u else varsS (out ++ [c.f0]) u) else varsS out u := rfl
  rw [hv]
  by_cases hk : kindS c.f0 = 2
  ·
   rw [if_pos hk]
   by_cases hm : c.f0 ∈ out
   ·
    rw [if_pos hm, mem_vars u out v]
    constructor
    ·
     rintro (h | ⟨d, h1, h2⟩)
     ·
      exact .inl h
     ·
      exact .inr ⟨d, List.mem_cons_of_mem _ h1, h2⟩
    ·
     rintro (h | ⟨d, h1, h2, h3⟩)
     ·
      exact .inl h
     ·
      rcases List.mem_cons.1 h1 with rfl | h1
      ·
       exact .inl (by rw [← h3]; exact hm)
      ·
       exact .inr ⟨d, h1, h2, h3⟩
   ·
    rw [if_neg hm, mem_vars u _ v]
    constructor
    ·
     rintro (h | ⟨d, h1, h2⟩)
     ·
      rcases List.mem_append.1 h with h | h
      ·
       exact .inl h
      ·
       exact .inr ⟨c, List.mem_cons_self .., hk, (List.mem_singleton.1 h).symm⟩
     ·
      exact .inr ⟨d, List.mem_cons_of_mem _ h1, h2⟩
    ·
     rintro (h | ⟨d, h1, h2, h3⟩)
     ·
      exact .inl (List.mem_append_left _ h)
     ·
      rcases List.mem_cons.1 h1 with rfl | h1
      ·
       exact .inl (List.mem_append_right _ (by rw [h3]; simp))
      ·
       exact .inr ⟨d, h1, h2, h3⟩
  ·
   rw [if_neg hk, mem_vars u out v]
   constructor
   ·
    rintro (h | ⟨d, h1, h2⟩)
    ·
     exact .inl h
    ·
     exact .inr ⟨d, List.mem_cons_of_mem _ h1, h2⟩
   ·
    rintro (h | ⟨d, h1, h2, h3⟩)
    ·
     exact .inl h
    ·
     rcases List.mem_cons.1 h1 with rfl | h1
     ·
      exact absurd h2 hk
     ·
      exact .inr ⟨d, h1, h2, h3⟩
theorem mem_ren {out : List ByteArray} (ho : ∀ v ∈ out, v ∈ V) {a : ByteArray} (ha : a ∈ V) : pnS V a ∈ out.map (pnS V) ↔ a ∈ out := by
 constructor
 ·
  intro h
  obtain ⟨b, hb, he⟩ := List.mem_map.1 h
  rw [← pn_inj hV (ho b hb) ha he]
  exact hb
 ·
  intro h
  exact List.mem_map.2 ⟨a, h, rfl⟩
theorem vars_ren : ∀ (u : List Cel) (out : List ByteArray), (∀ v ∈ out, v ∈ V) → Cov V u → varsS (out.map (pnS V)) (plS V u) = (varsS out u).map (pnS V)
 | [], out, ho, hc => rfl
 | c :: u, out, ho, hc => by
  obtain ⟨h1, h2⟩ := cov_tl hc
  have hv : varsS out (c :: u) = if kindS c.f0 = 2 then (if c.f0 ∈ out then varsS out u else varsS (out ++ [c.f0]) u) else varsS out u := rfl
  have hw : varsS (out.map (pnS V)) (plS V (c :: u)) = if kindS (pnS V c.f0) = 2 then (if pnS V c.f0 ∈ out.map (pnS V) then varsS (out.map (pnS V)) (plS V u) else varsS (out.map (pnS V) ++ [pnS V c.f0]) (plS V u)) else varsS (out.map (pnS V)) (plS V u) := rfl
  rw [hv, hw, pn_kind hV h1]
  by_cases hk : kindS c.f0 = 2
  ·
   rw [if_pos hk, if_pos hk]
   by_cases hm : c.f0 ∈ out
   ·
    rw [if_pos hm, if_pos ((mem_ren hV ho (h1 hk)).2 hm)]
    exact vars_ren u out ho h2
   ·
    rw [if_neg hm, if_neg (fun h => hm ((mem_ren hV ho (h1 hk)).1 h))]
    have := vars_ren u (out ++ [c.f0]) (fun v hv => by
     rcases List.mem_append.1 hv with h | h
     ·
      exact ho v h
     ·
      rw [List.mem_singleton.1 h]; exact h1 hk) h2
    rw [List.map_append] at this
    exact this
  ·
   rw [if_neg hk, if_neg hk]
   exact vars_ren u out ho h2
theorem ix_ren : ∀ (u : List ByteArray) (a : ByteArray) (i : Nat), (∀ v ∈ u, v ∈ V) → a ∈ V → ixS (u.map (pnS V)) (pnS V a) i = ixS u a i
 | [], a, i, hu, ha => rfl
 | v :: u, a, i, hu, ha => by
  have e : (v :: u).map (pnS V) = pnS V v :: u.map (pnS V) := rfl
  rw [e, ixS_cons, ixS_cons]
  have ih := ix_ren u a (i + 1) (fun w hw => hu w (List.mem_cons_of_mem _ hw)) ha
  by_cases hv : v = a
  ·
   rw [if_pos hv, if_pos (by rw [hv])]
  ·
   rw [if_neg hv, if_neg (fun h => hv (pn_inj hV (hu v (List.mem_cons_self ..)) ha h)), ih]
theorem pn_twice {a : ByteArray} (h : kindS a = 2 → a ∈ V) : pnS (V.map (pnS V)) (pnS V a) = pnS V a := by
 by_cases ha : a ∈ V
 ·
  obtain ⟨j, h1, h2, h3⟩ := pn_in hV ha
  have := ix_ren hV V a 0 (fun _ h => h) ha
  unfold pnS at this ⊢
  unfold pnS at h3
  rw [this, h1]
 ·
  rw [pn_out ha]
  refine pn_out fun hm => ?_
  obtain ⟨b, hb, he⟩ := List.mem_map.1 hm
  have hk : kindS a = 2 := by rw [← he, pn_kind hV (fun _ => hb)]; exact hV.kind b hb
  exact ha (h hk)
theorem pl_twice : ∀ (t : List Cel), Cov V t → plS (V.map (pnS V)) (plS V t) = plS V t
 | [], _ => rfl
 | c :: t, h => by
  obtain ⟨h1, h2⟩ := cov_tl h
  have e1 : plS (V.map (pnS V)) (plS V (c :: t)) = pcS (V.map (pnS V)) (pcS V c) :: plS (V.map (pnS V)) (plS V t) := rfl
  have e2 : plS V (c :: t) = pcS V c :: plS V t := rfl
  rw [e1, pl_twice t h2, e2]
  have : pcS (V.map (pnS V)) (pcS V c) = pcS V c := by
   unfold pcS
   rw [pn_twice hV h1]
  rw [this]
end
section
variable {id : Int} {l r : List Cel} (h : ruleS id l r = 0)
include h
theorem okv_rule : OkV (varsS [] l) ∧ Cov (varsS [] l) l ∧ Cov (varsS [] l) r := by
 obtain ⟨h1, h2, h3, h4, h5, h6, _⟩ := ruleS_ok h
 have hv := varsS_len l []
 simp only [List.length_nil] at hv
 refine ⟨⟨by omega, varsS_nodup l [] List.nodup_nil, fun v hm => ?_⟩, fun c hc hk => (mem_vars l [] c.f0).2 (.inr ⟨c, hc, hk, rfl⟩), fun c hc hk => h6 _ ((mem_vars r [] c.f0).2 (.inr ⟨c, hc, hk, rfl⟩))⟩
 rcases (mem_vars l [] v).1 hm with hx | ⟨c, _, h8, h9⟩
 ·
  cases hx
 ·
  rw [← h9]; exact h8
theorem vars_plain : varsS [] (plS (varsS [] l) l) = (varsS [] l).map (pnS (varsS [] l)) := by
 obtain ⟨hV, h1, h2⟩ := okv_rule h
 exact vars_ren hV l [] (fun v hv => by cases hv) h1
theorem head_plain : (plS (varsS [] l) l).getD 0 zc = l.getD 0 zc := by
 obtain ⟨hV, h1, h2⟩ := okv_rule h
 obtain ⟨g1, _, _, _, g5, _⟩ := ruleS_ok h
 cases l with
 | nil => rfl
 | cons c u => exact pc_sym hV g5
theorem rule_plain : ruleS id (plS (varsS [] l) l) (plS (varsS [] l) r) = 0 := by
 obtain ⟨hV, c1, c2⟩ := okv_rule h
 obtain ⟨h1, h2, h3, h4, h5, h6, h7, h8⟩ := ruleS_ok h
 refine ruleS_of (check_ren hV c1 h1) (check_ren hV c2 h2) (by rw [plS_len]; exact h3) (by rw [plS_len]; exact h4) (by rw [head_plain h]; exact h5) ?_ h7 h8
 intro v hv
 rw [vars_plain h]
 have := vars_ren hV r [] (fun v hv => by cases hv) c2
 rw [List.map_nil] at this
 rw [this] at hv
 obtain ⟨a, ha, rfl⟩ := List.mem_map.1 hv
 exact List.mem_map.2 ⟨a, h6 a ha, rfl⟩
theorem plain_twice : plS (varsS [] (plS (varsS [] l) l)) (plS (varsS [] l) l) = plS (varsS [] l) l ∧ plS (varsS [] (plS (varsS [] l) l)) (plS (varsS [] l) r) = plS (varsS [] l) r := by
 obtain ⟨hV, c1, c2⟩ := okv_rule h
 rw [vars_plain h]
 exact ⟨pl_twice hV l c1, pl_twice hV r c2⟩
end
end Go.Proofs.YtpnamhplhdaphaaDoor.P

-- ==== PF76
namespace Go.Proofs.YtpnamhplhdaphaaDoor.P
open Go.RowKit Go.Proofs.YtpnamhplhdaphaaDoorW.PrintWords Go.Proofs.YtpnamhplhdaphaaDoorW.PrintLast Go.Proofs.YtpnamhplhdaphaaDoorW.PrintMore
attribute [local go_sem] max2_int min2_int max_two min_two max_three min_three max_four min_four   -- for this text's walks alone
set_option linter.unusedVariables false
set_option linter.unusedSimpArgs false

/-! ### aumbryref05_At: function 76 -/
def aumbryref05_At.l0 : Nat → List (S109) → ByteArray → Int → Int → Option (Int)
 | 0, _, _, _, _ => none
 | k + 1, x0, x1, x7, x8 => if x8 < x7 then (if 0 ≤ x8 then (if x8 < (x0.length : Int) then (if ((rd_T109 x0 x8).f0).toList = x1.toList then (some x8) else (aumbryref05_At.l0 k x0 x1 x7 (wrap64 (x8 + 1)))) else (none)) else (none)) else (some (-1))
def aumbryref05_At.f (k : Nat) (l0 : List (S109)) (a1 : ByteArray) : Option (Int) := aumbryref05_At.l0 k l0 a1 (l0.length : Int) 0
theorem aumbryref05_At.mono_l : ∀ k, (∀ y0 y1 y2 y3, LeO (aumbryref05_At.l0 k y0 y1 y2 y3) (aumbryref05_At.l0 (k + 1) y0 y1 y2 y3))
 | 0 => fun _ _ _ _ r h => by simp [aumbryref05_At.l0] at h
 | k + 1 => by
  have ih0 := aumbryref05_At.mono_l k
  ·
   intro y0 y1 y2 y3
   unfold aumbryref05_At.l0
   repeat' first
   | (with_reducible exact ih0 _ _ _ _)
   | (with_reducible exact LeO.refl _)
   | (with_reducible exact LeO.none _)
   | (with_reducible refine LeO.ite ?_ ?_)
   | (with_reducible refine LeO.bind ?_ (fun _ => ?_))
theorem aumbryref05_At.mono : ∀ a0 a1 k, LeO (aumbryref05_At.f k a0 a1) (aumbryref05_At.f (k + 1) a0 a1) := by
 intro a0 a1 k
 have ih0 := aumbryref05_At.mono_l k
 unfold aumbryref05_At.f
 repeat' first
  | (with_reducible exact ih0 _ _ _ _)
  | (with_reducible exact LeO.refl _)
  | (with_reducible exact LeO.none _)
  | (with_reducible refine LeO.ite ?_ ?_)
  | (with_reducible refine LeO.bind ?_ (fun _ => ?_))
theorem aumbryref05_At.calls (k : Nat) (A0 : Option Addr) (c0 : Nat) (l0 : List (S109)) (a1 : ByteArray) (r : Int) (w : World) (hr0 : Kd.C k109 w A0 l0.length l0) (hc0 : l0.length ≤ c0) (h : aumbryref05_At.f k l0 a1 = some r) :
 Calls Tryd.prog 76 #[.slice A0 l0.length c0, .string a1] w fun e w' => e = .returned (.int .i64 r) ∧ Drawn0 w w' := by
 have HR0 := zM hr0
 have HC0 := zM hc0
 clear hr0 hc0
 have H : (aumbryref05_At.l0 k l0 a1 (l0.length : Int) 0) = some r := h
 clear h
 have H' := zM H
 clear H
 go_enter Tryd.func76, Tryd.ntmps76
 go_wp2
 go_loopg [8] k (fun kq v8 w' => ∃ (x8_1 : Int), v8 = .int .i64 x8_1 ∧ Aside0 (aumbryref05_At.l0 kq l0 a1 (l0.length : Int) x8_1 = some r) ∧ Aside0 (kq ≤ k) ∧ Drawn0 w w')
 case atStart => exact ⟨(0), zy, H', ⟨Nat.le_refl _⟩, zd⟩
 case round =>
  clear H'
  try clear p2
  obtain ⟨x8_1, rfl, HA, HK1, ⟨m1, rfl⟩⟩ := hrel
  cases gk with
  | zero => exact absurd HA.out (by simp [aumbryref05_At.l0])
  | succ k1 =>
   have H := HA.out
   clear HA
   simp only [aumbryref05_At.l0] at H
   by_cases c3 : x8_1 < (l0.length : Int)
   ·
    rw [if_pos c3] at H
    have c3b0 : decide (x8_1 < (l0.length : Int)) = true := zQ c3
    clear c3
    by_cases c4 : 0 ≤ x8_1
    ·
     rw [if_pos c4] at H
     have c4b0 : decide (0 ≤ x8_1) = true := zQ c4
     clear c4
     by_cases c5 : x8_1 < (l0.length : Int)
     ·
      rw [if_pos c5] at H
      have c5b0 : decide (x8_1 < (l0.length : Int)) = true := zQ c5
      clear c5
      by_cases c6 : ((rd_T109 l0 x8_1).f0).toList = a1.toList
      ·
       rw [if_pos c6] at H
       have c6b0 : (((rd_T109 l0 x8_1).f0).toList == a1.toList) = true := zG c6
       have c6b1 : (((rd_T109 l0 x8_1).f0).toList != a1.toList) = false := zH c6
       clear c6
       obtain rfl := zS H
       have p101 : 0 ≤ (x8_1 : Int) := zT zv
       have q101 : x8_1 < (l0.length : Int) := zT zv
       obtain ⟨ad101, A101_1, c101_1, e101, hx101_0, hx101_1, hl101_1, hi101_1⟩ := at_T109 HR0.out x8_1 p101 q101
       cases e101
       have HR101_1 := zM hi101_1
       have HC101_1 := zM hl101_1
       clear hi101_1 hl101_1
       replace p101 := eq_true p101
       replace q101 := eq_true q101
       go_wp2
       go_ret
       exact ⟨zy, zd⟩
      ·
       rw [if_neg c6] at H
       have c6b0 : (((rd_T109 l0 x8_1).f0).toList == a1.toList) = false := zE c6
       have c6b1 : (((rd_T109 l0 x8_1).f0).toList != a1.toList) = true := zF c6
       have H' := zM H
       clear H
       have p101 : 0 ≤ (x8_1 : Int) := zT zv
       have q101 : x8_1 < (l0.length : Int) := zT zv
       obtain ⟨ad101, A101_1, c101_1, e101, hx101_0, hx101_1, hl101_1, hi101_1⟩ := at_T109 HR0.out x8_1 p101 q101
       cases e101
       have HR101_1 := zM hi101_1
       have HC101_1 := zM hl101_1
       clear hi101_1 hl101_1
       replace p101 := eq_true p101
       replace q101 := eq_true q101
       go_wp2
       go_roundg k1
       case measure => have := HK1.out; omega
       case rel => exact ⟨(wrap64 (x8_1 + 1)), zy, H', ⟨by have := HK1.out; omega⟩, zd⟩
     ·
      rw [if_neg c5] at H
      exact absurd H (by simp)
    ·
     rw [if_neg c4] at H
     exact absurd H (by simp)
   ·
    rw [if_neg c3] at H
    have c3b0 : decide (x8_1 < (l0.length : Int)) = false := zR c3
    clear c3
    obtain rfl := zS H
    go_wp2
    go_ret
    exact ⟨zy, zd⟩


-- ==== PF75

attribute [local go_sem high] eqA33
/-! ### aumbryref05_Fit: function 75 -/
mutual
def aumbryref05_Fit.l0 : Nat → List (S109) → List (List (S33)) → List (List (S33)) → Int → Int → Option ((List (S109)) × Bool)
 | 0, _, _, _, _, _ => none
 | k + 1, x2, x9, x10, x54, x55 => if x55 < x54 then (if 0 ≤ x55 then (if x55 < (x9.length : Int) then (if x55 < (x10.length : Int) then ((aumbryref05_Fit.f k (rd_L3 x9 x55) (rd_L3 x10 x55) x2).bind fun bt123 => (if bt123.2 = true then (aumbryref05_Fit.l0 k bt123.1 x9 x10 x54 (wrap64 (x55 + 1))) else (some (([] : List (S109)), false)))) else (none)) else (none)) else (none)) else (some (x2, true))
def aumbryref05_Fit.f : Nat → List (S33) → List (S33) → List (S109) → Option ((List (S109)) × Bool)
 | 0, _, _, _ => none
 | k + 1, l0, l1, l2 => (aumbryref05_Var.f k l0).bind fun t101 => (if t101 = true then (if 0 < (l0.length : Int) then ((aumbryref05_At.f k l2 ((rd_T33 l0 0).f0)).bind fun t103 => (if t103 < 0 then ((aumbryref04_Copy.f l1).bind fun t105 => (if l2.length < 3518437208883 then (some ((l2 ++ [(⟨(rd_T33 l0 0).f0, t105⟩ : S109)]), true)) else (none))) else (if 0 ≤ t103 then (if t103 < (l2.length : Int) then ((aumbryref04_Same.f k ((rd_T109 l2 t103).f1) l1).bind fun t112 => (some (l2, t112))) else (none)) else (none)))) else (none)) else (if 0 < (l0.length : Int) then (if 0 < (l1.length : Int) then (if (!((((rd_T33 l0 0).f0).toList) == (((rd_T33 l1 0).f0).toList)) || (!(((rd_T33 l0 0).f1) == ((rd_T33 l1 0).f1)))) = true then (some (([] : List (S109)), false)) else ((aumbryref04_Kids.f k l0).bind fun t115 => ((aumbryref04_Kids.f k l1).bind fun t118 => (aumbryref05_Fit.l0 k l2 t115 t118 (t115.length : Int) 0)))) else (none)) else (none)))
end
theorem aumbryref05_Fit.mono_l : ∀ k, (∀ y0 y1 y2, LeO (aumbryref05_Fit.f k y0 y1 y2) (aumbryref05_Fit.f (k + 1) y0 y1 y2)) ∧ (∀ y0 y1 y2 y3 y4, LeO (aumbryref05_Fit.l0 k y0 y1 y2 y3 y4) (aumbryref05_Fit.l0 (k + 1) y0 y1 y2 y3 y4))
 | 0 => ⟨fun _ _ _ r h => by simp [aumbryref05_Fit.f] at h, fun _ _ _ _ _ r h => by simp [aumbryref05_Fit.l0] at h⟩
 | k + 1 => by
  obtain ⟨ih0, ih1⟩ := aumbryref05_Fit.mono_l k
  refine ⟨?_, ?_⟩
  ·
   intro y0 y1 y2
   unfold aumbryref05_Fit.f
   repeat' first
   | (with_reducible exact ih0 _ _ _)
   | (with_reducible exact ih1 _ _ _ _ _)
   | (with_reducible exact aumbryref04_Kids.mono _ _)
   | (with_reducible exact aumbryref04_Same.mono _ _ _)
   | (with_reducible exact aumbryref05_At.mono _ _ _)
   | (with_reducible exact aumbryref05_Var.mono _ _)
   | (with_reducible exact LeO.refl _)
   | (with_reducible exact LeO.none _)
   | (with_reducible refine LeO.ite ?_ ?_)
   | (with_reducible refine LeO.bind ?_ (fun _ => ?_))
  ·
   intro y0 y1 y2 y3 y4
   unfold aumbryref05_Fit.l0
   repeat' first
   | (with_reducible exact ih0 _ _ _)
   | (with_reducible exact ih1 _ _ _ _ _)
   | (with_reducible exact aumbryref04_Kids.mono _ _)
   | (with_reducible exact aumbryref04_Same.mono _ _ _)
   | (with_reducible exact aumbryref05_At.mono _ _ _)
   | (with_reducible exact aumbryref05_Var.mono _ _)
   | (with_reducible exact LeO.refl _)
   | (with_reducible exact LeO.none _)
   | (with_reducible refine LeO.ite ?_ ?_)
   | (with_reducible refine LeO.bind ?_ (fun _ => ?_))
theorem aumbryref05_Fit.mono : ∀ a0 a1 a2 k, LeO (aumbryref05_Fit.f k a0 a1 a2) (aumbryref05_Fit.f (k + 1) a0 a1 a2) := by
 intro a0 a1 a2 k
 obtain ⟨ih0, ih1⟩ := aumbryref05_Fit.mono_l k
 exact ih0 a0 a1 a2
def aumbryref05_Fit.T4 : Bool × List (List Nat × List Nat) := (true, [([], []), ([], []), ([1], [1]), ([2], [2]), ([3], [3]), ([], []), ([5], [5]), ([4, 6], [4, 6]), ([7], [7]), ([0, 8, 6], [0, 8]), ([9, 9, 0, 1, 2, 3, 4, 5, 6, 7, 8, 9], [9]), ([10, 0, 1, 2, 3, 4, 5, 6, 7, 8, 9, 10], [])])
def aumbryref05_Fit.B4 : List Nat := [0, 0, 2, 6, 14, 0, 32, 126, 254, 511, 1023, 2047]
theorem aumbryref05_Fit.tab4 : rtab .any (opsOf Tryd.f75 4) = aumbryref05_Fit.T4 := by kernel_rfl
theorem aumbryref05_Fit.bits4 : waitsOk aumbryref05_Fit.T4.2 aumbryref05_Fit.B4 = true := by kernel_rfl
def aumbryref05_Fit.T12 : Bool × List (List Nat × List Nat) := (true, [([], []), ([], []), ([0, 1], [0, 1]), ([2], [2]), ([], []), ([], []), ([4, 5], [4, 5]), ([6], [6]), ([], []), ([3, 7, 8], [3, 7, 8]), ([9], [9]), ([10], [10]), ([10], [10]), ([11, 9, 0, 1, 2, 3, 4, 5, 6, 7, 8, 9, 10, 11], [11]), ([12, 13, 0, 1, 2, 3, 4, 5, 6, 7, 8, 9, 10, 11, 12, 13], [12])])
def aumbryref05_Fit.B12 : List Nat := [0, 0, 3, 7, 0, 0, 48, 112, 0, 511, 1023, 2047, 2047, 4095, 16383]
theorem aumbryref05_Fit.tab12 : rtab .any (opsOf Tryd.f75 12) = aumbryref05_Fit.T12 := by kernel_rfl
theorem aumbryref05_Fit.bits12 : waitsOk aumbryref05_Fit.T12.2 aumbryref05_Fit.B12 = true := by kernel_rfl
theorem aumbryref05_Fit.callsN (k : Nat) : ∀ (A0 : Option Addr) (c0 : Nat) (l0 : List (S33)) (A1 : Option Addr) (c1 : Nat) (l1 : List (S33)) (P2_ PQ_ : Nat → Prop) (u9000_ : Value) (l2 : List (S109)) (r1 : List (S109)) (r2 : Bool) (w0 w : World) (hB : Below w0.heap.size w0 w) (hr0 : ∀ W_, Kept w W_ (fun k_ => P2_ k_) → Kd.C k33 W_ A0 l0.length l0) (hc0 : l0.length ≤ c0) (hr1 : ∀ W_, Kept w W_ (fun k_ => P2_ k_) → Kd.C k33 W_ A1 l1.length l1) (hc1 : l1.length ≤ c1) (ho2 : Kd.S k109 109 w w0.heap.size PQ_ u9000_ l2) (hu2 : ∀ k_ : Nat, (u9000_ : Value).ownBlock = some k_ → P2_ k_) (h : aumbryref05_Fit.f k l0 l1 l2 = some (r1, r2)),
 Calls Tryd.prog 75 #[.slice A0 l0.length c0, .slice A1 l1.length c1, u9000_] w fun e w' => ∃ v0_ : Value, e = .returned (.tuple #[v0_, .bool r2]) ∧ Kd.S k109 109 w' w0.heap.size (fun k_ => (PQ_ k_ ∨ w.heap.size ≤ k_)) v0_ r1 ∧ Below w0.heap.size w0 w' ∧ Kept w w' (fun k_ => P2_ k_) ∧ (∀ k_ : Nat, (v0_ : Value).ownBlock = some k_ → P2_ k_ ∨ w.heap.size ≤ k_) := by
 induction k using Nat.strongRecOn with
 | _ k ih =>
 intro A0 c0 l0 A1 c1 l1 P2_ PQ_ u9000_ l2 r1 r2 w0 w hB hr0 hc0 hr1 hc1 ho2 hu2 h
 cases k with
 | zero => exact absurd h (by simp [aumbryref05_Fit.f])
 | succ k =>
 simp only [aumbryref05_Fit.f] at h
 have hu109 := Tryd.underlying109
 have hu33 := Tryd.underlying33
 have HR0 := zM hr0
 have HC0 := zM hc0
 clear hr0 hc0
 have HR1 := zM hr1
 have HC1 := zM hc1
 clear hr1 hc1
 have HO2 := zM (show Kd.S k109 109 w w0.heap.size (fun k_ => (PQ_ k_ ∨ w.heap.size ≤ k_)) u9000_ l2 from Kd.S_mono ho2 (fun k_ hk => (.inl hk)))
 have HV := zM (show ∀ k_ : Nat, (u9000_ : Value).ownBlock = some k_ → P2_ k_ ∨ w.heap.size ≤ k_ from fun k_ e_ => .inl (hu2 k_ e_))
 clear hu2
 have HK := zM (Kept.refl w (fun k_ => P2_ k_))
 have HW0 := zM hB.size
 have HB := zM hB
 clear hB
 have H : ((aumbryref05_Var.f k l0).bind fun t101 => (if t101 = true then (if 0 < (l0.length : Int) then ((aumbryref05_At.f k l2 ((rd_T33 l0 0).f0)).bind fun t103 => (if t103 < 0 then ((aumbryref04_Copy.f l1).bind fun t105 => (if l2.length < 3518437208883 then (some ((l2 ++ [(⟨(rd_T33 l0 0).f0, t105⟩ : S109)]), true)) else (none))) else (if 0 ≤ t103 then (if t103 < (l2.length : Int) then ((aumbryref04_Same.f k ((rd_T109 l2 t103).f1) l1).bind fun t112 => (some (l2, t112))) else (none)) else (none)))) else (none)) else (if 0 < (l0.length : Int) then (if 0 < (l1.length : Int) then (if (!((((rd_T33 l0 0).f0).toList) == (((rd_T33 l1 0).f0).toList)) || (!(((rd_T33 l0 0).f1) == ((rd_T33 l1 0).f1)))) = true then (some (([] : List (S109)), false)) else ((aumbryref04_Kids.f k l0).bind fun t115 => ((aumbryref04_Kids.f k l1).bind fun t118 => (aumbryref05_Fit.l0 k l2 t115 t118 (t115.length : Int) 0)))) else (none)) else (none)))) = some (r1, r2) := h
 clear h
 replace H := zB H
 obtain ⟨t101, A40, H⟩ := H
 try dsimp only at H
 have A4 := zM A40
 clear A40
 by_cases c5 : t101 = true
 ·
  subst c5
  rw [if_pos rfl] at H
  by_cases c6 : 0 < (l0.length : Int)
  ·
   rw [if_pos c6] at H
   have c6b0 : decide (0 < (l0.length : Int)) = true := zQ c6
   have c6b1 : decide (0 < l0.length) = true := zQ (by omega)
   clear c6
   replace H := zB H
   obtain ⟨t103, A70, H⟩ := H
   try dsimp only at H
   have A7 := zM A70
   clear A70
   by_cases c8 : t103 < 0
   ·
    rw [if_pos c8] at H
    have c8b0 : decide (t103 < 0) = true := zQ c8
    clear c8
    replace H := zB H
    obtain ⟨t105, A90, H⟩ := H
    try dsimp only at H
    have A9 := zM A90
    clear A90
    by_cases c10 : l2.length < 3518437208883
    ·
     rw [if_pos c10] at H
     have LMc10 := zM c10
     clear c10
     obtain ⟨y108, hy108⟩ : ∃ y_ : List (S109), y_ = (l2 ++ [(⟨(rd_T33 l0 0).f0, t105⟩ : S109)]) := ⟨_, rfl⟩
     replace H : (some (y108, true)) = some (r1, r2) := by first | (rw [hy108]; with_reducible exact H) | (have H2_ := (Option.bind_some _ _).symm.trans H; rw [hy108]; with_reducible exact H2_) | (have H2_ := (Option.bind_some _ _).symm.trans H; with_reducible exact H2_) | with_reducible exact H | (rw [hy108]; exact H) | exact H
     have Ny108 := zM hy108
     clear hy108
     simp only [Option.some.injEq, Prod.mk.injEq] at H
     obtain ⟨rfl, rfl⟩ := H
     go_enter Tryd.func75, Tryd.ntmps75
     try go_wp2_with (first | ((with_reducible refine gate_callee (f := 38) rfl ?_); refine goesL_ (some 15) rfl rfl Tryd.func38 (by kernel_rfl) rfl #[.slice A0 l0.length c0] rfl zl ?_; (with_reducible refine (aumbryref05_Var.calls k _ _ l0 true _ ?side1 ?side2 A4.out).mono ?_); (case side1 => exact Kd.C_kept_now HR0.out (zf)); (case side2 => exact HC0.out); rintro e w' ⟨rfl, ⟨nd, rfl⟩⟩; refine ⟨_, rfl, ?_⟩; have p102 : 0 ≤ (0 : Int) := (by omega); have q102 : 0 < (l0.length : Int) := zT zv; obtain ⟨ad102, e102, hx102_0, hx102_1⟩ := at_T33 (Kd.C_kept_now HR0.out HK.out) 0 p102 q102; cases e102; have qi102 : (0 < l0.length) = True := eq_true (by omega); (try rw [show ((0 : Int)).toNat = 0 from rfl] at hx102_0); (try rw [show 0 * 2 = 0 from rfl] at hx102_0); (try rw [Addr.add_zero'] at hx102_0); (try rw [show ((0 : Int)).toNat = 0 from rfl] at hx102_1); (try rw [show 0 * 2 = 0 from rfl] at hx102_1); (try rw [Addr.add_zero'] at hx102_1); replace p102 := eq_true p102; replace q102 := eq_true q102; obtain ⟨Ao11, co11, eo11⟩ := Kd.S_slice HO2.out; subst eo11) | ((with_reducible refine gate_callee (f := 76) rfl ?_); refine goesL_ (some 21) rfl rfl Tryd.func76 (by kernel_rfl) rfl #[.slice Ao11 l2.length co11, .string ((rd_T33 l0 0).f0)] rfl zl ?_; (with_reducible refine (aumbryref05_At.calls k _ _ l2 ((rd_T33 l0 0).f0) t103 _ ?side1 ?side2 A7.out).mono ?_); (case side1 => exact Kd.C_below (Kd.S_reads' HO2.out).2.2 zg); (case side2 => exact (Kd.S_reads' HO2.out).2.1); rintro e w' ⟨rfl, ⟨nd, rfl⟩⟩; refine ⟨_, rfl, ?_⟩))
     (try (rw [drewN_self w]; generalize hq_ : World.drewN w _ = wz; have n0_ : Aside0 (Kd.S k109 109 wz w0.heap.size (fun k_ => (PQ_ k_ ∨ w.heap.size ≤ k_)) (.slice Ao11 l2.length co11) l2) := ⟨by rw [← hq_]; exact (Kd.S_below HO2.out zg)⟩; have n1_ : Aside0 (Kept w wz (fun k_ => P2_ k_)) := ⟨by rw [← hq_]; exact (zf)⟩; have n2_ : Aside0 (Below w0.heap.size w0 wz) := ⟨by rw [← hq_]; exact zb⟩; clear HO2 HK HB hq_; have HO2 := n0_; have HK := n1_; have HB := n2_; clear n0_ n1_ n2_))
     have n0_ := zM (Kd.S_drew HO2.out)
     have n1_ := zM (Kept.drew HK.out)
     have n2_ := zM (zD HB.out)
     clear HO2
     clear HK
     clear HB
     have HO2 := n0_
     have HK := n1_
     have HB := n2_
     clear n0_ n1_ n2_
     have p104 : 0 ≤ (0 : Int) := (by omega)
     have q104 : 0 < (l0.length : Int) := zT zv
     obtain ⟨ad104, e104, hx104_0, hx104_1⟩ := at_T33 (Kd.C_kept_now HR0.out HK.out) 0 p104 q104
     have hw104_1 := hx104_1
     (try rw [show ((0 : Int)).toNat = 0 from rfl] at hw104_1)
     (try rw [show 0 * 2 = 0 from rfl] at hw104_1)
     (try rw [Addr.add_zero'] at hw104_1)
     have hw104_0 := hx104_0
     (try rw [show ((0 : Int)).toNat = 0 from rfl] at hw104_0)
     (try rw [show 0 * 2 = 0 from rfl] at hw104_0)
     (try rw [Addr.add_zero'] at hw104_0)
     obtain rfl : ad102 = ad104 := (by injection e104)
     have qi104 : (0 < l0.length) = True := eq_true (by omega)
     (try rw [show ((0 : Int)).toNat = 0 from rfl] at hx104_0)
     (try rw [show 0 * 2 = 0 from rfl] at hx104_0)
     (try rw [Addr.add_zero'] at hx104_0)
     (try rw [show ((0 : Int)).toNat = 0 from rfl] at hx104_1)
     (try rw [show 0 * 2 = 0 from rfl] at hx104_1)
     (try rw [Addr.add_zero'] at hx104_1)
     replace p104 := eq_true p104
     replace q104 := eq_true q104
     refine start_ (n := 12) (S := fun w' => w'.cell? ad102 = some (.string ((rd_T33 l0 0).f0)) ∧ w'.cell? ⟨ad102.block, ad102.off + 1, none⟩ = some (.int .i64 ((rd_T33 l0 0).f1))) (ds := [8, 9]) #[false, false, false, false, false, false, false, false, false, false, false, false] (by kernel_rfl) rfl rfl ⟨hx104_0, hx104_1⟩ (fun hHeld => ?_); refine with_tabW aumbryref05_Fit.tab4 aumbryref05_Fit.bits4 (fun HT_ HW_ => ?_)
     generalize wz.drew = w12 at HO2 HK HB hx104_0 hx104_1 hHeld ⊢
     refine pure_ (i := 0) (N := some 24) (v := ?_) (a' := ?_) #[true, false, false, false, false, false, false, false, false, false, false, false] rfl rfl (any_of HT_.out (by kernel_rfl)) (fun _ _ _ h => h) (Or.inl ⟨by rfl, ?_⟩) ?_ ?_
     rotate_left
     ·
      intro w'
      go_simp
      with_reducible rfl
     rotate_left
     ·
      simp only [Act.put, List.setIfInBounds_toArray, List.set_cons_zero, List.set_cons_succ, i64_w, i32_w]
      rfl
     refine pure_ (i := 1) (N := some 25) (v := ?_) (a' := ?_) #[true, true, false, false, false, false, false, false, false, false, false, false] rfl rfl (any_of HT_.out (by kernel_rfl)) (fun _ _ _ h => h) (Or.inl ⟨by rfl, ?_⟩) ?_ ?_
     rotate_left
     ·
      intro w'
      go_simp
      with_reducible rfl
     rotate_left
     ·
      simp only [Act.put, List.setIfInBounds_toArray, List.set_cons_zero, List.set_cons_succ, i64_w, i32_w]
      rfl
     refine pure_ (i := 2) (N := some 26) (v := ?_) (a' := ?_) #[true, true, true, false, false, false, false, false, false, false, false, false] rfl rfl (any_of HT_.out (by kernel_rfl)) (fun _ _ _ h => h) (Or.inl ⟨by rfl, ?_⟩) ?_ ?_
     rotate_left
     ·
      intro w'
      go_simp
      with_reducible rfl
     rotate_left
     ·
      simp only [Act.put, List.setIfInBounds_toArray, List.set_cons_zero, List.set_cons_succ, i64_w, i32_w]
      rfl
     refine pure_ (i := 3) (N := some 27) (v := ?_) (a' := ?_) #[true, true, true, true, false, false, false, false, false, false, false, false] rfl rfl (any_of HT_.out (by kernel_rfl)) (fun _ _ _ h => h) (Or.inl ⟨by rfl, ?_⟩) ?_ ?_
     rotate_left
     ·
      intro w'
      go_simp
      with_reducible rfl
     rotate_left
     ·
      simp only [Act.put, List.setIfInBounds_toArray, List.set_cons_zero, List.set_cons_succ, i64_w, i32_w]
      rfl
     refine pure_ (i := 5) (N := some 29) (v := ?_) (a' := ?_) #[true, true, true, true, false, true, false, false, false, false, false, false] rfl rfl (any_of HT_.out (by kernel_rfl)) (fun _ _ _ h => h) (Or.inl ⟨by rfl, ?_⟩) ?_ ?_
     rotate_left
     ·
      intro w'
      go_simp
      with_reducible rfl
     rotate_left
     ·
      simp only [Act.put, List.setIfInBounds_toArray, List.set_cons_zero, List.set_cons_succ, i64_w, i32_w]
      rfl
     refine take_ (i := 4) (N := some 28) (v := ?_) (a' := ?_) #[true, true, true, true, true, true, false, false, false, false, false, false] rfl rfl (take_ofW HT_.out HW_.out (by kernel_rfl)) (fun _ _ _ h => h) (Or.inl ⟨by rfl, ?_⟩) hHeld ?_ ?_
     rotate_left
     ·
      rintro w' ⟨s0, s1⟩
      go_simp
      with_reducible rfl
     rotate_left
     ·
      simp only [Act.put, List.setIfInBounds_toArray, List.set_cons_zero, List.set_cons_succ, i64_w, i32_w]
      rfl
     refine one_ (i := 6) (N := some 30) #[true, true, true, true, true, true, true, false, false, false, false, false] rfl rfl (one_of HT_.out (by kernel_rfl)) (by decide) (fun K hK => ?_)
     refine goes_ Tryd.func23 (by kernel_rfl) rfl #[.slice A1 l1.length c1] (by rfl) rfl rfl zl ?_
     with_reducible refine (aumbryref04_Copy.calls _ _ l1 t105 _ ?side1 ?side2 A9.out).mono ?_
     (case side1 => exact Kd.C_kept_now HR1.out (zf))
     (case side2 => exact HC1.out)
     rintro e w13 ⟨v106, rfl, ho0, hb⟩
     have HS0_ := (hb.cell (World.block_lt_of_cell? _ _ (hHeld.1))).trans (hHeld.1)
     have HS1_ := (hb.cell (World.block_lt_of_cell? _ _ (hHeld.2))).trans (hHeld.2)
     refine ⟨_, rfl, ?_⟩
     have n0_ := zM (Kd.S_elder' (Kd.S_below HO2.out zg) (Kd.R_base ho0) hb)
     have n1_ := zM (Kd.R_lower (Kd.R_newM (M := fun k_ => (PQ_ k_ ∨ w.heap.size ≤ k_)) ho0 (by first | exact HK.out.1 | exact (show Kept w _ (fun k_ => P2_ k_) from zf).1) (fun k_ h_ => .inr h_)) (below_size zb))
     have n2_ := zM (Kept.below (S := (fun k_ => P2_ k_)) (zf) hb)
     have n3_ := zM (below_step zb hb)
     clear HO2
     clear HK
     clear HB
     have HO2 := n0_
     have HO107 := n1_
     have HK := n2_
     have HB := n3_
     clear n0_ n1_ n2_ n3_
     (try clear hb)
     (try clear hb2)
     (try clear hk)
     (try clear hi)
     (try clear ho0)
     obtain ⟨Ao14, co14, eo14⟩ := Kd.R_slice HO107.out
     (first | subst eo14 | (injection eo14 with f1_ f2_ f3_; have f4_ := f1_.symm; have f5_ := f3_.symm; clear f1_ f2_ f3_; subst f4_; subst f5_))
     refine hK.out _ _ ⟨HS0_, HS1_⟩ (fun hHeld => ?_)
     clear hK K
     refine norm_ (a' := ?_) ?_ ?_
     rotate_left
     ·
      show Act.put _ (some 30) _ = _
      simp only [Act.put, List.setIfInBounds_toArray, List.set_cons_zero, List.set_cons_succ, i64_w, i32_w]
      rfl
     refine pure_ (i := 7) (N := some 31) (v := ?_) (a' := ?_) #[true, true, true, true, true, true, true, true, false, false, false, false] rfl rfl (any_of HT_.out (by kernel_rfl)) (fun _ _ _ h => h) (Or.inl ⟨by rfl, ?_⟩) ?_ ?_
     rotate_left
     ·
      intro w'
      go_simp
      with_reducible rfl
     rotate_left
     ·
      simp only [Act.put, List.setIfInBounds_toArray, List.set_cons_zero, List.set_cons_succ, i64_w, i32_w]
      rfl
     refine last_ (i := 8) (N := some 32) #[true, true, true, true, true, true, true, true, true, false, false, false] rfl rfl (one_of HT_.out (by kernel_rfl)) (by decide) (fun K hK => ?_)
     refine value_ (w1 := ?_) (v := ?_) (by rfl) rfl ?_ ?_
     rotate_left 2
     ·
      go_simp
      constructor
      ·
       rfl
      ·
       rfl
     refine hK.out _ _ ?_
     clear hK K
     refine norm_ (a' := ?_) ?_ ?_
     rotate_left
     ·
      show Act.put _ (some 32) _ = _
      simp only [Act.put, List.setIfInBounds_toArray, List.set_cons_zero, List.set_cons_succ, i64_w, i32_w]
      rfl
     refine last_ (i := 9) (N := some 33) #[true, true, true, true, true, true, true, true, true, true, false, false] rfl rfl (one_of HT_.out (by kernel_rfl)) (by decide) (fun K hK => ?_)
     refine Kd.S_append_step k109 (w0 := w0) w0.heap.size (by rfl) (.tmp 24) (.tmp 32) 72 109 (.agg #[(.string ⟨#[]⟩), (.slice none 0 0)]) 40 rfl Tryd.underlying72 info109 rfl (by decide) (by omega) (.slice Ao11 l2.length co11) l2 (⟨(rd_T33 l0 0).f0, t105⟩ : S109) [.string ((rd_T33 l0 0).f0), .slice Ao14 t105.length co14] (fun k_ => (PQ_ k_ ∨ w.heap.size ≤ k_)) (fun k_ => some k_ = (.slice Ao14 t105.length co14 : Value).ownBlock) rfl rfl ?aP (fun k_ hk_ => ((Kd.R_mono (ok' := fun k_ => ((fun k_ => (PQ_ k_ ∨ w.heap.size ≤ k_))) k_ ∧ some k_ ≠ (.slice Ao11 l2.length co11 : Value).ownBlock) (Kd.R_apart' (HO107.out) (Kd.S_typed HO2.out) (by decide)) (fun k_ hk => ⟨hk.1.1, hk.2⟩))).1 k_ hk_.symm) ?aF ?aO ?aB ?aS ?aL ?_
     (case aP => exact k109_mkM _ _ _ (⟨(rd_T33 l0 0).f0, t105⟩ : S109) (Kd.R_mono (Kd.R_tight rfl (Kd.R_mono (ok' := fun k_ => ((fun k_ => (PQ_ k_ ∨ w.heap.size ≤ k_))) k_ ∧ some k_ ≠ (.slice Ao11 l2.length co11 : Value).ownBlock) (Kd.R_apart' (HO107.out) (Kd.S_typed HO2.out) (by decide)) (fun k_ hk => ⟨hk.1.1, hk.2⟩))) (fun _ h_ => h_)))
     (case aB => exact zb)
     (case aF => exact (fun k_ hk => (.inr (Nat.le_trans (by first | exact HK.out.1 | exact (show Kept w _ (fun k_ => P2_ k_) from zf).1) hk))))
     (case aO => exact (by (with_reducible repeat (first | apply Kd.S_alloc | apply Kd.S_drewN | apply Kd.S_drew)); exact Kd.S_mono HO2.out (fun k_ hk => ⟨hk.1, fun e_ => hk.2 e_⟩)))
     (case aS => exact (below_size zb))
     (case aL => have := LMc10.out; omega)
     intro v109 w15 ho hb hg hat
     have nv_ := zM (show ∀ k_ : Nat, (v109 : Value).ownBlock = some k_ → P2_ k_ ∨ w.heap.size ≤ k_ from fun k_ e_ => hat.elim (fun h_ => HV.out k_ (h_ ▸ e_)) (fun ⟨b_, h1_, h2_⟩ => .inr (by rw [h1_] at e_; injection e_ with e_; subst e_; exact Nat.le_trans (show Kept w _ (fun k_ => P2_ k_) from zf).1 h2_)))
     have HV2 := nv_
     rw [← Ny108.out] at ho
     have n0_ := zM (hb)
     have n1_ := zM (Kept.of_grown (S := (fun k_ => P2_ k_)) hg (zf) (fun k_ e_ => HV.out k_ e_))
     have n2_ := zM (ho)
     clear HB
     clear HK
     clear HO2
     clear HO107
     have HB := n0_
     have HK := n1_
     have HO110 := n2_
     clear n0_ n1_ n2_
     clear ho hb hg hat
     refine hK.out _ _ ?_
     clear hK K
     refine norm_ (a' := ?_) ?_ ?_
     rotate_left
     ·
      show Act.put _ (some 33) _ = _
      simp only [Act.put, List.setIfInBounds_toArray, List.set_cons_zero, List.set_cons_succ, i64_w, i32_w]
      rfl
     refine pure_ (i := 10) (N := some 6) (v := ?_) (a' := ?_) #[true, true, true, true, true, true, true, true, true, true, true, false] rfl rfl (any_of HT_.out (by kernel_rfl)) (fun _ _ _ h => h) (Or.inl ⟨by rfl, ?_⟩) ?_ ?_
     rotate_left
     ·
      intro w'
      go_simp
      with_reducible rfl
     rotate_left
     ·
      simp only [Act.put, List.setIfInBounds_toArray, List.set_cons_zero, List.set_cons_succ, i64_w, i32_w]
      rfl
     refine pure_ (i := 11) (N := some 7) (v := ?_) (a' := ?_) #[true, true, true, true, true, true, true, true, true, true, true, true] rfl rfl (any_of HT_.out (by kernel_rfl)) (fun _ _ _ h => h) (Or.inl ⟨by rfl, ?_⟩) ?_ ?_
     rotate_left
     ·
      intro w'
      go_simp
      with_reducible rfl
     rotate_left
     ·
      simp only [Act.put, List.setIfInBounds_toArray, List.set_cons_zero, List.set_cons_succ, i64_w, i32_w]
      rfl
     refine done_ (done_of HT_.out (by kernel_rfl)) ?_
     try go_wp2
     go_ret2
     exact ⟨_, zw, Kd.S_below HO110.out zg, zb, zf, by first | exact HV2.out | exact HV.out⟩
    ·
     rw [if_neg c10] at H
     exact absurd H (by simp)
   ·
    rw [if_neg c8] at H
    have c8b0 : decide (t103 < 0) = false := zR c8
    clear c8
    by_cases c16 : 0 ≤ t103
    ·
     rw [if_pos c16] at H
     have c16b0 : decide (0 ≤ t103) = true := zQ c16
     clear c16
     by_cases c17 : t103 < (l2.length : Int)
     ·
      rw [if_pos c17] at H
      have c17b0 : decide (t103 < (l2.length : Int)) = true := zQ c17
      clear c17
      replace H := zB H
      obtain ⟨t112, A180, H⟩ := H
      try dsimp only at H
      have A18 := zM A180
      clear A180
      simp only [Option.some.injEq, Prod.mk.injEq] at H
      obtain ⟨rfl, rfl⟩ := H
      go_enter Tryd.func75, Tryd.ntmps75
      go_wp2_with (first | ((with_reducible refine gate_callee (f := 38) rfl ?_); refine goesL_ (some 15) rfl rfl Tryd.func38 (by kernel_rfl) rfl #[.slice A0 l0.length c0] rfl zl ?_; (with_reducible refine (aumbryref05_Var.calls k _ _ l0 true _ ?side1 ?side2 A4.out).mono ?_); (case side1 => exact Kd.C_kept_now HR0.out (zf)); (case side2 => exact HC0.out); rintro e w' ⟨rfl, ⟨nd, rfl⟩⟩; refine ⟨_, rfl, ?_⟩; have p102 : 0 ≤ (0 : Int) := (by omega); have q102 : 0 < (l0.length : Int) := zT zv; obtain ⟨ad102, e102, hx102_0, hx102_1⟩ := at_T33 (Kd.C_kept_now HR0.out HK.out) 0 p102 q102; cases e102; have qi102 : (0 < l0.length) = True := eq_true (by omega); (try rw [show ((0 : Int)).toNat = 0 from rfl] at hx102_0); (try rw [show 0 * 2 = 0 from rfl] at hx102_0); (try rw [Addr.add_zero'] at hx102_0); (try rw [show ((0 : Int)).toNat = 0 from rfl] at hx102_1); (try rw [show 0 * 2 = 0 from rfl] at hx102_1); (try rw [Addr.add_zero'] at hx102_1); replace p102 := eq_true p102; replace q102 := eq_true q102; obtain ⟨Ao19, co19, eo19⟩ := Kd.S_slice HO2.out; subst eo19) | ((with_reducible refine gate_callee (f := 76) rfl ?_); refine goesL_ (some 21) rfl rfl Tryd.func76 (by kernel_rfl) rfl #[.slice Ao19 l2.length co19, .string ((rd_T33 l0 0).f0)] rfl zl ?_; (with_reducible refine (aumbryref05_At.calls k _ _ l2 ((rd_T33 l0 0).f0) t103 _ ?side1 ?side2 A7.out).mono ?_); (case side1 => exact Kd.C_below (Kd.S_reads' HO2.out).2.2 zg); (case side2 => exact (Kd.S_reads' HO2.out).2.1); rintro e w' ⟨rfl, ⟨nd, rfl⟩⟩; refine ⟨_, rfl, ?_⟩; have p111 : 0 ≤ (t103 : Int) := zT zv; have q111 : t103 < (l2.length : Int) := zT zv; obtain ⟨ad111, A111_1, c111_1, e111, hx111_0, hx111_1, hl111_1, hi111_1⟩ := at_T109 (Kd.S_reads' HO2.out).2.2 t103 p111 q111; cases e111; obtain ⟨ce111, hce111, hMe111, hcc111⟩ := Kd.S_get HO2.out z109 t103 p111 (by first | exact q111 | exact zT zv | (have e_ := (Kd.S_reads' HO2.out).1; omega)); obtain ⟨ve111_1, rfl, ge111_1⟩ := k109_openM hMe111; have hv111_1 := hcc111 1 _ rfl; rw [add_field _ _ 1 (by omega)] at hv111_1; replace hv111_1 := zS (hv111_1.symm.trans hx111_1); rw [hv111_1] at ge111_1; have HL111_1 := zM (show Kd.R k33 33 _ _ _ _ ((rd_T109 l2 t103).f1) from ge111_1); clear hv111_1 ge111_1; clear hcc111 hce111; have HR111_1 := zM hi111_1; have HC111_1 := zM hl111_1; clear hi111_1 hl111_1; replace p111 := eq_true p111; replace q111 := eq_true q111) | ((with_reducible refine gate_callee (f := 25) rfl ?_); refine goesL_ (some 41) rfl rfl Tryd.func25 (by kernel_rfl) rfl #[.slice A111_1 ((rd_T109 l2 t103).f1).length c111_1, .slice A1 l1.length c1] rfl zl ?_; (with_reducible refine (aumbryref04_Same.calls k _ _ ((rd_T109 l2 t103).f1) _ _ l1 t112 _ ?side1 ?side2 ?side3 ?side4 A18.out).mono ?_); (case side1 => repeat (first | exact (by repeat (first | (with_reducible exact HR111_1.out) | (with_reducible first | refine Kd.C_alloc ?_ _ | refine Kd.C_drewN ?_ _ | refine Kd.C_drew ?_) | exact HR111_1.out)) | (with_reducible first | refine Kd.C_alloc ?_ _ | refine Kd.C_drewN ?_ _ | refine Kd.C_drew ?_))); (case side2 => exact HC111_1.out); (case side3 => exact Kd.C_kept_now HR1.out (zf)); (case side4 => exact HC1.out); rintro e w' ⟨rfl, ⟨nd, rfl⟩⟩; refine ⟨_, rfl, ?_⟩))
      go_ret2
      exact ⟨_, zw, Kd.S_below HO2.out zg, zb, zf, by first | exact HV2.out | exact HV.out⟩
     ·
      rw [if_neg c17] at H
      exact absurd H (by simp)
    ·
     rw [if_neg c16] at H
     exact absurd H (by simp)
  ·
   rw [if_neg c6] at H
   exact absurd H (by simp)
 ·
  replace c5 := zI c5
  subst c5
  rw [if_neg (show ¬ (false = true) by decide)] at H
  by_cases c20 : 0 < (l0.length : Int)
  ·
   rw [if_pos c20] at H
   have c20b0 : decide (0 < (l0.length : Int)) = true := zQ c20
   have c20b1 : decide (0 < l0.length) = true := zQ (by omega)
   clear c20
   by_cases c21 : 0 < (l1.length : Int)
   ·
    rw [if_pos c21] at H
    have c21b0 : decide (0 < (l1.length : Int)) = true := zQ c21
    have c21b1 : decide (0 < l1.length) = true := zQ (by omega)
    clear c21
    by_cases c22 : (!((((rd_T33 l0 0).f0).toList) == (((rd_T33 l1 0).f0).toList)) || (!(((rd_T33 l0 0).f1) == ((rd_T33 l1 0).f1)))) = true
    ·
     rw [if_pos c22] at H
     have c22b0 : (!((((rd_T33 l0 0).f0).toList) == (((rd_T33 l1 0).f0).toList)) || (!(((rd_T33 l0 0).f1) == ((rd_T33 l1 0).f1)))) = true := c22
     clear c22
     simp only [Option.some.injEq, Prod.mk.injEq] at H
     obtain ⟨rfl, rfl⟩ := H
     go_enter Tryd.func75, Tryd.ntmps75
     try go_wp2_with (first | ((with_reducible refine gate_callee (f := 38) rfl ?_); refine goesL_ (some 15) rfl rfl Tryd.func38 (by kernel_rfl) rfl #[.slice A0 l0.length c0] rfl zl ?_; (with_reducible refine (aumbryref05_Var.calls k _ _ l0 false _ ?side1 ?side2 A4.out).mono ?_); (case side1 => exact Kd.C_kept_now HR0.out (zf)); (case side2 => exact HC0.out); rintro e w' ⟨rfl, ⟨nd, rfl⟩⟩; refine ⟨_, rfl, ?_⟩))
     (try (rw [drewN_self w]; generalize hq_ : World.drewN w _ = wz; have n0_ : Aside0 (Kd.S k109 109 wz w0.heap.size (fun k_ => (PQ_ k_ ∨ w.heap.size ≤ k_)) u9000_ l2) := ⟨by rw [← hq_]; exact (Kd.S_below HO2.out zg)⟩; have n1_ : Aside0 (Kept w wz (fun k_ => P2_ k_)) := ⟨by rw [← hq_]; exact (zf)⟩; have n2_ : Aside0 (Below w0.heap.size w0 wz) := ⟨by rw [← hq_]; exact zb⟩; clear HO2 HK HB hq_; have HO2 := n0_; have HK := n1_; have HB := n2_; clear n0_ n1_ n2_))
     have n0_ := zM (Kd.S_drew HO2.out)
     have n1_ := zM (Kept.drew HK.out)
     have n2_ := zM (zD HB.out)
     clear HO2
     clear HK
     clear HB
     have HO2 := n0_
     have HK := n1_
     have HB := n2_
     clear n0_ n1_ n2_
     have p113 : 0 ≤ (0 : Int) := (by omega)
     have q113 : 0 < (l0.length : Int) := zT zv
     obtain ⟨ad113, e113, hx113_0, hx113_1⟩ := at_T33 (Kd.C_kept_now HR0.out HK.out) 0 p113 q113
     have hw113_1 := hx113_1
     (try rw [show ((0 : Int)).toNat = 0 from rfl] at hw113_1)
     (try rw [show 0 * 2 = 0 from rfl] at hw113_1)
     (try rw [Addr.add_zero'] at hw113_1)
     have hw113_0 := hx113_0
     (try rw [show ((0 : Int)).toNat = 0 from rfl] at hw113_0)
     (try rw [show 0 * 2 = 0 from rfl] at hw113_0)
     (try rw [Addr.add_zero'] at hw113_0)
     cases e113
     have qi113 : (0 < l0.length) = True := eq_true (by omega)
     (try rw [show ((0 : Int)).toNat = 0 from rfl] at hx113_0)
     (try rw [show 0 * 2 = 0 from rfl] at hx113_0)
     (try rw [Addr.add_zero'] at hx113_0)
     (try rw [show ((0 : Int)).toNat = 0 from rfl] at hx113_1)
     (try rw [show 0 * 2 = 0 from rfl] at hx113_1)
     (try rw [Addr.add_zero'] at hx113_1)
     replace p113 := eq_true p113
     replace q113 := eq_true q113
     have p114 : 0 ≤ (0 : Int) := (by omega)
     have q114 : 0 < (l1.length : Int) := zT zv
     obtain ⟨ad114, e114, hx114_0, hx114_1⟩ := at_T33 (Kd.C_kept_now HR1.out HK.out) 0 p114 q114
     have hw114_1 := hx114_1
     (try rw [show ((0 : Int)).toNat = 0 from rfl] at hw114_1)
     (try rw [show 0 * 2 = 0 from rfl] at hw114_1)
     (try rw [Addr.add_zero'] at hw114_1)
     have hw114_0 := hx114_0
     (try rw [show ((0 : Int)).toNat = 0 from rfl] at hw114_0)
     (try rw [show 0 * 2 = 0 from rfl] at hw114_0)
     (try rw [Addr.add_zero'] at hw114_0)
     cases e114
     have qi114 : (0 < l1.length) = True := eq_true (by omega)
     (try rw [show ((0 : Int)).toNat = 0 from rfl] at hx114_0)
     (try rw [show 0 * 2 = 0 from rfl] at hx114_0)
     (try rw [Addr.add_zero'] at hx114_0)
     (try rw [show ((0 : Int)).toNat = 0 from rfl] at hx114_1)
     (try rw [show 0 * 2 = 0 from rfl] at hx114_1)
     (try rw [Addr.add_zero'] at hx114_1)
     replace p114 := eq_true p114
     replace q114 := eq_true q114
     refine start_ (n := 7) (S := fun w' => w'.cell? ad113 = some (.string ((rd_T33 l0 0).f0)) ∧ w'.cell? ⟨ad113.block, ad113.off + 1, none⟩ = some (.int .i64 ((rd_T33 l0 0).f1)) ∧ w'.cell? ad114 = some (.string ((rd_T33 l1 0).f0)) ∧ w'.cell? ⟨ad114.block, ad114.off + 1, none⟩ = some (.int .i64 ((rd_T33 l1 0).f1))) (ds := []) #[false, false, false, false, false, false, false] (by kernel_rfl) rfl rfl ⟨hx113_0, hx113_1, hx114_0, hx114_1⟩ (fun hHeld => ?_)
     generalize wz.drew = w23 at HO2 HK HB hx113_0 hx113_1 hx114_0 hx114_1 hHeld ⊢
     refine pure_ (i := 0) (N := some 42) (v := ?_) (a' := ?_) #[true, false, false, false, false, false, false] rfl rfl (by kernel_rfl) (fun _ _ _ h => h) (Or.inl ⟨by rfl, ?_⟩) ?_ ?_
     rotate_left
     ·
      intro w'
      go_simp
      with_reducible rfl
     rotate_left
     ·
      simp only [Act.put, List.setIfInBounds_toArray, List.set_cons_zero, List.set_cons_succ, i64_w, i32_w]
      rfl
     refine pure_ (i := 1) (N := some 43) (v := ?_) (a' := ?_) #[true, true, false, false, false, false, false] rfl rfl (by kernel_rfl) (fun _ _ _ h => h) (Or.inl ⟨by rfl, ?_⟩) ?_ ?_
     rotate_left
     ·
      intro w'
      go_simp
      with_reducible rfl
     rotate_left
     ·
      simp only [Act.put, List.setIfInBounds_toArray, List.set_cons_zero, List.set_cons_succ, i64_w, i32_w]
      rfl
     refine pure_ (i := 3) (N := some 45) (v := ?_) (a' := ?_) #[true, true, false, true, false, false, false] rfl rfl (by kernel_rfl) (fun _ _ _ h => h) (Or.inl ⟨by rfl, ?_⟩) ?_ ?_
     rotate_left
     ·
      intro w'
      go_simp
      with_reducible rfl
     rotate_left
     ·
      simp only [Act.put, List.setIfInBounds_toArray, List.set_cons_zero, List.set_cons_succ, i64_w, i32_w]
      rfl
     refine pure_ (i := 4) (N := some 46) (v := ?_) (a' := ?_) #[true, true, false, true, true, false, false] rfl rfl (by kernel_rfl) (fun _ _ _ h => h) (Or.inl ⟨by rfl, ?_⟩) ?_ ?_
     rotate_left
     ·
      intro w'
      go_simp
      with_reducible rfl
     rotate_left
     ·
      simp only [Act.put, List.setIfInBounds_toArray, List.set_cons_zero, List.set_cons_succ, i64_w, i32_w]
      rfl
     refine take_ (i := 2) (N := some 44) (v := ?_) (a' := ?_) #[true, true, true, true, true, false, false] rfl rfl (by kernel_rfl) (fun _ _ _ h => h) (Or.inl ⟨by rfl, ?_⟩) hHeld ?_ ?_
     rotate_left
     ·
      rintro w' ⟨s0, s1, s2, s3⟩
      go_simp
      with_reducible rfl
     rotate_left
     ·
      simp only [Act.put, List.setIfInBounds_toArray, List.set_cons_zero, List.set_cons_succ, i64_w, i32_w]
      rfl
     refine take_ (i := 5) (N := some 47) (v := ?_) (a' := ?_) #[true, true, true, true, true, true, false] rfl rfl (by kernel_rfl) (fun _ _ _ h => h) (Or.inl ⟨by rfl, ?_⟩) hHeld ?_ ?_
     rotate_left
     ·
      rintro w' ⟨s0, s1, s2, s3⟩
      go_simp
      with_reducible rfl
     rotate_left
     ·
      simp only [Act.put, List.setIfInBounds_toArray, List.set_cons_zero, List.set_cons_succ, i64_w, i32_w]
      rfl
     refine pure_ (i := 6) (N := some 48) (v := ?_) (a' := ?_) #[true, true, true, true, true, true, true] rfl rfl (by kernel_rfl) (fun _ _ _ h => h) (Or.inl ⟨by rfl, ?_⟩) ?_ ?_
     rotate_left
     ·
      intro w'
      go_simp
      with_reducible rfl
     rotate_left
     ·
      simp only [Act.put, List.setIfInBounds_toArray, List.set_cons_zero, List.set_cons_succ, i64_w, i32_w]
      rfl
     refine done_ (by kernel_rfl) ?_
     try go_wp2
     go_ret2
     exact ⟨_, zw, by first | exact Kd.S_nil _ _ _ _ _ | exact Kd.N_nil _ _ _ _ _ | exact Kd.V_nil _ _ _ _ _ | exact Kd.Q_nil _ _ _ _ _ | exact Kd.R_nil _ _ _ _ _, zb, zf, fun k_ e_ => by simp [Value.ownBlock] at e_⟩
    ·
     rw [if_neg c22] at H
     have c22b0 : (!((((rd_T33 l0 0).f0).toList) == (((rd_T33 l1 0).f0).toList)) || (!(((rd_T33 l0 0).f1) == ((rd_T33 l1 0).f1)))) = false := by simpa using c22
     clear c22
     replace H := zB H
     obtain ⟨t115, A240, H⟩ := H
     try dsimp only at H
     have A24 := zM A240
     clear A240
     replace H := zB H
     obtain ⟨t118, A250, H⟩ := H
     try dsimp only at H
     have A25 := zM A250
     clear A250
     have H' := zM H
     clear H
     go_enter Tryd.func75, Tryd.ntmps75
     try go_wp2_with (first | ((with_reducible refine gate_callee (f := 38) rfl ?_); refine goesL_ (some 15) rfl rfl Tryd.func38 (by kernel_rfl) rfl #[.slice A0 l0.length c0] rfl zl ?_; (with_reducible refine (aumbryref05_Var.calls k _ _ l0 false _ ?side1 ?side2 A4.out).mono ?_); (case side1 => exact Kd.C_kept_now HR0.out (zf)); (case side2 => exact HC0.out); rintro e w' ⟨rfl, ⟨nd, rfl⟩⟩; refine ⟨_, rfl, ?_⟩))
     (try (rw [drewN_self w]; generalize hq_ : World.drewN w _ = wz; have n0_ : Aside0 (Kd.S k109 109 wz w0.heap.size (fun k_ => (PQ_ k_ ∨ w.heap.size ≤ k_)) u9000_ l2) := ⟨by rw [← hq_]; exact (Kd.S_below HO2.out zg)⟩; have n1_ : Aside0 (Kept w wz (fun k_ => P2_ k_)) := ⟨by rw [← hq_]; exact (zf)⟩; have n2_ : Aside0 (Below w0.heap.size w0 wz) := ⟨by rw [← hq_]; exact zb⟩; clear HO2 HK HB hq_; have HO2 := n0_; have HK := n1_; have HB := n2_; clear n0_ n1_ n2_))
     have n0_ := zM (Kd.S_drew HO2.out)
     have n1_ := zM (Kept.drew HK.out)
     have n2_ := zM (zD HB.out)
     clear HO2
     clear HK
     clear HB
     have HO2 := n0_
     have HK := n1_
     have HB := n2_
     clear n0_ n1_ n2_
     have p113 : 0 ≤ (0 : Int) := (by omega)
     have q113 : 0 < (l0.length : Int) := zT zv
     obtain ⟨ad113, e113, hx113_0, hx113_1⟩ := at_T33 (Kd.C_kept_now HR0.out HK.out) 0 p113 q113
     have hw113_1 := hx113_1
     (try rw [show ((0 : Int)).toNat = 0 from rfl] at hw113_1)
     (try rw [show 0 * 2 = 0 from rfl] at hw113_1)
     (try rw [Addr.add_zero'] at hw113_1)
     have hw113_0 := hx113_0
     (try rw [show ((0 : Int)).toNat = 0 from rfl] at hw113_0)
     (try rw [show 0 * 2 = 0 from rfl] at hw113_0)
     (try rw [Addr.add_zero'] at hw113_0)
     cases e113
     have qi113 : (0 < l0.length) = True := eq_true (by omega)
     (try rw [show ((0 : Int)).toNat = 0 from rfl] at hx113_0)
     (try rw [show 0 * 2 = 0 from rfl] at hx113_0)
     (try rw [Addr.add_zero'] at hx113_0)
     (try rw [show ((0 : Int)).toNat = 0 from rfl] at hx113_1)
     (try rw [show 0 * 2 = 0 from rfl] at hx113_1)
     (try rw [Addr.add_zero'] at hx113_1)
     replace p113 := eq_true p113
     replace q113 := eq_true q113
     have p114 : 0 ≤ (0 : Int) := (by omega)
     have q114 : 0 < (l1.length : Int) := zT zv
     obtain ⟨ad114, e114, hx114_0, hx114_1⟩ := at_T33 (Kd.C_kept_now HR1.out HK.out) 0 p114 q114
     have hw114_1 := hx114_1
     (try rw [show ((0 : Int)).toNat = 0 from rfl] at hw114_1)
     (try rw [show 0 * 2 = 0 from rfl] at hw114_1)
     (try rw [Addr.add_zero'] at hw114_1)
     have hw114_0 := hx114_0
     (try rw [show ((0 : Int)).toNat = 0 from rfl] at hw114_0)
     (try rw [show 0 * 2 = 0 from rfl] at hw114_0)
     (try rw [Addr.add_zero'] at hw114_0)
     cases e114
     have qi114 : (0 < l1.length) = True := eq_true (by omega)
     (try rw [show ((0 : Int)).toNat = 0 from rfl] at hx114_0)
     (try rw [show 0 * 2 = 0 from rfl] at hx114_0)
     (try rw [Addr.add_zero'] at hx114_0)
     (try rw [show ((0 : Int)).toNat = 0 from rfl] at hx114_1)
     (try rw [show 0 * 2 = 0 from rfl] at hx114_1)
     (try rw [Addr.add_zero'] at hx114_1)
     replace p114 := eq_true p114
     replace q114 := eq_true q114
     refine start_ (n := 7) (S := fun w' => w'.cell? ad113 = some (.string ((rd_T33 l0 0).f0)) ∧ w'.cell? ⟨ad113.block, ad113.off + 1, none⟩ = some (.int .i64 ((rd_T33 l0 0).f1)) ∧ w'.cell? ad114 = some (.string ((rd_T33 l1 0).f0)) ∧ w'.cell? ⟨ad114.block, ad114.off + 1, none⟩ = some (.int .i64 ((rd_T33 l1 0).f1))) (ds := []) #[false, false, false, false, false, false, false] (by kernel_rfl) rfl rfl ⟨hx113_0, hx113_1, hx114_0, hx114_1⟩ (fun hHeld => ?_)
     generalize wz.drew = w26 at HO2 HK HB hx113_0 hx113_1 hx114_0 hx114_1 hHeld ⊢
     refine pure_ (i := 0) (N := some 42) (v := ?_) (a' := ?_) #[true, false, false, false, false, false, false] rfl rfl (by kernel_rfl) (fun _ _ _ h => h) (Or.inl ⟨by rfl, ?_⟩) ?_ ?_
     rotate_left
     ·
      intro w'
      go_simp
      with_reducible rfl
     rotate_left
     ·
      simp only [Act.put, List.setIfInBounds_toArray, List.set_cons_zero, List.set_cons_succ, i64_w, i32_w]
      rfl
     refine pure_ (i := 1) (N := some 43) (v := ?_) (a' := ?_) #[true, true, false, false, false, false, false] rfl rfl (by kernel_rfl) (fun _ _ _ h => h) (Or.inl ⟨by rfl, ?_⟩) ?_ ?_
     rotate_left
     ·
      intro w'
      go_simp
      with_reducible rfl
     rotate_left
     ·
      simp only [Act.put, List.setIfInBounds_toArray, List.set_cons_zero, List.set_cons_succ, i64_w, i32_w]
      rfl
     refine pure_ (i := 3) (N := some 45) (v := ?_) (a' := ?_) #[true, true, false, true, false, false, false] rfl rfl (by kernel_rfl) (fun _ _ _ h => h) (Or.inl ⟨by rfl, ?_⟩) ?_ ?_
     rotate_left
     ·
      intro w'
      go_simp
      with_reducible rfl
     rotate_left
     ·
      simp only [Act.put, List.setIfInBounds_toArray, List.set_cons_zero, List.set_cons_succ, i64_w, i32_w]
      rfl
     refine pure_ (i := 4) (N := some 46) (v := ?_) (a' := ?_) #[true, true, false, true, true, false, false] rfl rfl (by kernel_rfl) (fun _ _ _ h => h) (Or.inl ⟨by rfl, ?_⟩) ?_ ?_
     rotate_left
     ·
      intro w'
      go_simp
      with_reducible rfl
     rotate_left
     ·
      simp only [Act.put, List.setIfInBounds_toArray, List.set_cons_zero, List.set_cons_succ, i64_w, i32_w]
      rfl
     refine take_ (i := 2) (N := some 44) (v := ?_) (a' := ?_) #[true, true, true, true, true, false, false] rfl rfl (by kernel_rfl) (fun _ _ _ h => h) (Or.inl ⟨by rfl, ?_⟩) hHeld ?_ ?_
     rotate_left
     ·
      rintro w' ⟨s0, s1, s2, s3⟩
      go_simp
      with_reducible rfl
     rotate_left
     ·
      simp only [Act.put, List.setIfInBounds_toArray, List.set_cons_zero, List.set_cons_succ, i64_w, i32_w]
      rfl
     refine take_ (i := 5) (N := some 47) (v := ?_) (a' := ?_) #[true, true, true, true, true, true, false] rfl rfl (by kernel_rfl) (fun _ _ _ h => h) (Or.inl ⟨by rfl, ?_⟩) hHeld ?_ ?_
     rotate_left
     ·
      rintro w' ⟨s0, s1, s2, s3⟩
      go_simp
      with_reducible rfl
     rotate_left
     ·
      simp only [Act.put, List.setIfInBounds_toArray, List.set_cons_zero, List.set_cons_succ, i64_w, i32_w]
      rfl
     refine pure_ (i := 6) (N := some 48) (v := ?_) (a' := ?_) #[true, true, true, true, true, true, true] rfl rfl (by kernel_rfl) (fun _ _ _ h => h) (Or.inl ⟨by rfl, ?_⟩) ?_ ?_
     rotate_left
     ·
      intro w'
      go_simp
      with_reducible rfl
     rotate_left
     ·
      simp only [Act.put, List.setIfInBounds_toArray, List.set_cons_zero, List.set_cons_succ, i64_w, i32_w]
      rfl
     refine done_ (by kernel_rfl) ?_
     try go_wp2_with (first | ((with_reducible refine gate_callee (f := 70) rfl ?_); refine goesL_ (some 50) rfl rfl Tryd.func70 (by kernel_rfl) rfl #[.slice (some ad113) l0.length c0] rfl zl ?_; (with_reducible refine (aumbryref04_Kids.calls k _ _ l0 t115 _ ?side1 ?side2 A24.out).mono ?_); (case side1 => exact Kd.C_kept_now HR0.out (zf)); (case side2 => exact HC0.out); rintro e w27 ⟨v116, rfl, ho0, hb⟩; refine ⟨_, rfl, ?_⟩; replace HO2 := zM (Kd.S_below (Kd.S_below HO2.out zg) hb); have HO117 := zM (Kd.S_lower (Kd.S_newM (M := fun k_ => (PQ_ k_ ∨ w.heap.size ≤ k_)) ho0 (by first | exact HK.out.1 | exact (show Kept w _ (fun k_ => P2_ k_) from zf).1) (fun k_ h_ => .inr h_)) (below_size zb)); replace HK := zM (Kept.below (S := (fun k_ => P2_ k_)) (zf) hb); replace HB := zM (below_step zb hb); (try clear hb); (try clear ho0)) | ((with_reducible refine gate_callee (f := 70) rfl ?_); refine goesL_ (some 52) rfl rfl Tryd.func70 (by kernel_rfl) rfl #[.slice (some ad114) l1.length c1] rfl zl ?_; (with_reducible refine (aumbryref04_Kids.calls k _ _ l1 t118 _ ?side1 ?side2 A25.out).mono ?_); (case side1 => exact Kd.C_kept_now HR1.out (zf)); (case side2 => exact HC1.out); rintro e w28 ⟨v119, rfl, ho0, hb⟩; refine ⟨_, rfl, ?_⟩; replace HO2 := zM (Kd.S_below (Kd.S_below HO2.out zg) hb); have HO120 := zM (Kd.S_lower (Kd.S_new' (Kd.S_newM (M := fun k_ => (PQ_ k_ ∨ w.heap.size ≤ k_)) ho0 (by first | exact HK.out.1 | exact (show Kept w _ (fun k_ => P2_ k_) from zf).1) (fun k_ h_ => .inr h_)) (Kd.S_lt (Kd.S_below HO117.out zg))) (below_size zb)); replace HO117 := zM (Kd.S_elder' (Kd.S_below HO117.out zg) (Kd.S_base ho0) hb); replace HK := zM (Kept.below (S := (fun k_ => P2_ k_)) (zf) hb); replace HB := zM (below_step zb hb); (try clear hb); (try clear ho0); obtain ⟨Ao29, co29, eo29⟩ := Kd.S_slice HO117.out; subst eo29))
     go_loopg [2, 55] k (fun kq v2 v55 w' => ∃ (x2_1 : List (S109)) (x55_1 : Int), v55 = .int .i64 x55_1 ∧ Aside0 (aumbryref05_Fit.l0 kq x2_1 t115 t118 (t115.length : Int) x55_1 = some (r1, r2)) ∧ Aside0 (kq ≤ k) ∧ Aside0 (Kd.S k109 109 w' w0.heap.size (fun k_ => (PQ_ k_ ∨ w.heap.size ≤ k_)) v2 x2_1) ∧ Aside0 (Kd.S (Kd.slice 33 k33) 23 w' w0.heap.size (fun k_ => (PQ_ k_ ∨ w.heap.size ≤ k_) ∧ some k_ ≠ (v119 : Value).ownBlock) (.slice Ao29 t115.length co29) t115) ∧ Aside0 (Kd.S (Kd.slice 33 k33) 23 w' w0.heap.size (fun k_ => (PQ_ k_ ∨ w.heap.size ≤ k_) ∧ some k_ ≠ ((.slice Ao29 t115.length co29) : Value).ownBlock) v119 t118) ∧ Aside0 (Kept w w' (fun k_ => P2_ k_)) ∧ Aside0 (Below w0.heap.size w0 w') ∧ Aside0 (∀ k_ : Nat, (v2 : Value).ownBlock = some k_ → P2_ k_ ∨ w.heap.size ≤ k_))
     case atStart => exact ⟨(l2), (0), zy, H', ⟨Nat.le_refl _⟩, ⟨Kd.S_below HO2.out zg⟩, ⟨by (with_reducible repeat (first | apply Kd.S_alloc | apply Kd.S_drewN | apply Kd.S_drew)); exact Kd.S_mono HO117.out (fun _ hk => ⟨hk.1.1, hk.2⟩)⟩, ⟨by (with_reducible repeat (first | apply Kd.S_alloc | apply Kd.S_drewN | apply Kd.S_drew)); exact Kd.S_mono HO120.out (fun _ hk => ⟨hk.1.1, hk.2⟩)⟩, ⟨zf⟩, ⟨zb⟩, HV⟩
     case round =>
      clear H'
      try clear c1
      try clear p1
      try clear q1
      try clear hx1
      try clear qi1
      try clear c2
      try clear p2
      try clear c3
      try clear c5
      try clear c6
      try clear c6b0
      try clear c6b1
      try clear c7
      try clear c8
      try clear c8b0
      try clear c10
      try clear p10
      try clear q10
      try clear hx10
      try clear qi10
      try clear c11
      try clear p11
      try clear q11
      try clear hx11
      try clear qi11
      try clear c16
      try clear c16b0
      try clear c17
      try clear c17b0
      try clear c20
      try clear c20b0
      try clear c20b1
      try clear c21
      try clear c21b0
      try clear c21b1
      try clear c22
      try clear c22b0
      try clear c23
      try clear c25
      try clear hx102_0
      try clear hx102_1
      try clear hx104_0
      try clear hx104_1
      try clear hx111_0
      try clear hx111_1
      try clear hx113_0
      try clear hx113_1
      try clear hx114_0
      try clear hx114_1
      try clear p102
      try clear p104
      try clear p111
      try clear p113
      try clear p114
      try clear q102
      try clear q104
      try clear q111
      try clear q113
      try clear q114
      obtain ⟨x2_1, x55_1, rfl, HA, HK1, HO_2, HO_9, HO_10, HK, HB, HV⟩ := hrel
      cases gk with
      | zero => exact absurd HA.out (by simp [aumbryref05_Fit.l0])
      | succ k1 =>
       have H := HA.out
       clear HA
       simp only [aumbryref05_Fit.l0] at H
       by_cases c30 : x55_1 < (t115.length : Int)
       ·
        rw [if_pos c30] at H
        have c30b0 : decide (x55_1 < (t115.length : Int)) = true := zQ c30
        clear c30
        by_cases c31 : 0 ≤ x55_1
        ·
         rw [if_pos c31] at H
         have c31b0 : decide (0 ≤ x55_1) = true := zQ c31
         clear c31
         by_cases c32 : x55_1 < (t115.length : Int)
         ·
          rw [if_pos c32] at H
          have c32b0 : decide (x55_1 < (t115.length : Int)) = true := zQ c32
          clear c32
          by_cases c33 : x55_1 < (t118.length : Int)
          ·
           rw [if_pos c33] at H
           have c33b0 : decide (x55_1 < (t118.length : Int)) = true := zQ c33
           clear c33
           replace H := zB H
           obtain ⟨⟨t123, t126⟩, A340, H⟩ := H
           try dsimp only at H
           have A34 := zM A340
           clear A340
           by_cases c35 : t126 = true
           ·
            subst c35
            rw [if_pos rfl] at H
            have H' := zM H
            clear H
            try go_wp2
            have n0_ := zM (Kd.S_drew HO_2.out)
            have n1_ := zM (Kd.S_drew HO_9.out)
            have n2_ := zM (Kd.S_drew HO_10.out)
            have n3_ := zM (Kept.drew HK.out)
            have n4_ := zM (zD HB.out)
            clear HO_2
            clear HO_9
            clear HO_10
            clear HK
            clear HB
            have HO_2 := n0_
            have HO_9 := n1_
            have HO_10 := n2_
            have HK := n3_
            have HB := n4_
            clear n0_ n1_ n2_ n3_ n4_
            have p121 : 0 ≤ (x55_1 : Int) := zT zv
            have q121 : x55_1 < (t115.length : Int) := zT zv
            obtain ⟨ad121, A121_0, c121_0, e121, hx121_0, hl121_0, hi121_0⟩ := at_L3 (Kd.S_reads' HO_9.out).2.2 x55_1 p121 q121
            cases e121
            obtain ⟨ce121, hce121, hMe121, hcc121⟩ := Kd.S_get HO_9.out [] x55_1 p121 (by first | exact q121 | exact zT zv | (have e_ := (Kd.S_reads' HO_9.out).1; omega))
            obtain ⟨ve121_0, rfl, ge121_0⟩ := hMe121
            have hv121_0 := hcc121 0 _ rfl
            rw [Nat.add_zero, show ((Kd.slice 33 k33)).sz = 1 from rfl, Nat.mul_one] at hv121_0
            replace hv121_0 := zS (hv121_0.symm.trans hx121_0)
            rw [hv121_0] at ge121_0
            have HL121_0 := zM (show Kd.R k33 33 _ _ _ _ (rd_L3 t115 x55_1) from ge121_0)
            clear hv121_0 ge121_0
            clear hcc121 hce121
            have HR121_0 := zM hi121_0
            have HC121_0 := zM hl121_0
            clear hi121_0 hl121_0
            replace p121 := eq_true p121
            replace q121 := eq_true q121
            obtain ⟨Ao37, co37, eo37⟩ := Kd.S_slice HO_10.out
            (first | subst eo37 | (injection eo37 with f1_ f2_ f3_; have f4_ := f1_.symm; have f5_ := f3_.symm; clear f1_ f2_ f3_; subst f4_; subst f5_))
            have p122 : 0 ≤ (x55_1 : Int) := zT zv
            have q122 : x55_1 < (t118.length : Int) := zT zv
            obtain ⟨ad122, A122_0, c122_0, e122, hx122_0, hl122_0, hi122_0⟩ := at_L3 (Kd.S_reads' HO_10.out).2.2 x55_1 p122 q122
            cases e122
            obtain ⟨ce122, hce122, hMe122, hcc122⟩ := Kd.S_get HO_10.out [] x55_1 p122 (by first | exact q122 | exact zT zv | (have e_ := (Kd.S_reads' HO_10.out).1; omega))
            obtain ⟨ve122_0, rfl, ge122_0⟩ := hMe122
            have hv122_0 := hcc122 0 _ rfl
            rw [Nat.add_zero, show ((Kd.slice 33 k33)).sz = 1 from rfl, Nat.mul_one] at hv122_0
            replace hv122_0 := zS (hv122_0.symm.trans hx122_0)
            rw [hv122_0] at ge122_0
            have HL122_0 := zM (show Kd.R k33 33 _ _ _ _ (rd_L3 t118 x55_1) from ge122_0)
            clear hv122_0 ge122_0
            clear hcc122 hce122
            have HR122_0 := zM hi122_0
            have HC122_0 := zM hl122_0
            clear hi122_0 hl122_0
            replace p122 := eq_true p122
            replace q122 := eq_true q122
            obtain ⟨Ao38, co38, eo38⟩ := Kd.S_slice HO_2.out
            (first | subst eo38 | (injection eo38 with f1_ f2_ f3_; have f4_ := f1_.symm; have f5_ := f3_.symm; clear f1_ f2_ f3_; subst f4_; subst f5_))
            refine start_ (n := 15) (S := fun w' => w'.cell? (ad121.add (x55_1).toNat) = some (.slice A121_0 (rd_L3 t115 x55_1).length c121_0) ∧ w'.cell? (ad122.add (x55_1).toNat) = some (.slice A122_0 (rd_L3 t118 x55_1).length c122_0)) (ds := []) #[false, false, false, false, false, false, false, false, false, false, false, false, false, false, false] (by kernel_rfl) rfl rfl ⟨hx121_0, hx122_0⟩ (fun hHeld => ?_); refine with_tabW aumbryref05_Fit.tab12 aumbryref05_Fit.bits12 (fun HT_ HW_ => ?_)
            generalize wr.drew = w36 at HO_2 HO_9 HO_10 HK HB HL121_0 HL122_0 HR121_0 HR122_0 hx121_0 hx122_0 hHeld ⊢
            refine pure_ (i := 0) (N := some 59) (v := ?_) (a' := ?_) #[true, false, false, false, false, false, false, false, false, false, false, false, false, false, false] rfl rfl (any_of HT_.out (by kernel_rfl)) (fun _ _ _ h => h) (Or.inl ⟨by rfl, ?_⟩) ?_ ?_
            rotate_left
            ·
             intro w'
             go_simp
             with_reducible rfl
            rotate_left
            ·
             simp only [Act.put, List.setIfInBounds_toArray, List.set_cons_zero, List.set_cons_succ, i64_w, i32_w]
             rfl
            refine pure_ (i := 1) (N := some 60) (v := ?_) (a' := ?_) #[true, true, false, false, false, false, false, false, false, false, false, false, false, false, false] rfl rfl (any_of HT_.out (by kernel_rfl)) (fun _ _ _ h => h) (Or.inl ⟨by rfl, ?_⟩) ?_ ?_
            rotate_left
            ·
             intro w'
             go_simp
             with_reducible rfl
            rotate_left
            ·
             simp only [Act.put, List.setIfInBounds_toArray, List.set_cons_zero, List.set_cons_succ, i64_w, i32_w]
             rfl
            refine pure_ (i := 2) (N := some 61) (v := ?_) (a' := ?_) #[true, true, true, false, false, false, false, false, false, false, false, false, false, false, false] rfl rfl (any_of HT_.out (by kernel_rfl)) (fun _ _ _ h => h) (Or.inl ⟨by rfl, ?_⟩) ?_ ?_
            rotate_left
            ·
             intro w'
             go_simp
             with_reducible rfl
            rotate_left
            ·
             simp only [Act.put, List.setIfInBounds_toArray, List.set_cons_zero, List.set_cons_succ, i64_w, i32_w]
             rfl
            refine pure_ (i := 4) (N := some 63) (v := ?_) (a' := ?_) #[true, true, true, false, true, false, false, false, false, false, false, false, false, false, false] rfl rfl (any_of HT_.out (by kernel_rfl)) (fun _ _ _ h => h) (Or.inl ⟨by rfl, ?_⟩) ?_ ?_
            rotate_left
            ·
             intro w'
             go_simp
             with_reducible rfl
            rotate_left
            ·
             simp only [Act.put, List.setIfInBounds_toArray, List.set_cons_zero, List.set_cons_succ, i64_w, i32_w]
             rfl
            refine pure_ (i := 5) (N := some 64) (v := ?_) (a' := ?_) #[true, true, true, false, true, true, false, false, false, false, false, false, false, false, false] rfl rfl (any_of HT_.out (by kernel_rfl)) (fun _ _ _ h => h) (Or.inl ⟨by rfl, ?_⟩) ?_ ?_
            rotate_left
            ·
             intro w'
             go_simp
             with_reducible rfl
            rotate_left
            ·
             simp only [Act.put, List.setIfInBounds_toArray, List.set_cons_zero, List.set_cons_succ, i64_w, i32_w]
             rfl
            refine pure_ (i := 6) (N := some 65) (v := ?_) (a' := ?_) #[true, true, true, false, true, true, true, false, false, false, false, false, false, false, false] rfl rfl (any_of HT_.out (by kernel_rfl)) (fun _ _ _ h => h) (Or.inl ⟨by rfl, ?_⟩) ?_ ?_
            rotate_left
            ·
             intro w'
             go_simp
             with_reducible rfl
            rotate_left
            ·
             simp only [Act.put, List.setIfInBounds_toArray, List.set_cons_zero, List.set_cons_succ, i64_w, i32_w]
             rfl
            refine pure_ (i := 8) (N := some 67) (v := ?_) (a' := ?_) #[true, true, true, false, true, true, true, false, true, false, false, false, false, false, false] rfl rfl (any_of HT_.out (by kernel_rfl)) (fun _ _ _ h => h) (Or.inl ⟨by rfl, ?_⟩) ?_ ?_
            rotate_left
            ·
             intro w'
             go_simp
             with_reducible rfl
            rotate_left
            ·
             simp only [Act.put, List.setIfInBounds_toArray, List.set_cons_zero, List.set_cons_succ, i64_w, i32_w]
             rfl
            refine take_ (i := 3) (N := some 62) (v := ?_) (a' := ?_) #[true, true, true, true, true, true, true, false, true, false, false, false, false, false, false] rfl rfl (take_ofW HT_.out HW_.out (by kernel_rfl)) (fun _ _ _ h => h) (Or.inl ⟨by rfl, ?_⟩) hHeld ?_ ?_
            rotate_left
            ·
             rintro w' ⟨s0, s1⟩
             go_simp
             with_reducible rfl
            rotate_left
            ·
             simp only [Act.put, List.setIfInBounds_toArray, List.set_cons_zero, List.set_cons_succ, i64_w, i32_w]
             rfl
            refine take_ (i := 7) (N := some 66) (v := ?_) (a' := ?_) #[true, true, true, true, true, true, true, true, true, false, false, false, false, false, false] rfl rfl (take_ofW HT_.out HW_.out (by kernel_rfl)) (fun _ _ _ h => h) (Or.inl ⟨by rfl, ?_⟩) hHeld ?_ ?_
            rotate_left
            ·
             rintro w' ⟨s0, s1⟩
             go_simp
             with_reducible rfl
            rotate_left
            ·
             simp only [Act.put, List.setIfInBounds_toArray, List.set_cons_zero, List.set_cons_succ, i64_w, i32_w]
             rfl
            refine one_ (i := 9) (N := some 68) #[true, true, true, true, true, true, true, true, true, true, false, false, false, false, false] rfl rfl (one_of HT_.out (by kernel_rfl)) (by decide) (fun K hK => ?_)
            refine goes_ Tryd.func75 (by kernel_rfl) rfl #[.slice A121_0 (rd_L3 t115 x55_1).length c121_0, .slice A122_0 (rd_L3 t118 x55_1).length c122_0, .slice Ao38 x2_1.length co38] (by rfl) rfl rfl zl ?_
            with_reducible refine (ih k1 (by have := HK1.out; omega) _ _ (rd_L3 t115 x55_1) _ _ (rd_L3 t118 x55_1) (fun k_ => some k_ = (.slice Ao38 x2_1.length co38 : Value).ownBlock) (fun k_ => (PQ_ k_ ∨ w.heap.size ≤ k_)) (.slice Ao38 x2_1.length co38) x2_1 t123 true w0 _ ?side1 ?side2 ?side3 ?side4 ?side5 ?side6 ?side7 A34.out).mono ?_
            (case side1 => exact zb)
            (case side2 => exact Kd.C_kept_own ((Kd.R_apart' HL121_0.out (Kd.S_typed HO_2.out) (by decide))) (fun k_ hk_ hs_ => (hk_.2) hs_))
            (case side3 => exact HC121_0.out)
            (case side4 => exact Kd.C_kept_own ((Kd.R_apart' HL122_0.out (Kd.S_typed HO_2.out) (by decide))) (fun k_ hk_ hs_ => (hk_.2) hs_))
            (case side5 => exact HC122_0.out)
            (case side6 => exact HO_2.out)
            (case side7 => exact fun k_ e_ => e_.symm)
            rintro e w39 ⟨v124, rfl, ho0, hb, hkp, hv⟩
            have HS0_ := cell_kept (hHeld.1) hkp (by first | (rw [add_block]; exact (fun hs_ => (((Kd.S_R (Kd.S_apart' HO_9.out (Kd.S_typed HO_2.out) (by decide))).1 _ rfl).2) hs_)) | (show ¬ _; simp only [add_block]; exact (fun hs_ => (((Kd.S_R (Kd.S_apart' HO_9.out (Kd.S_typed HO_2.out) (by decide))).1 _ rfl).2) hs_)) | exact (fun hs_ => (((Kd.S_R (Kd.S_apart' HO_9.out (Kd.S_typed HO_2.out) (by decide))).1 _ rfl).2) hs_))
            have HS1_ := cell_kept (hHeld.2) hkp (by first | (rw [add_block]; exact (fun hs_ => (((Kd.S_R (Kd.S_apart' HO_10.out (Kd.S_typed HO_2.out) (by decide))).1 _ rfl).2) hs_)) | (show ¬ _; simp only [add_block]; exact (fun hs_ => (((Kd.S_R (Kd.S_apart' HO_10.out (Kd.S_typed HO_2.out) (by decide))).1 _ rfl).2) hs_)) | exact (fun hs_ => (((Kd.S_R (Kd.S_apart' HO_10.out (Kd.S_typed HO_2.out) (by decide))).1 _ rfl).2) hs_))
            refine ⟨_, rfl, ?_⟩
            have n0_ := zM (Kd.S_mono (ok' := fun k_ => (PQ_ k_ ∨ w.heap.size ≤ k_) ∧ some k_ ≠ (.slice (some ad122) t118.length co37 : Value).ownBlock) (Kd.S_keptB ((Kd.S_apart' HO_9.out (Kd.S_typed HO_2.out) (by decide))) hkp (fun k_ hk_ hs_ => (hk_.2) hs_)) (fun k_ hk_ => ⟨hk_.1.1.1, hk_.1.1.2⟩))
            have n1_ := zM (Kd.S_mono (ok' := fun k_ => (PQ_ k_ ∨ w.heap.size ≤ k_) ∧ some k_ ≠ (.slice (some ad121) t115.length co29 : Value).ownBlock) (Kd.S_keptB ((Kd.S_apart' HO_10.out (Kd.S_typed HO_2.out) (by decide))) hkp (fun k_ hk_ hs_ => (hk_.2) hs_)) (fun k_ hk_ => ⟨hk_.1.1.1, hk_.1.1.2⟩))
            have n2_ := zM (Kd.S_mono (ok' := fun k_ => (PQ_ k_ ∨ w.heap.size ≤ k_)) ho0 (fun k_ hk_ => Or.elim hk_ (fun hs_ => hs_) (fun hn_ => (.inr (Nat.le_trans (by first | exact HK.out.1 | exact (show Kept w _ (fun k_ => P2_ k_) from zf).1) hn_)))))
            have n3_ := zM (Kept.then_ (S := (fun k_ => P2_ k_)) (zf) hkp (fun k_ hs_ => HV.out k_ hs_.symm))
            have n4_ := zM (hb)
            have n5_ := zM (show ∀ k_ : Nat, (v124 : Value).ownBlock = some k_ → P2_ k_ ∨ w.heap.size ≤ k_ from fun k_ e_ => (hv k_ e_).elim (fun e2_ => HV.out k_ e2_.symm) (fun hn_ => .inr (Nat.le_trans (show Kept w _ (fun k_ => P2_ k_) from zf).1 hn_)))
            clear HV hv
            have HV := n5_
            clear n5_
            clear HO_9
            clear HO_10
            clear HK
            clear HB
            clear HO_2
            clear HL121_0
            clear HL122_0
            have HO_9 := n0_
            have HO_10 := n1_
            have HO125 := n2_
            have HK := n3_
            have HB := n4_
            clear n0_ n1_ n2_ n3_ n4_
            (try clear hb)
            (try clear hkp)
            (try clear ho0)
            refine hK.out _ _ ⟨HS0_, HS1_⟩ (fun hHeld => ?_)
            clear hK K
            refine norm_ (a' := ?_) ?_ ?_
            rotate_left
            ·
             show Act.put _ (some 68) _ = _
             simp only [Act.put, List.setIfInBounds_toArray, List.set_cons_zero, List.set_cons_succ, i64_w, i32_w]
             rfl
            refine pure_ (i := 10) (N := some 58) (v := ?_) (a' := ?_) #[true, true, true, true, true, true, true, true, true, true, true, false, false, false, false] rfl rfl (any_of HT_.out (by kernel_rfl)) (fun _ _ _ h => h) (Or.inl ⟨by rfl, ?_⟩) ?_ ?_
            rotate_left
            ·
             intro w'
             go_simp
             with_reducible rfl
            rotate_left
            ·
             simp only [Act.put, List.setIfInBounds_toArray, List.set_cons_zero, List.set_cons_succ, i64_w, i32_w]
             rfl
            refine pure_ (i := 11) (N := some 69) (v := ?_) (a' := ?_) #[true, true, true, true, true, true, true, true, true, true, true, true, false, false, false] rfl rfl (any_of HT_.out (by kernel_rfl)) (fun _ _ _ h => h) (Or.inl ⟨by rfl, ?_⟩) ?_ ?_
            rotate_left
            ·
             intro w'
             go_simp
             with_reducible rfl
            rotate_left
            ·
             simp only [Act.put, List.setIfInBounds_toArray, List.set_cons_zero, List.set_cons_succ, i64_w, i32_w]
             rfl
            refine pure_ (i := 12) (N := some 70) (v := ?_) (a' := ?_) #[true, true, true, true, true, true, true, true, true, true, true, true, true, false, false] rfl rfl (any_of HT_.out (by kernel_rfl)) (fun _ _ _ h => h) (Or.inl ⟨by rfl, ?_⟩) ?_ ?_
            rotate_left
            ·
             intro w'
             go_simp
             with_reducible rfl
            rotate_left
            ·
             simp only [Act.put, List.setIfInBounds_toArray, List.set_cons_zero, List.set_cons_succ, i64_w, i32_w]
             rfl
            refine pure_ (i := 13) (N := some 12) (v := ?_) (a' := ?_) #[true, true, true, true, true, true, true, true, true, true, true, true, true, true, false] rfl rfl (any_of HT_.out (by kernel_rfl)) (fun _ _ _ h => h) (Or.inl ⟨by rfl, ?_⟩) ?_ ?_
            rotate_left
            ·
             intro w'
             go_simp
             with_reducible rfl
            rotate_left
            ·
             simp only [Act.put, List.setIfInBounds_toArray, List.set_cons_zero, List.set_cons_succ, i64_w, i32_w]
             rfl
            refine pure_ (i := 14) (N := some 13) (v := ?_) (a' := ?_) #[true, true, true, true, true, true, true, true, true, true, true, true, true, true, true] rfl rfl (any_of HT_.out (by kernel_rfl)) (fun _ _ _ h => h) (Or.inl ⟨by rfl, ?_⟩) ?_ ?_
            rotate_left
            ·
             intro w'
             go_simp
             with_reducible rfl
            rotate_left
            ·
             simp only [Act.put, List.setIfInBounds_toArray, List.set_cons_zero, List.set_cons_succ, i64_w, i32_w]
             rfl
            refine done_ (done_of HT_.out (by kernel_rfl)) ?_
            try go_wp2
            go_roundg k1
            case measure => have := HK1.out; omega
            case rel => exact ⟨(t123), (wrap64 (x55_1 + 1)), zy, H', ⟨by have := HK1.out; omega⟩, ⟨Kd.S_below HO125.out zg⟩, ⟨Kd.S_below HO_9.out zg⟩, ⟨Kd.S_below HO_10.out zg⟩, ⟨zf⟩, ⟨zb⟩, HV⟩
           ·
            replace c35 := zI c35
            subst c35
            rw [if_neg (show ¬ (false = true) by decide)] at H
            simp only [Option.some.injEq, Prod.mk.injEq] at H
            obtain ⟨rfl, rfl⟩ := H
            try go_wp2
            have n0_ := zM (Kd.S_drew HO_2.out)
            have n1_ := zM (Kd.S_drew HO_9.out)
            have n2_ := zM (Kd.S_drew HO_10.out)
            have n3_ := zM (Kept.drew HK.out)
            have n4_ := zM (zD HB.out)
            clear HO_2
            clear HO_9
            clear HO_10
            clear HK
            clear HB
            have HO_2 := n0_
            have HO_9 := n1_
            have HO_10 := n2_
            have HK := n3_
            have HB := n4_
            clear n0_ n1_ n2_ n3_ n4_
            have p121 : 0 ≤ (x55_1 : Int) := zT zv
            have q121 : x55_1 < (t115.length : Int) := zT zv
            obtain ⟨ad121, A121_0, c121_0, e121, hx121_0, hl121_0, hi121_0⟩ := at_L3 (Kd.S_reads' HO_9.out).2.2 x55_1 p121 q121
            cases e121
            obtain ⟨ce121, hce121, hMe121, hcc121⟩ := Kd.S_get HO_9.out [] x55_1 p121 (by first | exact q121 | exact zT zv | (have e_ := (Kd.S_reads' HO_9.out).1; omega))
            obtain ⟨ve121_0, rfl, ge121_0⟩ := hMe121
            have hv121_0 := hcc121 0 _ rfl
            rw [Nat.add_zero, show ((Kd.slice 33 k33)).sz = 1 from rfl, Nat.mul_one] at hv121_0
            replace hv121_0 := zS (hv121_0.symm.trans hx121_0)
            rw [hv121_0] at ge121_0
            have HL121_0 := zM (show Kd.R k33 33 _ _ _ _ (rd_L3 t115 x55_1) from ge121_0)
            clear hv121_0 ge121_0
            clear hcc121 hce121
            have HR121_0 := zM hi121_0
            have HC121_0 := zM hl121_0
            clear hi121_0 hl121_0
            replace p121 := eq_true p121
            replace q121 := eq_true q121
            obtain ⟨Ao41, co41, eo41⟩ := Kd.S_slice HO_10.out
            (first | subst eo41 | (injection eo41 with f1_ f2_ f3_; have f4_ := f1_.symm; have f5_ := f3_.symm; clear f1_ f2_ f3_; subst f4_; subst f5_))
            have p122 : 0 ≤ (x55_1 : Int) := zT zv
            have q122 : x55_1 < (t118.length : Int) := zT zv
            obtain ⟨ad122, A122_0, c122_0, e122, hx122_0, hl122_0, hi122_0⟩ := at_L3 (Kd.S_reads' HO_10.out).2.2 x55_1 p122 q122
            cases e122
            obtain ⟨ce122, hce122, hMe122, hcc122⟩ := Kd.S_get HO_10.out [] x55_1 p122 (by first | exact q122 | exact zT zv | (have e_ := (Kd.S_reads' HO_10.out).1; omega))
            obtain ⟨ve122_0, rfl, ge122_0⟩ := hMe122
            have hv122_0 := hcc122 0 _ rfl
            rw [Nat.add_zero, show ((Kd.slice 33 k33)).sz = 1 from rfl, Nat.mul_one] at hv122_0
            replace hv122_0 := zS (hv122_0.symm.trans hx122_0)
            rw [hv122_0] at ge122_0
            have HL122_0 := zM (show Kd.R k33 33 _ _ _ _ (rd_L3 t118 x55_1) from ge122_0)
            clear hv122_0 ge122_0
            clear hcc122 hce122
            have HR122_0 := zM hi122_0
            have HC122_0 := zM hl122_0
            clear hi122_0 hl122_0
            replace p122 := eq_true p122
            replace q122 := eq_true q122
            obtain ⟨Ao42, co42, eo42⟩ := Kd.S_slice HO_2.out
            (first | subst eo42 | (injection eo42 with f1_ f2_ f3_; have f4_ := f1_.symm; have f5_ := f3_.symm; clear f1_ f2_ f3_; subst f4_; subst f5_))
            refine start_ (n := 15) (S := fun w' => w'.cell? (ad121.add (x55_1).toNat) = some (.slice A121_0 (rd_L3 t115 x55_1).length c121_0) ∧ w'.cell? (ad122.add (x55_1).toNat) = some (.slice A122_0 (rd_L3 t118 x55_1).length c122_0)) (ds := []) #[false, false, false, false, false, false, false, false, false, false, false, false, false, false, false] (by kernel_rfl) rfl rfl ⟨hx121_0, hx122_0⟩ (fun hHeld => ?_); refine with_tabW aumbryref05_Fit.tab12 aumbryref05_Fit.bits12 (fun HT_ HW_ => ?_)
            generalize wr.drew = w40 at HO_2 HO_9 HO_10 HK HB HL121_0 HL122_0 HR121_0 HR122_0 hx121_0 hx122_0 hHeld ⊢
            refine pure_ (i := 0) (N := some 59) (v := ?_) (a' := ?_) #[true, false, false, false, false, false, false, false, false, false, false, false, false, false, false] rfl rfl (any_of HT_.out (by kernel_rfl)) (fun _ _ _ h => h) (Or.inl ⟨by rfl, ?_⟩) ?_ ?_
            rotate_left
            ·
             intro w'
             go_simp
             with_reducible rfl
            rotate_left
            ·
             simp only [Act.put, List.setIfInBounds_toArray, List.set_cons_zero, List.set_cons_succ, i64_w, i32_w]
             rfl
            refine pure_ (i := 1) (N := some 60) (v := ?_) (a' := ?_) #[true, true, false, false, false, false, false, false, false, false, false, false, false, false, false] rfl rfl (any_of HT_.out (by kernel_rfl)) (fun _ _ _ h => h) (Or.inl ⟨by rfl, ?_⟩) ?_ ?_
            rotate_left
            ·
             intro w'
             go_simp
             with_reducible rfl
            rotate_left
            ·
             simp only [Act.put, List.setIfInBounds_toArray, List.set_cons_zero, List.set_cons_succ, i64_w, i32_w]
             rfl
            refine pure_ (i := 2) (N := some 61) (v := ?_) (a' := ?_) #[true, true, true, false, false, false, false, false, false, false, false, false, false, false, false] rfl rfl (any_of HT_.out (by kernel_rfl)) (fun _ _ _ h => h) (Or.inl ⟨by rfl, ?_⟩) ?_ ?_
            rotate_left
            ·
             intro w'
             go_simp
             with_reducible rfl
            rotate_left
            ·
             simp only [Act.put, List.setIfInBounds_toArray, List.set_cons_zero, List.set_cons_succ, i64_w, i32_w]
             rfl
            refine pure_ (i := 4) (N := some 63) (v := ?_) (a' := ?_) #[true, true, true, false, true, false, false, false, false, false, false, false, false, false, false] rfl rfl (any_of HT_.out (by kernel_rfl)) (fun _ _ _ h => h) (Or.inl ⟨by rfl, ?_⟩) ?_ ?_
            rotate_left
            ·
             intro w'
             go_simp
             with_reducible rfl
            rotate_left
            ·
             simp only [Act.put, List.setIfInBounds_toArray, List.set_cons_zero, List.set_cons_succ, i64_w, i32_w]
             rfl
            refine pure_ (i := 5) (N := some 64) (v := ?_) (a' := ?_) #[true, true, true, false, true, true, false, false, false, false, false, false, false, false, false] rfl rfl (any_of HT_.out (by kernel_rfl)) (fun _ _ _ h => h) (Or.inl ⟨by rfl, ?_⟩) ?_ ?_
            rotate_left
            ·
             intro w'
             go_simp
             with_reducible rfl
            rotate_left
            ·
             simp only [Act.put, List.setIfInBounds_toArray, List.set_cons_zero, List.set_cons_succ, i64_w, i32_w]
             rfl
            refine pure_ (i := 6) (N := some 65) (v := ?_) (a' := ?_) #[true, true, true, false, true, true, true, false, false, false, false, false, false, false, false] rfl rfl (any_of HT_.out (by kernel_rfl)) (fun _ _ _ h => h) (Or.inl ⟨by rfl, ?_⟩) ?_ ?_
            rotate_left
            ·
             intro w'
             go_simp
             with_reducible rfl
            rotate_left
            ·
             simp only [Act.put, List.setIfInBounds_toArray, List.set_cons_zero, List.set_cons_succ, i64_w, i32_w]
             rfl
            refine pure_ (i := 8) (N := some 67) (v := ?_) (a' := ?_) #[true, true, true, false, true, true, true, false, true, false, false, false, false, false, false] rfl rfl (any_of HT_.out (by kernel_rfl)) (fun _ _ _ h => h) (Or.inl ⟨by rfl, ?_⟩) ?_ ?_
            rotate_left
            ·
             intro w'
             go_simp
             with_reducible rfl
            rotate_left
            ·
             simp only [Act.put, List.setIfInBounds_toArray, List.set_cons_zero, List.set_cons_succ, i64_w, i32_w]
             rfl
            refine take_ (i := 3) (N := some 62) (v := ?_) (a' := ?_) #[true, true, true, true, true, true, true, false, true, false, false, false, false, false, false] rfl rfl (take_ofW HT_.out HW_.out (by kernel_rfl)) (fun _ _ _ h => h) (Or.inl ⟨by rfl, ?_⟩) hHeld ?_ ?_
            rotate_left
            ·
             rintro w' ⟨s0, s1⟩
             go_simp
             with_reducible rfl
            rotate_left
            ·
             simp only [Act.put, List.setIfInBounds_toArray, List.set_cons_zero, List.set_cons_succ, i64_w, i32_w]
             rfl
            refine take_ (i := 7) (N := some 66) (v := ?_) (a' := ?_) #[true, true, true, true, true, true, true, true, true, false, false, false, false, false, false] rfl rfl (take_ofW HT_.out HW_.out (by kernel_rfl)) (fun _ _ _ h => h) (Or.inl ⟨by rfl, ?_⟩) hHeld ?_ ?_
            rotate_left
            ·
             rintro w' ⟨s0, s1⟩
             go_simp
             with_reducible rfl
            rotate_left
            ·
             simp only [Act.put, List.setIfInBounds_toArray, List.set_cons_zero, List.set_cons_succ, i64_w, i32_w]
             rfl
            refine one_ (i := 9) (N := some 68) #[true, true, true, true, true, true, true, true, true, true, false, false, false, false, false] rfl rfl (one_of HT_.out (by kernel_rfl)) (by decide) (fun K hK => ?_)
            refine goes_ Tryd.func75 (by kernel_rfl) rfl #[.slice A121_0 (rd_L3 t115 x55_1).length c121_0, .slice A122_0 (rd_L3 t118 x55_1).length c122_0, .slice Ao42 x2_1.length co42] (by rfl) rfl rfl zl ?_
            with_reducible refine (ih k1 (by have := HK1.out; omega) _ _ (rd_L3 t115 x55_1) _ _ (rd_L3 t118 x55_1) (fun k_ => some k_ = (.slice Ao42 x2_1.length co42 : Value).ownBlock) (fun k_ => (PQ_ k_ ∨ w.heap.size ≤ k_)) (.slice Ao42 x2_1.length co42) x2_1 t123 false w0 _ ?side1 ?side2 ?side3 ?side4 ?side5 ?side6 ?side7 A34.out).mono ?_
            (case side1 => exact zb)
            (case side2 => exact Kd.C_kept_own ((Kd.R_apart' HL121_0.out (Kd.S_typed HO_2.out) (by decide))) (fun k_ hk_ hs_ => (hk_.2) hs_))
            (case side3 => exact HC121_0.out)
            (case side4 => exact Kd.C_kept_own ((Kd.R_apart' HL122_0.out (Kd.S_typed HO_2.out) (by decide))) (fun k_ hk_ hs_ => (hk_.2) hs_))
            (case side5 => exact HC122_0.out)
            (case side6 => exact HO_2.out)
            (case side7 => exact fun k_ e_ => e_.symm)
            rintro e w43 ⟨v124, rfl, ho0, hb, hkp, hv⟩
            have HS0_ := cell_kept (hHeld.1) hkp (by first | (rw [add_block]; exact (fun hs_ => (((Kd.S_R (Kd.S_apart' HO_9.out (Kd.S_typed HO_2.out) (by decide))).1 _ rfl).2) hs_)) | (show ¬ _; simp only [add_block]; exact (fun hs_ => (((Kd.S_R (Kd.S_apart' HO_9.out (Kd.S_typed HO_2.out) (by decide))).1 _ rfl).2) hs_)) | exact (fun hs_ => (((Kd.S_R (Kd.S_apart' HO_9.out (Kd.S_typed HO_2.out) (by decide))).1 _ rfl).2) hs_))
            have HS1_ := cell_kept (hHeld.2) hkp (by first | (rw [add_block]; exact (fun hs_ => (((Kd.S_R (Kd.S_apart' HO_10.out (Kd.S_typed HO_2.out) (by decide))).1 _ rfl).2) hs_)) | (show ¬ _; simp only [add_block]; exact (fun hs_ => (((Kd.S_R (Kd.S_apart' HO_10.out (Kd.S_typed HO_2.out) (by decide))).1 _ rfl).2) hs_)) | exact (fun hs_ => (((Kd.S_R (Kd.S_apart' HO_10.out (Kd.S_typed HO_2.out) (by decide))).1 _ rfl).2) hs_))
            refine ⟨_, rfl, ?_⟩
            have n0_ := zM (Kd.S_mono (ok' := fun k_ => (PQ_ k_ ∨ w.heap.size ≤ k_) ∧ some k_ ≠ (.slice (some ad122) t118.length co41 : Value).ownBlock) (Kd.S_keptB ((Kd.S_apart' HO_9.out (Kd.S_typed HO_2.out) (by decide))) hkp (fun k_ hk_ hs_ => (hk_.2) hs_)) (fun k_ hk_ => ⟨hk_.1.1.1, hk_.1.1.2⟩))
            have n1_ := zM (Kd.S_mono (ok' := fun k_ => (PQ_ k_ ∨ w.heap.size ≤ k_) ∧ some k_ ≠ (.slice (some ad121) t115.length co29 : Value).ownBlock) (Kd.S_keptB ((Kd.S_apart' HO_10.out (Kd.S_typed HO_2.out) (by decide))) hkp (fun k_ hk_ hs_ => (hk_.2) hs_)) (fun k_ hk_ => ⟨hk_.1.1.1, hk_.1.1.2⟩))
            have n2_ := zM (Kd.S_mono (ok' := fun k_ => (PQ_ k_ ∨ w.heap.size ≤ k_)) ho0 (fun k_ hk_ => Or.elim hk_ (fun hs_ => hs_) (fun hn_ => (.inr (Nat.le_trans (by first | exact HK.out.1 | exact (show Kept w _ (fun k_ => P2_ k_) from zf).1) hn_)))))
            have n3_ := zM (Kept.then_ (S := (fun k_ => P2_ k_)) (zf) hkp (fun k_ hs_ => HV.out k_ hs_.symm))
            have n4_ := zM (hb)
            have n5_ := zM (show ∀ k_ : Nat, (v124 : Value).ownBlock = some k_ → P2_ k_ ∨ w.heap.size ≤ k_ from fun k_ e_ => (hv k_ e_).elim (fun e2_ => HV.out k_ e2_.symm) (fun hn_ => .inr (Nat.le_trans (show Kept w _ (fun k_ => P2_ k_) from zf).1 hn_)))
            clear HV hv
            have HV := n5_
            clear n5_
            clear HO_9
            clear HO_10
            clear HK
            clear HB
            clear HO_2
            clear HL121_0
            clear HL122_0
            have HO_9 := n0_
            have HO_10 := n1_
            have HO125 := n2_
            have HK := n3_
            have HB := n4_
            clear n0_ n1_ n2_ n3_ n4_
            (try clear hb)
            (try clear hkp)
            (try clear ho0)
            refine hK.out _ _ ⟨HS0_, HS1_⟩ (fun hHeld => ?_)
            clear hK K
            refine norm_ (a' := ?_) ?_ ?_
            rotate_left
            ·
             show Act.put _ (some 68) _ = _
             simp only [Act.put, List.setIfInBounds_toArray, List.set_cons_zero, List.set_cons_succ, i64_w, i32_w]
             rfl
            refine pure_ (i := 10) (N := some 58) (v := ?_) (a' := ?_) #[true, true, true, true, true, true, true, true, true, true, true, false, false, false, false] rfl rfl (any_of HT_.out (by kernel_rfl)) (fun _ _ _ h => h) (Or.inl ⟨by rfl, ?_⟩) ?_ ?_
            rotate_left
            ·
             intro w'
             go_simp
             with_reducible rfl
            rotate_left
            ·
             simp only [Act.put, List.setIfInBounds_toArray, List.set_cons_zero, List.set_cons_succ, i64_w, i32_w]
             rfl
            refine pure_ (i := 11) (N := some 69) (v := ?_) (a' := ?_) #[true, true, true, true, true, true, true, true, true, true, true, true, false, false, false] rfl rfl (any_of HT_.out (by kernel_rfl)) (fun _ _ _ h => h) (Or.inl ⟨by rfl, ?_⟩) ?_ ?_
            rotate_left
            ·
             intro w'
             go_simp
             with_reducible rfl
            rotate_left
            ·
             simp only [Act.put, List.setIfInBounds_toArray, List.set_cons_zero, List.set_cons_succ, i64_w, i32_w]
             rfl
            refine pure_ (i := 12) (N := some 70) (v := ?_) (a' := ?_) #[true, true, true, true, true, true, true, true, true, true, true, true, true, false, false] rfl rfl (any_of HT_.out (by kernel_rfl)) (fun _ _ _ h => h) (Or.inl ⟨by rfl, ?_⟩) ?_ ?_
            rotate_left
            ·
             intro w'
             go_simp
             with_reducible rfl
            rotate_left
            ·
             simp only [Act.put, List.setIfInBounds_toArray, List.set_cons_zero, List.set_cons_succ, i64_w, i32_w]
             rfl
            refine pure_ (i := 13) (N := some 12) (v := ?_) (a' := ?_) #[true, true, true, true, true, true, true, true, true, true, true, true, true, true, false] rfl rfl (any_of HT_.out (by kernel_rfl)) (fun _ _ _ h => h) (Or.inl ⟨by rfl, ?_⟩) ?_ ?_
            rotate_left
            ·
             intro w'
             go_simp
             with_reducible rfl
            rotate_left
            ·
             simp only [Act.put, List.setIfInBounds_toArray, List.set_cons_zero, List.set_cons_succ, i64_w, i32_w]
             rfl
            refine pure_ (i := 14) (N := some 13) (v := ?_) (a' := ?_) #[true, true, true, true, true, true, true, true, true, true, true, true, true, true, true] rfl rfl (any_of HT_.out (by kernel_rfl)) (fun _ _ _ h => h) (Or.inl ⟨by rfl, ?_⟩) ?_ ?_
            rotate_left
            ·
             intro w'
             go_simp
             with_reducible rfl
            rotate_left
            ·
             simp only [Act.put, List.setIfInBounds_toArray, List.set_cons_zero, List.set_cons_succ, i64_w, i32_w]
             rfl
            refine done_ (done_of HT_.out (by kernel_rfl)) ?_
            try go_wp2
            go_ret2
            exact ⟨_, zw, by first | exact Kd.S_nil _ _ _ _ _ | exact Kd.N_nil _ _ _ _ _ | exact Kd.V_nil _ _ _ _ _ | exact Kd.Q_nil _ _ _ _ _ | exact Kd.R_nil _ _ _ _ _, zb, zf, fun k_ e_ => by simp [Value.ownBlock] at e_⟩
          ·
           rw [if_neg c33] at H
           exact absurd H (by simp)
         ·
          rw [if_neg c32] at H
          exact absurd H (by simp)
        ·
         rw [if_neg c31] at H
         exact absurd H (by simp)
       ·
        rw [if_neg c30] at H
        have c30b0 : decide (x55_1 < (t115.length : Int)) = false := zR c30
        clear c30
        simp only [Option.some.injEq, Prod.mk.injEq] at H
        obtain ⟨rfl, rfl⟩ := H
        go_wp2
        go_ret2
        exact ⟨_, zw, Kd.S_below HO_2.out zg, zb, zf, by first | exact HV2.out | exact HV.out⟩
   ·
    rw [if_neg c21] at H
    exact absurd H (by simp)
  ·
   rw [if_neg c20] at H
   exact absurd H (by simp)

theorem aumbryref05_Fit.calls (k : Nat) : ∀ (A0 : Option Addr) (c0 : Nat) (l0 : List (S33)) (A1 : Option Addr) (c1 : Nat) (l1 : List (S33)) (P2_ : Nat → Prop) (u9000_ : Value) (l2 : List (S109)) (r1 : List (S109)) (r2 : Bool) (w0 w : World) (hB : Below w0.heap.size w0 w) (hr0 : ∀ W_, Kept w W_ (fun k_ => P2_ k_) → Kd.C k33 W_ A0 l0.length l0) (hc0 : l0.length ≤ c0) (hr1 : ∀ W_, Kept w W_ (fun k_ => P2_ k_) → Kd.C k33 W_ A1 l1.length l1) (hc1 : l1.length ≤ c1) (ho2 : Kd.S k109 109 w w0.heap.size P2_ u9000_ l2) (h : aumbryref05_Fit.f k l0 l1 l2 = some (r1, r2)),
 Calls Tryd.prog 75 #[.slice A0 l0.length c0, .slice A1 l1.length c1, u9000_] w fun e w' => ∃ v0_ : Value, e = .returned (.tuple #[v0_, .bool r2]) ∧ Kd.S k109 109 w' w0.heap.size (fun k_ => (P2_ k_ ∨ w.heap.size ≤ k_)) v0_ r1 ∧ Below w0.heap.size w0 w' ∧ Kept w w' (fun k_ => P2_ k_) := by
 intro A0 c0 l0 A1 c1 l1 P2_ u9000_ l2 r1 r2 w0 w hB hr0 hc0 hr1 hc1 ho2 h
 refine (aumbryref05_Fit.callsN k A0 c0 l0 A1 c1 l1 P2_ P2_ u9000_ l2 r1 r2 w0 w hB hr0 hc0 hr1 hc1 ho2 (fun k_ e_ => (Kd.S_R ho2).1 k_ e_) h).mono ?_
 rintro e w' ⟨v0_, he, ho, hb, hk, _⟩
 exact ⟨v0_, he, ho, hb, hk⟩


-- ==== PF53

/-! ### aumbryref05_Match: function 53 -/
def aumbryref05_Match.f (k : Nat) (l0 : List (S33)) (l1 : List (S33)) : Option ((List (S109)) × Bool × Int) := (aumbryref04_Check.f k l0).bind fun t101 => (if t101 = 0 then ((aumbryref04_Check.f k l1).bind fun t102 => (if t102 = 0 then ((aumbryref05_Fit.f k l0 l1 ([] : List (S109))).bind fun bt103 => (if bt103.2 = true then (some (bt103.1, true, 0)) else (some (([] : List (S109)), false, 0)))) else (some (([] : List (S109)), false, t102)))) else (some (([] : List (S109)), false, t101)))
theorem aumbryref05_Match.mono : ∀ a0 a1 k, LeO (aumbryref05_Match.f k a0 a1) (aumbryref05_Match.f (k + 1) a0 a1) := by
 intro a0 a1 k
 unfold aumbryref05_Match.f
 repeat' first
  | (with_reducible exact aumbryref04_Check.mono _ _)
  | (with_reducible exact aumbryref05_Fit.mono _ _ _ _)
  | (with_reducible exact LeO.refl _)
  | (with_reducible exact LeO.none _)
  | (with_reducible refine LeO.ite ?_ ?_)
  | (with_reducible refine LeO.bind ?_ (fun _ => ?_))
theorem aumbryref05_Match.calls (k : Nat) (A0 : Option Addr) (c0 : Nat) (l0 : List (S33)) (A1 : Option Addr) (c1 : Nat) (l1 : List (S33)) (r1 : List (S109)) (r2 : Bool) (r3 : Int) (w : World) (hr0 : Kd.C k33 w A0 l0.length l0) (hc0 : l0.length ≤ c0) (hr1 : Kd.C k33 w A1 l1.length l1) (hc1 : l1.length ≤ c1) (h : aumbryref05_Match.f k l0 l1 = some (r1, r2, r3)) :
 Calls Tryd.prog 53 #[.slice A0 l0.length c0, .slice A1 l1.length c1] w fun e w' => ∃ v0_ : Value, e = .returned (.tuple #[v0_, .bool r2, .int .i64 r3]) ∧ Kd.S k109 109 w' w.heap.size (fun _ => True) v0_ r1 ∧ Below w.heap.size w w' := by
 have HR0 := zM hr0
 have HC0 := zM hc0
 clear hr0 hc0
 have HR1 := zM hr1
 have HC1 := zM hc1
 clear hr1 hc1
 have HB := zM (Below.refl w.heap.size w)
 have H : ((aumbryref04_Check.f k l0).bind fun t101 => (if t101 = 0 then ((aumbryref04_Check.f k l1).bind fun t102 => (if t102 = 0 then ((aumbryref05_Fit.f k l0 l1 ([] : List (S109))).bind fun bt103 => (if bt103.2 = true then (some (bt103.1, true, 0)) else (some (([] : List (S109)), false, 0)))) else (some (([] : List (S109)), false, t102)))) else (some (([] : List (S109)), false, t101)))) = some (r1, r2, r3) := h
 clear h
 replace H := zB H
 obtain ⟨t101, A30, H⟩ := H
 try dsimp only at H
 have A3 := zM A30
 clear A30
 by_cases c4 : t101 = 0
 ·
  rw [if_pos c4] at H
  have c4b0 : (t101 == 0) = true := zG c4
  have c4b1 : (t101 != 0) = false := zH c4
  clear c4
  replace H := zB H
  obtain ⟨t102, A50, H⟩ := H
  try dsimp only at H
  have A5 := zM A50
  clear A50
  by_cases c6 : t102 = 0
  ·
   rw [if_pos c6] at H
   have c6b0 : (t102 == 0) = true := zG c6
   have c6b1 : (t102 != 0) = false := zH c6
   clear c6
   replace H := zB H
   obtain ⟨⟨t103, t106⟩, A70, H⟩ := H
   try dsimp only at H
   have A7 := zM A70
   clear A70
   by_cases c8 : t106 = true
   ·
    subst c8
    rw [if_pos rfl] at H
    simp only [Option.some.injEq, Prod.mk.injEq] at H
    obtain ⟨rfl, rfl, rfl⟩ := H
    go_enter Tryd.func53, Tryd.ntmps53
    go_wp2_with (first | ((with_reducible refine gate_callee (f := 37) rfl ?_); refine goesL_ (some 12) rfl rfl Tryd.func37 (by kernel_rfl) rfl #[.slice A0 l0.length c0] rfl zl ?_; (with_reducible refine (aumbryref04_Check.calls k _ _ l0 t101 _ ?side1 ?side2 A3.out).mono ?_); (case side1 => exact Kd.C_below HR0.out zg); (case side2 => exact HC0.out); rintro e w' ⟨rfl, ⟨nd, rfl⟩⟩; refine ⟨_, rfl, ?_⟩) | ((with_reducible refine gate_callee (f := 37) rfl ?_); refine goesL_ (some 17) rfl rfl Tryd.func37 (by kernel_rfl) rfl #[.slice A1 l1.length c1] rfl zl ?_; (with_reducible refine (aumbryref04_Check.calls k _ _ l1 t102 _ ?side1 ?side2 A5.out).mono ?_); (case side1 => exact Kd.C_below HR1.out zg); (case side2 => exact HC1.out); rintro e w' ⟨rfl, ⟨nd, rfl⟩⟩; refine ⟨_, rfl, ?_⟩) | ((with_reducible refine gate_callee (f := 75) rfl ?_); refine goesL_ (some 24) rfl rfl Tryd.func75 (by kernel_rfl) rfl #[.slice A0 l0.length c0, .slice A1 l1.length c1, .slice none 0 0] rfl zl ?_; (refine (aumbryref05_Fit.calls k _ _ l0 _ _ l1 (fun k_ => some k_ = (.slice none 0 0 : Value).ownBlock) (.slice none 0 0) ([] : List (S109)) t103 true w _ ?side1 ?side2 ?side3 ?side4 ?side5 ?side6 A7.out).mono ?_); (case side1 => exact zb); (case side2 => exact Kd.C_kept_came k33_heap HR0.out zb (fun k_ hs_ => (fun e_ => by simp [Value.ownBlock] at e_) hs_)); (case side3 => exact HC0.out); (case side4 => exact Kd.C_kept_came k33_heap HR1.out zb (fun k_ hs_ => (fun e_ => by simp [Value.ownBlock] at e_) hs_)); (case side5 => exact HC1.out); (case side6 => exact Kd.S_nil _ _ _ _ _); rintro e w9 ⟨v104, rfl, ho0, hb, hkp⟩; refine ⟨_, rfl, ?_⟩; have HO105 := zM (Kd.S_mono (ok' := fun k_ => True) ho0 (fun k_ hk_ => trivial)); replace HB := zM (hb); (try clear hb); (try clear hkp); (try clear ho0)))
    go_ret3
    exact ⟨_, zw, Kd.S_below HO105.out zg, zb⟩
   ·
    replace c8 := zI c8
    subst c8
    rw [if_neg (show ¬ (false = true) by decide)] at H
    simp only [Option.some.injEq, Prod.mk.injEq] at H
    obtain ⟨rfl, rfl, rfl⟩ := H
    go_enter Tryd.func53, Tryd.ntmps53
    go_wp2_with (first | ((with_reducible refine gate_callee (f := 37) rfl ?_); refine goesL_ (some 12) rfl rfl Tryd.func37 (by kernel_rfl) rfl #[.slice A0 l0.length c0] rfl zl ?_; (with_reducible refine (aumbryref04_Check.calls k _ _ l0 t101 _ ?side1 ?side2 A3.out).mono ?_); (case side1 => exact Kd.C_below HR0.out zg); (case side2 => exact HC0.out); rintro e w' ⟨rfl, ⟨nd, rfl⟩⟩; refine ⟨_, rfl, ?_⟩) | ((with_reducible refine gate_callee (f := 37) rfl ?_); refine goesL_ (some 17) rfl rfl Tryd.func37 (by kernel_rfl) rfl #[.slice A1 l1.length c1] rfl zl ?_; (with_reducible refine (aumbryref04_Check.calls k _ _ l1 t102 _ ?side1 ?side2 A5.out).mono ?_); (case side1 => exact Kd.C_below HR1.out zg); (case side2 => exact HC1.out); rintro e w' ⟨rfl, ⟨nd, rfl⟩⟩; refine ⟨_, rfl, ?_⟩) | ((with_reducible refine gate_callee (f := 75) rfl ?_); refine goesL_ (some 24) rfl rfl Tryd.func75 (by kernel_rfl) rfl #[.slice A0 l0.length c0, .slice A1 l1.length c1, .slice none 0 0] rfl zl ?_; (refine (aumbryref05_Fit.calls k _ _ l0 _ _ l1 (fun k_ => some k_ = (.slice none 0 0 : Value).ownBlock) (.slice none 0 0) ([] : List (S109)) t103 false w _ ?side1 ?side2 ?side3 ?side4 ?side5 ?side6 A7.out).mono ?_); (case side1 => exact zb); (case side2 => exact Kd.C_kept_came k33_heap HR0.out zb (fun k_ hs_ => (fun e_ => by simp [Value.ownBlock] at e_) hs_)); (case side3 => exact HC0.out); (case side4 => exact Kd.C_kept_came k33_heap HR1.out zb (fun k_ hs_ => (fun e_ => by simp [Value.ownBlock] at e_) hs_)); (case side5 => exact HC1.out); (case side6 => exact Kd.S_nil _ _ _ _ _); rintro e w10 ⟨v104, rfl, ho0, hb, hkp⟩; refine ⟨_, rfl, ?_⟩; have HO105 := zM (Kd.S_mono (ok' := fun k_ => True) ho0 (fun k_ hk_ => trivial)); replace HB := zM (hb); (try clear hb); (try clear hkp); (try clear ho0)))
    go_ret3
    exact ⟨_, zw, by first | exact Kd.S_nil _ _ _ _ _ | exact Kd.N_nil _ _ _ _ _ | exact Kd.V_nil _ _ _ _ _ | exact Kd.Q_nil _ _ _ _ _ | exact Kd.R_nil _ _ _ _ _, zb⟩
  ·
   rw [if_neg c6] at H
   have c6b0 : (t102 == 0) = false := zE c6
   have c6b1 : (t102 != 0) = true := zF c6
   simp only [Option.some.injEq, Prod.mk.injEq] at H
   obtain ⟨rfl, rfl, rfl⟩ := H
   go_enter Tryd.func53, Tryd.ntmps53
   go_wp2_with (first | ((with_reducible refine gate_callee (f := 37) rfl ?_); refine goesL_ (some 12) rfl rfl Tryd.func37 (by kernel_rfl) rfl #[.slice A0 l0.length c0] rfl zl ?_; (with_reducible refine (aumbryref04_Check.calls k _ _ l0 t101 _ ?side1 ?side2 A3.out).mono ?_); (case side1 => exact Kd.C_below HR0.out zg); (case side2 => exact HC0.out); rintro e w' ⟨rfl, ⟨nd, rfl⟩⟩; refine ⟨_, rfl, ?_⟩) | ((with_reducible refine gate_callee (f := 37) rfl ?_); refine goesL_ (some 17) rfl rfl Tryd.func37 (by kernel_rfl) rfl #[.slice A1 l1.length c1] rfl zl ?_; (with_reducible refine (aumbryref04_Check.calls k _ _ l1 t102 _ ?side1 ?side2 A5.out).mono ?_); (case side1 => exact Kd.C_below HR1.out zg); (case side2 => exact HC1.out); rintro e w' ⟨rfl, ⟨nd, rfl⟩⟩; refine ⟨_, rfl, ?_⟩))
   go_ret3
   exact ⟨_, zw, by first | exact Kd.S_nil _ _ _ _ _ | exact Kd.N_nil _ _ _ _ _ | exact Kd.V_nil _ _ _ _ _ | exact Kd.Q_nil _ _ _ _ _ | exact Kd.R_nil _ _ _ _ _, zb⟩
 ·
  rw [if_neg c4] at H
  have c4b0 : (t101 == 0) = false := zE c4
  have c4b1 : (t101 != 0) = true := zF c4
  simp only [Option.some.injEq, Prod.mk.injEq] at H
  obtain ⟨rfl, rfl, rfl⟩ := H
  go_enter Tryd.func53, Tryd.ntmps53
  go_wp2_with (first | ((with_reducible refine gate_callee (f := 37) rfl ?_); refine goesL_ (some 12) rfl rfl Tryd.func37 (by kernel_rfl) rfl #[.slice A0 l0.length c0] rfl zl ?_; (with_reducible refine (aumbryref04_Check.calls k _ _ l0 t101 _ ?side1 ?side2 A3.out).mono ?_); (case side1 => exact Kd.C_below HR0.out zg); (case side2 => exact HC0.out); rintro e w' ⟨rfl, ⟨nd, rfl⟩⟩; refine ⟨_, rfl, ?_⟩))
  go_ret3
  exact ⟨_, zw, by first | exact Kd.S_nil _ _ _ _ _ | exact Kd.N_nil _ _ _ _ _ | exact Kd.V_nil _ _ _ _ _ | exact Kd.Q_nil _ _ _ _ _ | exact Kd.R_nil _ _ _ _ _, zb⟩

end Go.Proofs.YtpnamhplhdaphaaDoor.P

-- ==== PQc
/- Plain laws, part c: where a pattern fits: along the cells, and part by part. -/
namespace Go.Proofs.YtpnamhplhdaphaaDoor.P.M
open Go.RowKit Go.Proofs.YtpnamhplhdaphaaDoorW.PrintWords
set_option linter.unusedVariables false
set_option linter.unusedSimpArgs false

abbrev Bnd := S109
def lookB (out : List Bnd) (s : ByteArray) : Option (List Cel) := (out.find? (fun b => decide (b.f0 = s))).map (·.f1)
/-- The first term of a list. -/
def fstT (t r : List Cel) : List Cel := t.take (t.length - r.length)
def mat : List Cel → List Cel → List Bnd → Option (List Bnd × List Cel)
 | [], t, out => some (out, t)
 | c :: p, t, out =>
  if kindS c.f0 = 2 then
   match segN t 1 with
   | none => none
   | some r => match lookB out c.f0 with
    | none => mat p r (out ++ [⟨c.f0, fstT t r⟩])
    | some v => if v = fstT t r then mat p r out else none
  else match t with
   | [] => none
   | d :: t' => if d = c then mat p t' out else none

/-! ### segments -/
theorem segN_split {t : List Cel} {n : Nat} (h : segN t (n + 1) = some []) : ∃ r, segN t 1 = some r ∧ segN r n = some [] := by
 rw [show n + 1 = 1 + n by omega, segN_add] at h
 cases hr : segN t 1 with
 | none => rw [hr] at h; cases h
 | some r => rw [hr] at h; exact ⟨r, rfl, h⟩
theorem segN_fst {t r : List Cel} {n : Nat} (h : segN t n = some r) : t = fstT t r ++ r ∧ segN (fstT t r) n = some [] := by
 obtain ⟨m, hm, hd⟩ := segN_suffix h
 have hl : r.length = t.length - m := by rw [← hd, List.length_drop]
 have he : fstT t r = t.take m := by unfold fstT; rw [show t.length - r.length = m by omega]
 rw [he]
 refine ⟨by rw [← hd]; exact (List.take_append_drop m t).symm, ?_⟩
 have : ∀ (l : List Cel) (n m : Nat), m ≤ l.length → segN l n = some (l.drop m) → segN (l.take m) n = some [] := by
  intro l
  induction l with
  | nil =>
   intro n m hm h
   have hm0 : m = 0 := by simpa using hm
   subst hm0
   simpa using h
  | cons c l ih =>
   intro n m hm h
   cases n with
   | zero =>
    rw [segN_zero] at h ⊢
    injection h with h
    have := congrArg List.length h
    simp only [List.length_cons, List.length_drop] at this
    have hm0 : m = 0 := by simp at hm; omega
    rw [hm0]
    rfl
   | succ n =>
    cases m with
    | zero =>
     have := segN_len h
     simp at this
    | succ m =>
     simp only [List.drop_succ_cons] at h
     exact ih (n + ar c) m (by simpa using hm) h
 rw [← hd] at h
 exact this t n m hm h

/-! ### the program's Match -/
theorem ev_variable (c : Cel) : Ev (fun k => match_variable.f k c.f0 c.f1) (kindS c.f0 == 2) := by
 unfold match_variable.f
 exact Ev.bind (ev_kind c.f0) (Ev.now _)
theorem ev_end_loop (t : List Cel) (ht : t.length ≤ 64) (hok : ∀ c ∈ t, Okc c) : ∀ (s : List Cel) (a n : Nat) (r : List Cel), a ≤ t.length → t.drop a = s → n ≤ 1 + 4 * a → segN s n = some r →
 Ev (fun k => match_end.l0 k t (a : Int) (n : Int)) ((t.length - r.length : Nat) : Int)
 | s, a, 0, r, ha, hs, hn, hr => by
  refine Ev.step (f := fun _ => some (a : Int)) (fun k => by simp only [match_end.l0]; rw [if_neg (by omega)]) ?_
  rw [segN_zero] at hr
  injection hr with hr
  have : ((t.length - r.length : Nat) : Int) = (a : Int) := by rw [← hr, ← hs, List.length_drop]; omega
  rw [this]
  exact Ev.now _
 | [], a, n + 1, r, ha, hs, hn, hr => by cases hr
 | c :: s, a, n + 1, r, ha, hs, hn, hr => by
  obtain ⟨h1, h2, h3⟩ := drop_cons hs
  have hc : Okc c := hok c (List.mem_of_mem_drop (hs ▸ List.mem_cons_self ..))
  have har : (ar c : Int) = c.f1 := by unfold ar; have := hc.lo; omega
  have hh := hc.hi
  have hl0 := hc.lo
  refine Ev.step (f := fun k => match_end.l0 k t ((a + 1 : Nat) : Int) ((n + ar c : Nat) : Int)) (fun k => ?_) (ev_end_loop t ht hok s (a + 1) (n + ar c) r (by omega) h3 (by omega) hr)
  simp only [match_end.l0]
  rw [if_pos (by omega), if_pos (by omega), if_pos (by omega), rd_cel hs, wrap_up (by omega) (by omega)]
  have e : wrap64 (((n + 1 : Nat) : Int) + wrap64 (c.f1 - 1)) = ((n + ar c : Nat) : Int) := by
   rw [wrap_id (i := c.f1 - 1) (by omega) (by omega), wrap_id (by omega) (by omega)]
   omega
  rw [e]
  rfl
theorem ev_end (t : List Cel) (ht : t.length ≤ 64) (hok : ∀ c ∈ t, Okc c) (a : Nat) (ha : a ≤ t.length) {r : List Cel} (hr : segN (t.drop a) 1 = some r) : Ev (fun k => match_end.f k t (a : Int)) ((t.length - r.length : Nat) : Int) := by
 unfold match_end.f
 exact ev_end_loop t ht hok _ a 1 r ha rfl (by omega) hr
theorem bytes_eq (a b : ByteArray) : a.toList = b.toList ↔ a = b := by
 rw [ByteArray.toList_eq, ByteArray.toList_eq]
 constructor
 ·
  intro h
  cases a; cases b
  simp only [ByteArray.mk.injEq]
  exact Array.toList_inj.1 h
 ·
  intro h
  rw [h]
theorem cel_ne (c d : Cel) : ((!((c.f0.toList) == (d.f0.toList)) || (!(c.f1 == d.f1))) = true) ↔ c ≠ d := by
 cases c with | mk a b => cases d with | mk a' b' =>
 simp only [Bool.or_eq_true, Bool.not_eq_true', beq_eq_false_iff_ne, ne_eq, bytes_eq, S33.mk.injEq]
 by_cases h : a = a' <;> simp [h]
theorem ev_cels_loop (F : Nat → List Cel → List Cel → Int → Int → Option Bool)
 (hF : ∀ k x y n i, F (k + 1) x y n i = if i < n then (if 0 ≤ i then (if i < (x.length : Int) then (if i < (y.length : Int) then (if (!((((rd_T33 x i).f0).toList) == (((rd_T33 y i).f0).toList)) || (!(((rd_T33 x i).f1) == ((rd_T33 y i).f1)))) = true then (some false) else (F k x y n (wrap64 (i + 1)))) else (none)) else (none)) else (none)) else (some true))
 (x y : List Cel) (hl : x.length = y.length) (hb : x.length ≤ 9223372036854775806) : ∀ (s u : List Cel) (a : Nat), a ≤ x.length → x.drop a = s → y.drop a = u → Ev (fun k => F k x y (x.length : Int) (a : Int)) (decide (s = u))
 | [], u, a, ha, hs, hu => by
  have h1 := drop_nil_len ha hs
  have h2 : u = [] := by rw [← hu]; exact List.drop_eq_nil_of_le (by omega)
  refine Ev.step (f := fun _ => some true) (fun k => by rw [hF, if_neg (by omega)]) ?_
  rw [h2]
  exact Ev.now _
 | c :: s, u, a, ha, hs, hu => by
  obtain ⟨h1, _, h3⟩ := drop_cons hs
  rcases u with _ | ⟨d, u⟩
  ·
   have := drop_nil_len (by omega) hu
   omega
  obtain ⟨_, _, h4⟩ := drop_cons hu
  by_cases hcd : c = d
  ·
   refine Ev.step (f := fun k => F k x y (x.length : Int) ((a + 1 : Nat) : Int)) (fun k => by
    rw [hF, if_pos (by omega), if_pos (by omega), if_pos (by omega), if_pos (by omega), rd_cel hs, rd_cel hu, if_neg (fun h => (cel_ne c d).1 h hcd), wrap_up (by omega) (by omega)]
    rfl) ?_
   have : decide (c :: s = d :: u) = decide (s = u) := by subst hcd; simp
   rw [this]
   exact ev_cels_loop F hF x y hl hb s u (a + 1) (by omega) h3 h4
  ·
   refine Ev.step (f := fun _ => some false) (fun k => by
    rw [hF, if_pos (by omega), if_pos (by omega), if_pos (by omega), if_pos (by omega), rd_cel hs, rd_cel hu, if_pos ((cel_ne c d).2 hcd)]) ?_
   have : decide (c :: s = d :: u) = false := by simp [hcd]
   rw [this]
   exact Ev.now _
theorem ev_equal (x y : List Cel) (hb : x.length ≤ 9223372036854775806 ∨ y.length ≤ 9223372036854775806) : Ev (fun k => api_Cell_74.f k x y) (decide (x = y)) := by
 unfold api_Cell_74.f
 by_cases h : (x.length : Int) = (y.length : Int)
 ·
  exact Ev.congr (f := fun k => api_Cell_74.l0 k x y (x.length : Int) ((0 : Nat) : Int)) (fun k => by rw [if_pos h]; rfl) (ev_cels_loop _ (fun k x y n i => rfl) x y (by omega) (by omega) x y 0 (by omega) rfl rfl)
 ·
  refine Ev.congr (f := fun _ => some (decide (x = y))) (fun k => ?_) (Ev.now _)
  rw [if_neg h]
  congr 1
  rw [Eq.comm, decide_eq_false_iff_not]
  rintro rfl
  exact h rfl
/-- The map of places is that of the binds. -/
structure MapOk (m : List Cel) (out : List Bnd) : Prop where
 len : m.length = out.length
 has : ∀ s, mapHas m s = (lookB out s).isSome
 at_ : ∀ s v, lookB out s = some v → ∃ j : Nat, mapAt m s = (j : Int) ∧ j < out.length ∧ ∃ b, out[j]? = some b ∧ b.f1 = v
theorem data_eq (a b : ByteArray) : a.data.toList = b.data.toList ↔ a = b := by
 rw [← bytes_eq, ByteArray.toList_eq, ByteArray.toList_eq]
theorem mapOk_nil : MapOk [] [] := ⟨rfl, fun s => rfl, fun s v h => by cases h⟩
theorem mapOk_put {m : List Cel} {out : List Bnd} (h : MapOk m out) (s : ByteArray) (v : List Cel) (hn : lookB out s = none) : MapOk (mapPut m s (out.length : Int)) (out ++ [⟨s, v⟩]) := by
 have hlook : ∀ s', lookB (out ++ [⟨s, v⟩]) s' = if s = s' then some v else lookB out s' := by
  intro s'
  unfold lookB at hn ⊢
  rw [List.find?_append]
  by_cases hs : s = s'
  ·
   subst hs
   rw [if_pos rfl]
   cases hf : out.find? (fun b => decide (b.f0 = s)) with
   | none => simp
   | some b => rw [hf] at hn; cases hn
  ·
   rw [if_neg hs]
   cases hf : out.find? (fun b => decide (b.f0 = s')) with
   | none => simp [hs]
   | some b => simp
 refine ⟨by simp [mapPut, h.len], fun s' => ?_, fun s' v' hv => ?_⟩
 ·
  rw [hlook]
  by_cases hs : s = s'
  ·
   subst hs
   simp [mapHas, mapPut]
  ·
   rw [if_neg hs, ← h.has s']
   have : (s.data.toList == s'.data.toList) = false := by simp only [beq_eq_false_iff_ne, ne_eq, data_eq]; exact hs
   simp only [mapHas, mapPut, List.any_cons, this, Bool.false_or]
 ·
  rw [hlook] at hv
  by_cases hs : s = s'
  ·
   subst hs
   rw [if_pos rfl] at hv
   injection hv with hv
   subst hv
   exact ⟨out.length, by simp [mapAt, mapPut], by simp, ⟨s, v⟩, by simp, rfl⟩
  ·
   rw [if_neg hs] at hv
   obtain ⟨j, h1, h2, b, h3, h4⟩ := h.at_ s' v' hv
   have : (s.data.toList == s'.data.toList) = false := by simp only [beq_eq_false_iff_ne, ne_eq, data_eq]; exact hs
   refine ⟨j, ?_, by simp; omega, b, by rw [List.getElem?_append_left h2]; exact h3, h4⟩
   rw [← h1]
   simp only [mapAt, mapPut, List.find?_cons, this]
def matR (x : Option (List Bnd × List Cel)) : List Bnd × Bool × Int := match x with
 | none => ([], false, 0)
 | some y => (y.1, true, 0)
theorem ev_match_loop (p t : List Cel) (hp : p.length ≤ 64) (ht : t.length ≤ 64) (hokp : ∀ c ∈ p, Okc c) (hokt : ∀ c ∈ t, Okc c) :
 ∀ (s : List Cel) (i a n : Nat) (out : List Bnd) (m : List Cel), i ≤ p.length → a ≤ t.length → p.drop i = s → segN s n = some [] → segN (t.drop a) n = some [] → MapOk m out → out.length ≤ i →
 Ev (fun k => match_Match.l0 k t out m (a : Int) p (p.length : Int) (i : Int)) (matR (mat s (t.drop a) out))
 | [], i, a, n, out, m, hi, ha, hs, hn, hnt, hm, ho => by
  have h1 := drop_nil_len hi hs
  refine Ev.step (f := fun _ => some (out, true, 0)) (fun k => by simp only [match_Match.l0]; rw [if_neg (by omega)]) ?_
  exact Ev.now _
 | c :: s, i, a, n, out, m, hi, ha, hs, hn, hnt, hm, ho => by
  obtain ⟨h1, _, h3⟩ := drop_cons hs
  have hc : Okc c := hokp c (List.mem_of_mem_drop (hs ▸ List.mem_cons_self ..))
  obtain ⟨n, rfl⟩ : ∃ q, n = q + 1 := by
   cases n with
   | zero => rw [segN_zero] at hn; injection hn with hn; cases hn
   | succ n => exact ⟨n, rfl⟩
  have hn' : segN s (n + ar c) = some [] := hn
  obtain ⟨r, hr1, hrn⟩ := segN_split hnt
  have hks := kindS_size hc.kind
  by_cases hv : kindS c.f0 = 2
  ·
   have hac : ar c = 0 := by unfold ar; rw [hc.var hv]; rfl
   rw [hac, Nat.add_zero] at hn'
   obtain ⟨q, hq, hqr⟩ := segN_suffix hr1
   rw [List.drop_drop] at hqr
   rw [List.length_drop] at hq
   have hrl : r.length = t.length - (a + q) := by rw [← hqr, List.length_drop]
   have hpart : ((t.take (((t.length - r.length : Nat) : Int)).toNat).drop ((a : Int)).toNat : List Cel) = fstT (t.drop a) r := by
    unfold fstT
    rw [List.length_drop]
    simp only [Int.toNat_natCast]
    rw [List.drop_take]
    congr 1
    omega
   have hfl : (fstT (t.drop a) r).length = q := by unfold fstT; rw [List.length_take, List.length_drop]; omega
   have hw1 : True → wrap64 ((a : Int) + ((fstT (t.drop a) r).length : Int)) = ((a + q : Nat) : Int) := fun _ => by rw [hfl, wrap_id (by omega) (by omega)]; omega
   have hw2 : True → wrap64 ((i : Int) + 1) = ((i + 1 : Nat) : Int) := fun _ => by rw [wrap_up (by omega) (by omega)]; rfl
   refine Ev.step (fun k => (show match_Match.l0 (k + 1) t out m (a : Int) p (p.length : Int) (i : Int) = _ from by rw [match_Match.l0])) ?_
   refine evIfp (by omega) (evIfp (by omega) (evIfp (by omega) ?_))
   simp only [rd_cel hs]
   refine Ev.bind (ev_variable c) ?_
   refine evIfp (by simp [hv]) ?_
   refine Ev.bind (ev_end t ht hokt a ha hr1) ?_
   refine evIfp (by omega) (evIfp (by omega) (evIfp (by omega) ?_))
   refine Ev.bind (Ev.now _) ?_
   simp only [hpart, hw1 trivial, hw2 trivial]
   refine evIfp (by omega) ?_
   have hmat : mat (c :: s) (t.drop a) out = (match lookB out c.f0 with | none => mat s r (out ++ [⟨c.f0, fstT (t.drop a) r⟩]) | some v => if v = fstT (t.drop a) r then mat s r out else none) := by
    show (if kindS c.f0 = 2 then _ else _) = _
    rw [if_pos hv, hr1]
   rw [hmat]
   cases hl : lookB out c.f0 with
   | none =>
    refine evIfn (by rw [hm.has, hl]; simp) ?_
    have hml := hm.len
    refine evIfp (by omega) ?_
    refine Ev.bind (evIs (clone_at _ (by omega))) ?_
    refine evIfp (by omega) ?_
    have := ev_match_loop p t hp ht hokp hokt s (i + 1) (a + q) n (out ++ [⟨c.f0, fstT (t.drop a) r⟩]) (mapPut m c.f0 (out.length : Int)) (by omega) (by omega) h3 hn' (by rw [hqr]; exact hrn) (mapOk_put hm _ _ hl) (by simp; omega)
    rw [hqr] at this
    exact this
   | some v =>
    obtain ⟨j, hj1, hj2, b, hj3, hj4⟩ := hm.at_ _ _ hl
    have hrd : (rd_T109 out (mapAt m c.f0)).f1 = v := by
     rw [hj1]
     unfold rd_T109
     rw [List.getD_eq_getElem?_getD, Int.toNat_natCast, hj3]
     exact hj4
    refine evIfp (by rw [hm.has, hl]; simp) ?_
    refine evIfp (by omega) (evIfp (by omega) ?_)
    simp only [hrd]
    refine Ev.bind (ev_equal _ _ (.inr (by omega))) ?_
    by_cases he : v = fstT (t.drop a) r
    ·
     refine evIfp (by simpa using he) ?_
     have := ev_match_loop p t hp ht hokp hokt s (i + 1) (a + q) n out m (by omega) (by omega) h3 hn' (by rw [hqr]; exact hrn) hm (by omega)
     rw [hqr] at this
     simp only [he, if_true]
     exact this
    ·
     refine evIfn (by simpa using he) ?_
     simp only [he, if_false]
     exact Ev.now _
  ·
   rcases ht' : t.drop a with _ | ⟨d, u⟩
   ·
    rw [ht'] at hnt
    cases hnt
   obtain ⟨g1, _, g3⟩ := drop_cons ht'
   have hw1 : True → wrap64 ((a : Int) + 1) = ((a + 1 : Nat) : Int) := fun _ => by rw [wrap_up (by omega) (by omega)]; rfl
   have hw2 : True → wrap64 ((i : Int) + 1) = ((i + 1 : Nat) : Int) := fun _ => by rw [wrap_up (by omega) (by omega)]; rfl
   refine Ev.step (fun k => (show match_Match.l0 (k + 1) t out m (a : Int) p (p.length : Int) (i : Int) = _ from by rw [match_Match.l0])) ?_
   refine evIfp (by omega) (evIfp (by omega) (evIfp (by omega) ?_))
   simp only [rd_cel hs, rd_cel ht']
   refine Ev.bind (ev_variable c) ?_
   refine evIfn (by simp [hv]) ?_
   refine evIfp (by omega) (evIfp (by omega) ?_)
   have hmat : mat (c :: s) (d :: u) out = if d = c then mat s u out else none := by
    show (if kindS c.f0 = 2 then _ else _) = _
    rw [if_neg hv]
   rw [hmat]
   by_cases hdc : d = c
   ·
    refine evIfn (fun h => (cel_ne d c).1 h hdc) ?_
    rw [if_pos hdc]
    simp only [hw1 trivial, hw2 trivial]
    have := ev_match_loop p t hp ht hokp hokt s (i + 1) (a + 1) (n + ar c) out m (by omega) (by omega) h3 hn' (by rw [ht'] at hnt; rw [g3, ← hdc]; exact hnt) hm (by omega)
    rw [g3] at this
    exact this
   ·
    refine evIfp ((cel_ne d c).2 hdc) ?_
    rw [if_neg hdc]
    exact Ev.now _
theorem checkS_ok {t : List Cel} (h : checkS t = 0) : t.length ≤ 64 ∧ (∀ c ∈ t, Okc c) ∧ segN t 1 = some [] := by
 unfold checkS at h
 by_cases h1 : t.length > 64
 ·
  rw [if_pos h1] at h
  cases h
 ·
  rw [if_neg h1] at h
  by_cases h2 : errs t = 0
  ·
   rw [if_pos h2] at h
   by_cases h3 : segN t 1 = some []
   ·
    exact ⟨by omega, errs_ok h2, h3⟩
   ·
    rw [if_neg h3] at h
    cases h
  ·
   rw [if_neg h2] at h
   exact absurd h h2
def matchS (p t : List Cel) : List Bnd × Bool × Int := if checkS p = 0 then (if checkS t = 0 then matR (mat p t []) else ([], false, checkS t)) else ([], false, checkS p)
theorem ev_match (p t : List Cel) : Ev (fun k => match_Match.f k p t) (matchS p t) := by
 unfold match_Match.f matchS
 refine Ev.bind (ev_check p) ?_
 by_cases hp : checkS p = 0
 ·
  rw [if_pos hp]
  refine evIfp hp ?_
  refine Ev.bind (ev_check t) ?_
  by_cases ht : checkS t = 0
  ·
   rw [if_pos ht]
   refine evIfp ht ?_
   obtain ⟨p1, p2, p3⟩ := checkS_ok hp
   obtain ⟨t1, t2, t3⟩ := checkS_ok ht
   exact ev_match_loop p t p1 t1 p2 t2 p 0 0 1 [] [] (by omega) (by omega) rfl p3 t3 mapOk_nil (by simp)
  ·
   rw [if_neg ht]
   exact evIfn ht (Ev.now _)
 ·
  rw [if_neg hp]
  exact evIfn hp (Ev.now _)

/-! ### the document's Match -/
end Go.Proofs.YtpnamhplhdaphaaDoor.P.M

-- ==== PQd
/- Plain laws, part d: the document's Match is the program's. -/
namespace Go.Proofs.YtpnamhplhdaphaaDoor.P.M
open Go.RowKit Go.Proofs.YtpnamhplhdaphaaDoorW.PrintWords
set_option linter.unusedVariables false
set_option linter.unusedSimpArgs false

theorem rd_bnd {t : List Bnd} {n : Nat} {c : Bnd} {s : List Bnd} (h : t.drop n = c :: s) : rd_T109 t (n : Int) = c := by
 unfold rd_T109
 exact (drop_cons h).2.1 _
theorem up_cast (a : Nat) (h : a < 9223372036854775807) : wrap64 ((a : Int) + 1) = ((a + 1 : Nat) : Int) := by rw [wrap_up (by omega) (by omega)]; rfl

theorem mat_len : ∀ (p t : List Cel) (out o : List Bnd) (r : List Cel), mat p t out = some (o, r) → o.length ≤ out.length + p.length
 | [], t, out, o, r, h => by
  have h' : some (out, t) = some (o, r) := h
  injection h' with h'
  injection h' with h' _
  rw [← h']
  simp
 | c :: p, t, out, o, r, h => by
  have h : (if kindS c.f0 = 2 then _ else _) = some (o, r) := h
  by_cases hv : kindS c.f0 = 2
  ·
   rw [if_pos hv] at h
   cases hq : segN t 1 with
   | none => rw [hq] at h; cases h
   | some q =>
    rw [hq] at h
    simp only at h
    cases hl : lookB out c.f0 with
    | none =>
     rw [hl] at h
     have := mat_len p q _ o r h
     simp at this
     simp
     omega
    | some v =>
     rw [hl] at h
     simp only at h
     by_cases he : v = fstT t q
     ·
      rw [if_pos he] at h
      have := mat_len p q _ o r h
      simp
      omega
     ·
      rw [if_neg he] at h
      cases h
  ·
   rw [if_neg hv] at h
   rcases t with _ | ⟨d, t⟩
   ·
    cases h
   ·
    have h9 : (if d = c then mat p t out else none) = some (o, r) := h
    by_cases he : d = c
    ·
     rw [if_pos he] at h9
     have := mat_len p t _ o r h9
     simp
     omega
    ·
     rw [if_neg he] at h9
     cases h9
/-! ### binds alike -/
theorem mat_vals : ∀ (p t : List Cel) (out o : List Bnd) (r : List Cel) (N : Nat), t.length ≤ N → (∀ b ∈ out, b.f1.length ≤ N) → mat p t out = some (o, r) → ∀ b ∈ o, b.f1.length ≤ N
 | [], t, out, o, r, N, ht, ho, h => by
  have h' : some (out, t) = some (o, r) := h
  injection h' with h'
  injection h' with h' _
  rw [← h']
  exact ho
 | c :: p, t, out, o, r, N, ht, ho, h => by
  have h : (if kindS c.f0 = 2 then _ else _) = some (o, r) := h
  by_cases hv : kindS c.f0 = 2
  ·
   rw [if_pos hv] at h
   cases hq : segN t 1 with
   | none => rw [hq] at h; cases h
   | some q =>
    rw [hq] at h
    have hql := segN_len hq
    simp only at h
    cases hl : lookB out c.f0 with
    | none =>
     rw [hl] at h
     refine mat_vals p q _ o r N (by omega) (fun b hb => ?_) h
     rcases List.mem_append.1 hb with hb | hb
     ·
      exact ho b hb
     ·
      rw [List.mem_singleton.1 hb]
      unfold fstT
      simp only [List.length_take]
      omega
    | some v =>
     rw [hl] at h
     simp only at h
     by_cases he : v = fstT t q
     ·
      rw [if_pos he] at h
      exact mat_vals p q _ o r N (by omega) ho h
     ·
      rw [if_neg he] at h
      cases h
  ·
   rw [if_neg hv] at h
   rcases t with _ | ⟨d, t⟩
   ·
    cases h
   ·
    have h9 : (if d = c then mat p t out else none) = some (o, r) := h
    by_cases he : d = c
    ·
     rw [if_pos he] at h9
     simp only [List.length_cons] at ht
     exact mat_vals p t _ o r N (by omega) ho h9
    ·
     rw [if_neg he] at h9
     cases h9
theorem matchS_small (p t : List Cel) : (matchS p t).1.length ≤ 64 ∧ ∀ b ∈ (matchS p t).1, b.f1.length ≤ 64 := by
 unfold matchS
 by_cases hp : checkS p = 0
 ·
  rw [if_pos hp]
  by_cases ht : checkS t = 0
  ·
   rw [if_pos ht]
   obtain ⟨p1, p2, p3⟩ := checkS_ok hp
   obtain ⟨t1, t2, t3⟩ := checkS_ok ht
   cases hm : mat p t [] with
   | none => exact ⟨by simp [matR], fun b hb => by cases hb⟩
   | some y =>
    obtain ⟨o, r⟩ := y
    have h1 := mat_len p t [] o r hm
    exact ⟨by simp only [matR]; simp at h1; omega, fun b hb => mat_vals p t [] o r 64 t1 (fun b hb => by cases hb) hm b hb⟩
  ·
   rw [if_neg ht]
   exact ⟨by simp, fun b hb => by cases hb⟩
 ·
  rw [if_neg hp]
  exact ⟨by simp, fun b hb => by cases hb⟩
end Go.Proofs.YtpnamhplhdaphaaDoor.P.M

-- ==== PF77
namespace Go.Proofs.YtpnamhplhdaphaaDoor.P
open Go.RowKit Go.Proofs.YtpnamhplhdaphaaDoorW.PrintWords Go.Proofs.YtpnamhplhdaphaaDoorW.PrintLast Go.Proofs.YtpnamhplhdaphaaDoorW.PrintMore
attribute [local go_sem] max2_int min2_int max_two min_two max_three min_three max_four min_four   -- for this text's walks alone
set_option linter.unusedVariables false
set_option linter.unusedSimpArgs false

/-! ### aumbryref05_Put: function 77 -/
def aumbryref05_Put.l0 : Nat → List (S33) → List (S109) → List (S33) → Int → Int → Option ((List (S33)))
 | 0, _, _, _, _, _ => none
 | k + 1, x0, x1, x5, x8, x9 => if x9 < x8 then (if 0 ≤ x9 then (if x9 < (x0.length : Int) then ((aumbryref03_Kind.f k ((rd_T33 x0 x9).f0)).bind fun t102 => (if t102 = 2 then ((aumbryref05_At.f k x1 ((rd_T33 x0 x9).f0)).bind fun t104 => (if 0 ≤ t104 then (if t104 < (x1.length : Int) then (if x5.length + ((rd_T109 x1 t104).f1).length < 5864062014805 then (aumbryref05_Put.l0 k x0 x1 (x5 ++ ((rd_T109 x1 t104).f1)) x8 (wrap64 (x9 + 1))) else (none)) else (none)) else (none))) else (if x5.length < 5864062014805 then (aumbryref05_Put.l0 k x0 x1 (x5 ++ [(⟨(rd_T33 x0 x9).f0, (rd_T33 x0 x9).f1⟩ : S33)]) x8 (wrap64 (x9 + 1))) else (none)))) else (none)) else (none)) else (some x5)
def aumbryref05_Put.f (k : Nat) (l0 : List (S33)) (l1 : List (S109)) : Option ((List (S33))) := aumbryref05_Put.l0 k l0 l1 ([] : List (S33)) (l0.length : Int) 0
theorem aumbryref05_Put.mono_l : ∀ k, (∀ y0 y1 y2 y3 y4, LeO (aumbryref05_Put.l0 k y0 y1 y2 y3 y4) (aumbryref05_Put.l0 (k + 1) y0 y1 y2 y3 y4))
 | 0 => fun _ _ _ _ _ r h => by simp [aumbryref05_Put.l0] at h
 | k + 1 => by
  have ih0 := aumbryref05_Put.mono_l k
  ·
   intro y0 y1 y2 y3 y4
   unfold aumbryref05_Put.l0
   repeat' first
   | (with_reducible exact ih0 _ _ _ _ _)
   | (with_reducible exact aumbryref03_Kind.mono _ _)
   | (with_reducible exact aumbryref05_At.mono _ _ _)
   | (with_reducible exact LeO.refl _)
   | (with_reducible exact LeO.none _)
   | (with_reducible refine LeO.ite ?_ ?_)
   | (with_reducible refine LeO.bind ?_ (fun _ => ?_))
theorem aumbryref05_Put.mono : ∀ a0 a1 k, LeO (aumbryref05_Put.f k a0 a1) (aumbryref05_Put.f (k + 1) a0 a1) := by
 intro a0 a1 k
 have ih0 := aumbryref05_Put.mono_l k
 unfold aumbryref05_Put.f
 repeat' first
  | (with_reducible exact ih0 _ _ _ _ _)
  | (with_reducible exact aumbryref03_Kind.mono _ _)
  | (with_reducible exact aumbryref05_At.mono _ _ _)
  | (with_reducible exact LeO.refl _)
  | (with_reducible exact LeO.none _)
  | (with_reducible refine LeO.ite ?_ ?_)
  | (with_reducible refine LeO.bind ?_ (fun _ => ?_))
theorem aumbryref05_Put.calls (k : Nat) (A0 : Option Addr) (c0 : Nat) (l0 : List (S33)) (A1 : Option Addr) (c1 : Nat) (l1 : List (S109)) (r : List (S33)) (w : World) (hr0 : Kd.C k33 w A0 l0.length l0) (hc0 : l0.length ≤ c0) (hr1 : Kd.C k109 w A1 l1.length l1) (hc1 : l1.length ≤ c1) (h : aumbryref05_Put.f k l0 l1 = some r) :
 Calls Tryd.prog 77 #[.slice A0 l0.length c0, .slice A1 l1.length c1] w fun e w' => ∃ v0_ : Value, e = .returned (v0_) ∧ Kd.R k33 33 w' w.heap.size (fun _ => True) v0_ r ∧ Below w.heap.size w w' := by
 have hu33 := Tryd.underlying33
 have HR0 := zM hr0
 have HC0 := zM hc0
 clear hr0 hc0
 have HR1 := zM hr1
 have HC1 := zM hc1
 clear hr1 hc1
 have HB := zM (Below.refl w.heap.size w)
 have H : (aumbryref05_Put.l0 k l0 l1 ([] : List (S33)) (l0.length : Int) 0) = some r := h
 clear h
 have H' := zM H
 clear H
 go_enter Tryd.func77, Tryd.ntmps77
 go_wp2
 go_loopg [5, 9] k (fun kq v5 v9 w' => ∃ (x5_1 : List (S33)) (x9_1 : Int), v9 = .int .i64 x9_1 ∧ Aside0 (aumbryref05_Put.l0 kq l0 l1 x5_1 (l0.length : Int) x9_1 = some r) ∧ Aside0 (kq ≤ k) ∧ Aside0 (Kd.R k33 33 w' w.heap.size (fun _ => True) v5 x5_1) ∧ Aside0 (Below w.heap.size w w'))
 case atStart => exact ⟨(([] : List (S33))), (0), zy, H', ⟨Nat.le_refl _⟩, ⟨by first | exact Kd.R_nil _ _ _ _ _ | exact Kd.N_nil _ _ _ _ _ | exact Kd.V_nil _ _ _ _ _ | exact Kd.Q_nil _ _ _ _ _ | exact Kd.S_nil _ _ _ _ _⟩, ⟨zb⟩⟩
 case round =>
  clear H'
  try clear c1
  try clear p2
  obtain ⟨x5_1, x9_1, rfl, HA, HK1, HO_5, HB⟩ := hrel
  cases gk with
  | zero => exact absurd HA.out (by simp [aumbryref05_Put.l0])
  | succ k1 =>
   have H := HA.out
   clear HA
   simp only [aumbryref05_Put.l0] at H
   by_cases c3 : x9_1 < (l0.length : Int)
   ·
    rw [if_pos c3] at H
    have c3b0 : decide (x9_1 < (l0.length : Int)) = true := zQ c3
    clear c3
    by_cases c4 : 0 ≤ x9_1
    ·
     rw [if_pos c4] at H
     have c4b0 : decide (0 ≤ x9_1) = true := zQ c4
     clear c4
     by_cases c5 : x9_1 < (l0.length : Int)
     ·
      rw [if_pos c5] at H
      have c5b0 : decide (x9_1 < (l0.length : Int)) = true := zQ c5
      clear c5
      replace H := zB H
      obtain ⟨t102, A60, H⟩ := H
      try dsimp only at H
      have A6 := zM A60
      clear A60
      by_cases c7 : t102 = 2
      ·
       rw [if_pos c7] at H
       have c7b0 : (t102 == 2) = true := zG c7
       have c7b1 : (t102 != 2) = false := zH c7
       clear c7
       replace H := zB H
       obtain ⟨t104, A80, H⟩ := H
       try dsimp only at H
       have A8 := zM A80
       clear A80
       by_cases c9 : 0 ≤ t104
       ·
        rw [if_pos c9] at H
        have c9b0 : decide (0 ≤ t104) = true := zQ c9
        clear c9
        by_cases c10 : t104 < (l1.length : Int)
        ·
         rw [if_pos c10] at H
         have c10b0 : decide (t104 < (l1.length : Int)) = true := zQ c10
         clear c10
         by_cases c11 : x5_1.length + ((rd_T109 l1 t104).f1).length < 5864062014805
         ·
          rw [if_pos c11] at H
          have LMc11 := zM c11
          clear c11
          obtain ⟨y106, hy106⟩ : ∃ y_ : List (S33), y_ = (x5_1 ++ ((rd_T109 l1 t104).f1)) := ⟨_, rfl⟩
          replace H : (aumbryref05_Put.l0 k1 l0 l1 y106 (l0.length : Int) (wrap64 (x9_1 + 1))) = some r := by first | (rw [hy106]; with_reducible exact H) | (have H2_ := (Option.bind_some _ _).symm.trans H; rw [hy106]; with_reducible exact H2_) | (have H2_ := (Option.bind_some _ _).symm.trans H; with_reducible exact H2_) | with_reducible exact H | (rw [hy106]; exact H) | exact H
          have Ny106 := zM hy106
          clear hy106
          have H' := zM H
          clear H
          have p101 : 0 ≤ (x9_1 : Int) := zT zv
          have q101 : x9_1 < (l0.length : Int) := zT zv
          obtain ⟨ad101, e101, hx101_0, hx101_1⟩ := at_T33 HR0.out x9_1 p101 q101
          cases e101
          replace hx101_0 := (HB.out.cell (World.block_lt_of_cell? w _ hx101_0)).trans hx101_0
          replace hx101_1 := (HB.out.cell (World.block_lt_of_cell? w _ hx101_1)).trans hx101_1
          replace p101 := eq_true p101
          replace q101 := eq_true q101
          go_wp2_with (first | ((with_reducible refine gate_callee (f := 61) rfl ?_); refine goesL_ (some 17) rfl rfl Tryd.func61 (by kernel_rfl) rfl #[.string ((rd_T33 l0 x9_1).f0)] rfl zl ?_; (with_reducible refine (aumbryref03_Kind.calls k1 ((rd_T33 l0 x9_1).f0) t102 _ A6.out).mono ?_); rintro e w' ⟨rfl, ⟨nd, rfl⟩⟩; refine ⟨_, rfl, ?_⟩; have p103 : 0 ≤ (x9_1 : Int) := zT zv; have q103 : x9_1 < (l0.length : Int) := zT zv; obtain ⟨ad103, e103, hx103_0, hx103_1⟩ := at_T33 HR0.out x9_1 p103 q103; obtain rfl : ad101 = ad103 := (by injection e103); replace hx103_0 := (HB.out.cell (World.block_lt_of_cell? w _ hx103_0)).trans hx103_0; replace hx103_1 := (HB.out.cell (World.block_lt_of_cell? w _ hx103_1)).trans hx103_1; replace p103 := eq_true p103; replace q103 := eq_true q103) | ((with_reducible refine gate_callee (f := 76) rfl ?_); refine goesL_ (some 27) rfl rfl Tryd.func76 (by kernel_rfl) rfl #[.slice A1 l1.length c1, .string ((rd_T33 l0 x9_1).f0)] rfl zl ?_; (with_reducible refine (aumbryref05_At.calls k1 _ _ l1 ((rd_T33 l0 x9_1).f0) t104 _ ?side1 ?side2 A8.out).mono ?_); (case side1 => exact Kd.C_below (Kd.C_below HR1.out zb) zg); (case side2 => exact HC1.out); rintro e w' ⟨rfl, ⟨nd, rfl⟩⟩; refine ⟨_, rfl, ?_⟩; have p105 : 0 ≤ (t104 : Int) := zT zv; have q105 : t104 < (l1.length : Int) := zT zv; obtain ⟨ad105, A105_1, c105_1, e105, hx105_0, hx105_1, hl105_1, hi105_1⟩ := at_T109 HR1.out t104 p105 q105; cases e105; replace hx105_0 := (HB.out.cell (World.block_lt_of_cell? w _ hx105_0)).trans hx105_0; replace hx105_1 := (HB.out.cell (World.block_lt_of_cell? w _ hx105_1)).trans hx105_1; have HR105_1 := zM hi105_1; have HC105_1 := zM hl105_1; clear hi105_1 hl105_1; replace p105 := eq_true p105; replace q105 := eq_true q105) | ((with_reducible refine gate_builtin (b := .append) (xs := #[.tmp 19, .tmp 30]) rfl ?_); at_builtin; refine Kd.R_append_rows k33 (w0 := w) w.heap.size rfl (.tmp 19) (.tmp 30) 23 33 (.agg #[(.string ⟨#[]⟩), (.int .i64 0)]) 24 rfl Tryd.underlying23 info33 rfl (by decide) (by omega) u5 x5_1 ((rd_T109 l1 t104).f1) _ _ _ (fun _ => True) (fun _ => False) rfl rfl ?aO ?aR (fun _ _ h => h) (fun _ h => h.elim) ?aF ?aB ?aS ?aL ?_; (case aR => exact Kd.C_below (Kd.C_below HR105_1.out zb) zg); (case aB => exact zb); (case aF => exact (fun _ _ => trivial)); (case aO => exact (zr HO_5.out)); (case aS => exact (below_size zb)); (case aL => have := LMc11.out; omega); intro v107 w12 ho hb hg hat; rw [← Ny106.out] at ho; replace HB := zM (hb); have HO108 := zM (ho); clear HO_5; clear ho hb hg hat))
          go_roundg k1
          case measure => have := HK1.out; omega
          case rel => exact ⟨(y106), (wrap64 (x9_1 + 1)), zy, H', ⟨by have := HK1.out; omega⟩, ⟨zr HO108.out⟩, ⟨zb⟩⟩
         ·
          rw [if_neg c11] at H
          exact absurd H (by simp)
        ·
         rw [if_neg c10] at H
         exact absurd H (by simp)
       ·
        rw [if_neg c9] at H
        exact absurd H (by simp)
      ·
       rw [if_neg c7] at H
       have c7b0 : (t102 == 2) = false := zE c7
       have c7b1 : (t102 != 2) = true := zF c7
       by_cases c13 : x5_1.length < 5864062014805
       ·
        rw [if_pos c13] at H
        have LMc13 := zM c13
        clear c13
        obtain ⟨y110, hy110⟩ : ∃ y_ : List (S33), y_ = (x5_1 ++ [(⟨(rd_T33 l0 x9_1).f0, (rd_T33 l0 x9_1).f1⟩ : S33)]) := ⟨_, rfl⟩
        replace H : (aumbryref05_Put.l0 k1 l0 l1 y110 (l0.length : Int) (wrap64 (x9_1 + 1))) = some r := by first | (rw [hy110]; with_reducible exact H) | (have H2_ := (Option.bind_some _ _).symm.trans H; rw [hy110]; with_reducible exact H2_) | (have H2_ := (Option.bind_some _ _).symm.trans H; with_reducible exact H2_) | with_reducible exact H | (rw [hy110]; exact H) | exact H
        have Ny110 := zM hy110
        clear hy110
        have H' := zM H
        clear H
        have p101 : 0 ≤ (x9_1 : Int) := zT zv
        have q101 : x9_1 < (l0.length : Int) := zT zv
        obtain ⟨ad101, e101, hx101_0, hx101_1⟩ := at_T33 HR0.out x9_1 p101 q101
        cases e101
        replace hx101_0 := (HB.out.cell (World.block_lt_of_cell? w _ hx101_0)).trans hx101_0
        replace hx101_1 := (HB.out.cell (World.block_lt_of_cell? w _ hx101_1)).trans hx101_1
        replace p101 := eq_true p101
        replace q101 := eq_true q101
        go_wp2_with (first | ((with_reducible refine gate_callee (f := 61) rfl ?_); refine goesL_ (some 17) rfl rfl Tryd.func61 (by kernel_rfl) rfl #[.string ((rd_T33 l0 x9_1).f0)] rfl zl ?_; (with_reducible refine (aumbryref03_Kind.calls k1 ((rd_T33 l0 x9_1).f0) t102 _ A6.out).mono ?_); rintro e w' ⟨rfl, ⟨nd, rfl⟩⟩; refine ⟨_, rfl, ?_⟩; have p109 : 0 ≤ (x9_1 : Int) := zT zv; have q109 : x9_1 < (l0.length : Int) := zT zv; obtain ⟨ad109, e109, hx109_0, hx109_1⟩ := at_T33 HR0.out x9_1 p109 q109; obtain rfl : ad101 = ad109 := (by injection e109); replace hx109_0 := (HB.out.cell (World.block_lt_of_cell? w _ hx109_0)).trans hx109_0; replace hx109_1 := (HB.out.cell (World.block_lt_of_cell? w _ hx109_1)).trans hx109_1; replace p109 := eq_true p109; replace q109 := eq_true q109) | ((with_reducible refine gate_builtin (b := .append) (xs := #[.tmp 32, .tmp 37]) rfl ?_); at_builtin; refine Kd.R_append k33 (w0 := w) w.heap.size rfl (.tmp 32) (.tmp 37) 23 33 (.agg #[(.string ⟨#[]⟩), (.int .i64 0)]) 24 rfl Tryd.underlying23 info33 rfl (by decide) (by omega) u5 x5_1 (⟨(rd_T33 l0 x9_1).f0, (rd_T33 l0 x9_1).f1⟩ : S33) [.string ((rd_T33 l0 x9_1).f0), .int .i64 ((rd_T33 l0 x9_1).f1)] (fun _ => True) (fun _ => False) rfl rfl ?aP (fun _ hk => hk.elim) ?aF ?aO ?aB ?aS ?aL ?_; (case aP => exact k33_mkM _ _ _ (⟨(rd_T33 l0 x9_1).f0, (rd_T33 l0 x9_1).f1⟩ : S33)); (case aB => exact zb); (case aF => exact (fun _ _ => trivial)); (case aO => exact (zr HO_5.out)); (case aS => exact (below_size zb)); (case aL => have := LMc13.out; omega); intro v111 w14 ho hb hg hat; rw [← Ny110.out] at ho; replace HB := zM (hb); have HO112 := zM (ho); clear HO_5; clear ho hb hg hat))
        go_roundg k1
        case measure => have := HK1.out; omega
        case rel => exact ⟨(y110), (wrap64 (x9_1 + 1)), zy, H', ⟨by have := HK1.out; omega⟩, ⟨zr HO112.out⟩, ⟨zb⟩⟩
       ·
        rw [if_neg c13] at H
        exact absurd H (by simp)
     ·
      rw [if_neg c5] at H
      exact absurd H (by simp)
    ·
     rw [if_neg c4] at H
     exact absurd H (by simp)
   ·
    rw [if_neg c3] at H
    have c3b0 : decide (x9_1 < (l0.length : Int)) = false := zR c3
    clear c3
    obtain rfl := zS H
    go_wp2
    go_ret
    exact ⟨_, zw, zr HO_5.out, zb⟩


-- ==== PF54

/-! ### aumbryref05_Fill: function 54 -/
mutual
def aumbryref05_Fill.l0 : Nat → List (S33) → List (S109) → Int → Int → Option ((List (S33)) × Int)
 | 0, _, _, _, _ => none
 | k + 1, x0, x1, x18, x19 => if x19 < x18 then (if 0 ≤ x19 then (if x19 < (x1.length : Int) then ((aumbryref03_Kind.f k ((rd_T109 x1 x19).f0)).bind fun t103 => (if t103 = 2 then ((aumbryref05_At.f k x1 ((rd_T109 x1 x19).f0)).bind fun t105 => (if t105 < x19 then (some (([] : List (S33)), 9)) else ((aumbryref04_Check.f k ((rd_T109 x1 x19).f1)).bind fun t107 => (if t107 = 0 then (aumbryref05_Fill.l0 k x0 x1 x18 (wrap64 (x19 + 1))) else (some (([] : List (S33)), t107)))))) else (some (([] : List (S33)), 4)))) else (none)) else (none)) else ((aumbryref04_Vars.f k x0).bind fun t108 => (aumbryref05_Fill.l1 k x0 x1 t108 (t108.length : Int) 0))
def aumbryref05_Fill.l1 : Nat → List (S33) → List (S109) → List ByteArray → Int → Int → Option ((List (S33)) × Int)
 | 0, _, _, _, _, _ => none
 | k + 1, x0, x1, x9, x51, x52 => if x52 < x51 then (if 0 ≤ x52 then (if x52 < (x9.length : Int) then ((aumbryref05_At.f k x1 (rdOf ByteArray.empty x9 x52)).bind fun t112 => (if t112 < 0 then (some (([] : List (S33)), 7)) else (aumbryref05_Fill.l1 k x0 x1 x9 x51 (wrap64 (x52 + 1))))) else (none)) else (none)) else ((aumbryref05_Put.f k x0 x1).bind fun t113 => (if (t113.length : Int) > 64 then (some (([] : List (S33)), 6)) else (some (t113, 0))))
end
def aumbryref05_Fill.f (k : Nat) (l0 : List (S33)) (l1 : List (S109)) : Option ((List (S33)) × Int) := (aumbryref04_Check.f k l0).bind fun t101 => (if t101 = 0 then (aumbryref05_Fill.l0 k l0 l1 (l1.length : Int) 0) else (some (([] : List (S33)), t101)))
theorem aumbryref05_Fill.mono_l : ∀ k, (∀ y0 y1 y2 y3, LeO (aumbryref05_Fill.l0 k y0 y1 y2 y3) (aumbryref05_Fill.l0 (k + 1) y0 y1 y2 y3)) ∧ (∀ y0 y1 y2 y3 y4, LeO (aumbryref05_Fill.l1 k y0 y1 y2 y3 y4) (aumbryref05_Fill.l1 (k + 1) y0 y1 y2 y3 y4))
 | 0 => ⟨fun _ _ _ _ r h => by simp [aumbryref05_Fill.l0] at h, fun _ _ _ _ _ r h => by simp [aumbryref05_Fill.l1] at h⟩
 | k + 1 => by
  obtain ⟨ih0, ih1⟩ := aumbryref05_Fill.mono_l k
  refine ⟨?_, ?_⟩
  ·
   intro y0 y1 y2 y3
   unfold aumbryref05_Fill.l0
   repeat' first
   | (with_reducible exact ih0 _ _ _ _)
   | (with_reducible exact ih1 _ _ _ _ _)
   | (with_reducible exact aumbryref03_Kind.mono _ _)
   | (with_reducible exact aumbryref04_Check.mono _ _)
   | (with_reducible exact aumbryref04_Vars.mono _ _)
   | (with_reducible exact aumbryref05_At.mono _ _ _)
   | (with_reducible exact aumbryref05_Put.mono _ _ _)
   | (with_reducible exact LeO.refl _)
   | (with_reducible exact LeO.none _)
   | (with_reducible refine LeO.ite ?_ ?_)
   | (with_reducible refine LeO.bind ?_ (fun _ => ?_))
  ·
   intro y0 y1 y2 y3 y4
   unfold aumbryref05_Fill.l1
   repeat' first
   | (with_reducible exact ih0 _ _ _ _)
   | (with_reducible exact ih1 _ _ _ _ _)
   | (with_reducible exact aumbryref03_Kind.mono _ _)
   | (with_reducible exact aumbryref04_Check.mono _ _)
   | (with_reducible exact aumbryref04_Vars.mono _ _)
   | (with_reducible exact aumbryref05_At.mono _ _ _)
   | (with_reducible exact aumbryref05_Put.mono _ _ _)
   | (with_reducible exact LeO.refl _)
   | (with_reducible exact LeO.none _)
   | (with_reducible refine LeO.ite ?_ ?_)
   | (with_reducible refine LeO.bind ?_ (fun _ => ?_))
theorem aumbryref05_Fill.mono : ∀ a0 a1 k, LeO (aumbryref05_Fill.f k a0 a1) (aumbryref05_Fill.f (k + 1) a0 a1) := by
 intro a0 a1 k
 obtain ⟨ih0, ih1⟩ := aumbryref05_Fill.mono_l k
 unfold aumbryref05_Fill.f
 repeat' first
  | (with_reducible exact ih0 _ _ _ _)
  | (with_reducible exact ih1 _ _ _ _ _)
  | (with_reducible exact aumbryref03_Kind.mono _ _)
  | (with_reducible exact aumbryref04_Check.mono _ _)
  | (with_reducible exact aumbryref04_Vars.mono _ _)
  | (with_reducible exact aumbryref05_At.mono _ _ _)
  | (with_reducible exact aumbryref05_Put.mono _ _ _)
  | (with_reducible exact LeO.refl _)
  | (with_reducible exact LeO.none _)
  | (with_reducible refine LeO.ite ?_ ?_)
  | (with_reducible refine LeO.bind ?_ (fun _ => ?_))
theorem aumbryref05_Fill.calls (k : Nat) (A0 : Option Addr) (c0 : Nat) (l0 : List (S33)) (A1 : Option Addr) (c1 : Nat) (l1 : List (S109)) (r1 : List (S33)) (r2 : Int) (w : World) (hr0 : Kd.C k33 w A0 l0.length l0) (hc0 : l0.length ≤ c0) (hr1 : Kd.C k109 w A1 l1.length l1) (hc1 : l1.length ≤ c1) (h : aumbryref05_Fill.f k l0 l1 = some (r1, r2)) :
 Calls Tryd.prog 54 #[.slice A0 l0.length c0, .slice A1 l1.length c1] w fun e w' => ∃ v0_ : Value, e = .returned (.tuple #[v0_, .int .i64 r2]) ∧ Kd.R k33 33 w' w.heap.size (fun _ => True) v0_ r1 ∧ Below w.heap.size w w' := by
 have HR0 := zM hr0
 have HC0 := zM hc0
 clear hr0 hc0
 have HR1 := zM hr1
 have HC1 := zM hc1
 clear hr1 hc1
 have HB := zM (Below.refl w.heap.size w)
 have H : ((aumbryref04_Check.f k l0).bind fun t101 => (if t101 = 0 then (aumbryref05_Fill.l0 k l0 l1 (l1.length : Int) 0) else (some (([] : List (S33)), t101)))) = some (r1, r2) := h
 clear h
 replace H := zB H
 obtain ⟨t101, A30, H⟩ := H
 try dsimp only at H
 have A3 := zM A30
 clear A30
 by_cases c4 : t101 = 0
 ·
  rw [if_pos c4] at H
  have c4b0 : (t101 == 0) = true := zG c4
  have c4b1 : (t101 != 0) = false := zH c4
  clear c4
  have H' := zM H
  clear H
  go_enter Tryd.func54, Tryd.ntmps54
  go_wp2_with (first | ((with_reducible refine gate_callee (f := 37) rfl ?_); refine goesL_ (some 13) rfl rfl Tryd.func37 (by kernel_rfl) rfl #[.slice A0 l0.length c0] rfl zl ?_; (with_reducible refine (aumbryref04_Check.calls k _ _ l0 t101 _ ?side1 ?side2 A3.out).mono ?_); (case side1 => exact Kd.C_below HR0.out zg); (case side2 => exact HC0.out); rintro e w' ⟨rfl, ⟨nd, rfl⟩⟩; refine ⟨_, rfl, ?_⟩))
  go_loopg [19] k (fun kq v19 w' => ∃ (x19_1 : Int), v19 = .int .i64 x19_1 ∧ Aside0 (aumbryref05_Fill.l0 kq l0 l1 (l1.length : Int) x19_1 = some (r1, r2)) ∧ Aside0 (kq ≤ k) ∧ Aside0 (Below w.heap.size w w'))
  case atStart => exact ⟨(0), zy, H', ⟨Nat.le_refl _⟩, ⟨zb⟩⟩
  case round =>
   clear H'
   try clear c1
   try clear p2
   try clear c3
   try clear c4
   try clear c4b0
   try clear c4b1
   obtain ⟨x19_1, rfl, HA, HK1, HB⟩ := hrel
   cases gk with
   | zero => exact absurd HA.out (by simp [aumbryref05_Fill.l0])
   | succ k1 =>
    have H := HA.out
    clear HA
    simp only [aumbryref05_Fill.l0] at H
    by_cases c5 : x19_1 < (l1.length : Int)
    ·
     rw [if_pos c5] at H
     have c5b0 : decide (x19_1 < (l1.length : Int)) = true := zQ c5
     clear c5
     by_cases c6 : 0 ≤ x19_1
     ·
      rw [if_pos c6] at H
      have c6b0 : decide (0 ≤ x19_1) = true := zQ c6
      clear c6
      by_cases c7 : x19_1 < (l1.length : Int)
      ·
       rw [if_pos c7] at H
       have c7b0 : decide (x19_1 < (l1.length : Int)) = true := zQ c7
       clear c7
       replace H := zB H
       obtain ⟨t103, A80, H⟩ := H
       try dsimp only at H
       have A8 := zM A80
       clear A80
       by_cases c9 : t103 = 2
       ·
        rw [if_pos c9] at H
        have c9b0 : (t103 == 2) = true := zG c9
        have c9b1 : (t103 != 2) = false := zH c9
        clear c9
        replace H := zB H
        obtain ⟨t105, A100, H⟩ := H
        try dsimp only at H
        have A10 := zM A100
        clear A100
        by_cases c11 : t105 < x19_1
        ·
         rw [if_pos c11] at H
         have c11b0 : decide (t105 < x19_1) = true := zQ c11
         clear c11
         simp only [Option.some.injEq, Prod.mk.injEq] at H
         obtain ⟨rfl, rfl⟩ := H
         have p102 : 0 ≤ (x19_1 : Int) := zT zv
         have q102 : x19_1 < (l1.length : Int) := zT zv
         obtain ⟨ad102, A102_1, c102_1, e102, hx102_0, hx102_1, hl102_1, hi102_1⟩ := at_T109 HR1.out x19_1 p102 q102
         cases e102
         replace hx102_0 := (HB.out.cell (World.block_lt_of_cell? w _ hx102_0)).trans hx102_0
         replace hx102_1 := (HB.out.cell (World.block_lt_of_cell? w _ hx102_1)).trans hx102_1
         have HR102_1 := zM hi102_1
         have HC102_1 := zM hl102_1
         clear hi102_1 hl102_1
         replace p102 := eq_true p102
         replace q102 := eq_true q102
         go_wp2_with (first | ((with_reducible refine gate_callee (f := 61) rfl ?_); refine goesL_ (some 27) rfl rfl Tryd.func61 (by kernel_rfl) rfl #[.string ((rd_T109 l1 x19_1).f0)] rfl zl ?_; (with_reducible refine (aumbryref03_Kind.calls k1 ((rd_T109 l1 x19_1).f0) t103 _ A8.out).mono ?_); rintro e w' ⟨rfl, ⟨nd, rfl⟩⟩; refine ⟨_, rfl, ?_⟩; have p104 : 0 ≤ (x19_1 : Int) := zT zv; have q104 : x19_1 < (l1.length : Int) := zT zv; obtain ⟨ad104, A104_1, c104_1, e104, hx104_0, hx104_1, hl104_1, hi104_1⟩ := at_T109 HR1.out x19_1 p104 q104; obtain rfl : ad102 = ad104 := (by injection e104); replace hx104_0 := (HB.out.cell (World.block_lt_of_cell? w _ hx104_0)).trans hx104_0; replace hx104_1 := (HB.out.cell (World.block_lt_of_cell? w _ hx104_1)).trans hx104_1; have HR104_1 := zM hi104_1; have HC104_1 := zM hl104_1; clear hi104_1 hl104_1; replace p104 := eq_true p104; replace q104 := eq_true q104; have ea_ := zS (hx102_1.symm.trans hx104_1); injection ea_ with ea_ en_ ec_; subst ea_; subst ec_; clear en_) | ((with_reducible refine gate_callee (f := 76) rfl ?_); refine goesL_ (some 35) rfl rfl Tryd.func76 (by kernel_rfl) rfl #[.slice (some ad102) l1.length c1, .string ((rd_T109 l1 x19_1).f0)] rfl zl ?_; (with_reducible refine (aumbryref05_At.calls k1 _ _ l1 ((rd_T109 l1 x19_1).f0) t105 _ ?side1 ?side2 A10.out).mono ?_); (case side1 => exact Kd.C_below (Kd.C_below HR1.out zb) zg); (case side2 => exact HC1.out); rintro e w' ⟨rfl, ⟨nd, rfl⟩⟩; refine ⟨_, rfl, ?_⟩))
         go_ret2
         exact ⟨_, zw, by first | exact Kd.R_nil _ _ _ _ _ | exact Kd.N_nil _ _ _ _ _ | exact Kd.V_nil _ _ _ _ _ | exact Kd.Q_nil _ _ _ _ _ | exact Kd.S_nil _ _ _ _ _, zb⟩
        ·
         rw [if_neg c11] at H
         have c11b0 : decide (t105 < x19_1) = false := zR c11
         clear c11
         replace H := zB H
         obtain ⟨t107, A120, H⟩ := H
         try dsimp only at H
         have A12 := zM A120
         clear A120
         by_cases c13 : t107 = 0
         ·
          rw [if_pos c13] at H
          have c13b0 : (t107 == 0) = true := zG c13
          have c13b1 : (t107 != 0) = false := zH c13
          clear c13
          have H' := zM H
          clear H
          have p102 : 0 ≤ (x19_1 : Int) := zT zv
          have q102 : x19_1 < (l1.length : Int) := zT zv
          obtain ⟨ad102, A102_1, c102_1, e102, hx102_0, hx102_1, hl102_1, hi102_1⟩ := at_T109 HR1.out x19_1 p102 q102
          cases e102
          replace hx102_0 := (HB.out.cell (World.block_lt_of_cell? w _ hx102_0)).trans hx102_0
          replace hx102_1 := (HB.out.cell (World.block_lt_of_cell? w _ hx102_1)).trans hx102_1
          have HR102_1 := zM hi102_1
          have HC102_1 := zM hl102_1
          clear hi102_1 hl102_1
          replace p102 := eq_true p102
          replace q102 := eq_true q102
          go_wp2_with (first | ((with_reducible refine gate_callee (f := 61) rfl ?_); refine goesL_ (some 27) rfl rfl Tryd.func61 (by kernel_rfl) rfl #[.string ((rd_T109 l1 x19_1).f0)] rfl zl ?_; (with_reducible refine (aumbryref03_Kind.calls k1 ((rd_T109 l1 x19_1).f0) t103 _ A8.out).mono ?_); rintro e w' ⟨rfl, ⟨nd, rfl⟩⟩; refine ⟨_, rfl, ?_⟩; have p104 : 0 ≤ (x19_1 : Int) := zT zv; have q104 : x19_1 < (l1.length : Int) := zT zv; obtain ⟨ad104, A104_1, c104_1, e104, hx104_0, hx104_1, hl104_1, hi104_1⟩ := at_T109 HR1.out x19_1 p104 q104; obtain rfl : ad102 = ad104 := (by injection e104); replace hx104_0 := (HB.out.cell (World.block_lt_of_cell? w _ hx104_0)).trans hx104_0; replace hx104_1 := (HB.out.cell (World.block_lt_of_cell? w _ hx104_1)).trans hx104_1; have HR104_1 := zM hi104_1; have HC104_1 := zM hl104_1; clear hi104_1 hl104_1; replace p104 := eq_true p104; replace q104 := eq_true q104; have ea_ := zS (hx102_1.symm.trans hx104_1); injection ea_ with ea_ en_ ec_; subst ea_; subst ec_; clear en_) | ((with_reducible refine gate_callee (f := 76) rfl ?_); refine goesL_ (some 35) rfl rfl Tryd.func76 (by kernel_rfl) rfl #[.slice (some ad102) l1.length c1, .string ((rd_T109 l1 x19_1).f0)] rfl zl ?_; (with_reducible refine (aumbryref05_At.calls k1 _ _ l1 ((rd_T109 l1 x19_1).f0) t105 _ ?side1 ?side2 A10.out).mono ?_); (case side1 => exact Kd.C_below (Kd.C_below HR1.out zb) zg); (case side2 => exact HC1.out); rintro e w' ⟨rfl, ⟨nd, rfl⟩⟩; refine ⟨_, rfl, ?_⟩; have p106 : 0 ≤ (x19_1 : Int) := zT zv; have q106 : x19_1 < (l1.length : Int) := zT zv; obtain ⟨ad106, A106_1, c106_1, e106, hx106_0, hx106_1, hl106_1, hi106_1⟩ := at_T109 HR1.out x19_1 p106 q106; obtain rfl : ad102 = ad106 := (by injection e106); replace hx106_0 := (HB.out.cell (World.block_lt_of_cell? w _ hx106_0)).trans hx106_0; replace hx106_1 := (HB.out.cell (World.block_lt_of_cell? w _ hx106_1)).trans hx106_1; have HR106_1 := zM hi106_1; have HC106_1 := zM hl106_1; clear hi106_1 hl106_1; replace p106 := eq_true p106; replace q106 := eq_true q106; have ea_ := zS (hx102_1.symm.trans hx106_1); injection ea_ with ea_ en_ ec_; subst ea_; subst ec_; clear en_) | ((with_reducible refine gate_callee (f := 37) rfl ?_); refine goesL_ (some 43) rfl rfl Tryd.func37 (by kernel_rfl) rfl #[.slice A102_1 ((rd_T109 l1 x19_1).f1).length c102_1] rfl zl ?_; (with_reducible refine (aumbryref04_Check.calls k1 _ _ ((rd_T109 l1 x19_1).f1) t107 _ ?side1 ?side2 A12.out).mono ?_); (case side1 => exact Kd.C_below (Kd.C_below HR106_1.out zb) zg); (case side2 => exact HC106_1.out); rintro e w' ⟨rfl, ⟨nd, rfl⟩⟩; refine ⟨_, rfl, ?_⟩))
          go_roundg k1
          case measure => have := HK1.out; omega
          case rel => exact ⟨(wrap64 (x19_1 + 1)), zy, H', ⟨by have := HK1.out; omega⟩, ⟨zb⟩⟩
         ·
          rw [if_neg c13] at H
          have c13b0 : (t107 == 0) = false := zE c13
          have c13b1 : (t107 != 0) = true := zF c13
          simp only [Option.some.injEq, Prod.mk.injEq] at H
          obtain ⟨rfl, rfl⟩ := H
          have p102 : 0 ≤ (x19_1 : Int) := zT zv
          have q102 : x19_1 < (l1.length : Int) := zT zv
          obtain ⟨ad102, A102_1, c102_1, e102, hx102_0, hx102_1, hl102_1, hi102_1⟩ := at_T109 HR1.out x19_1 p102 q102
          cases e102
          replace hx102_0 := (HB.out.cell (World.block_lt_of_cell? w _ hx102_0)).trans hx102_0
          replace hx102_1 := (HB.out.cell (World.block_lt_of_cell? w _ hx102_1)).trans hx102_1
          have HR102_1 := zM hi102_1
          have HC102_1 := zM hl102_1
          clear hi102_1 hl102_1
          replace p102 := eq_true p102
          replace q102 := eq_true q102
          go_wp2_with (first | ((with_reducible refine gate_callee (f := 61) rfl ?_); refine goesL_ (some 27) rfl rfl Tryd.func61 (by kernel_rfl) rfl #[.string ((rd_T109 l1 x19_1).f0)] rfl zl ?_; (with_reducible refine (aumbryref03_Kind.calls k1 ((rd_T109 l1 x19_1).f0) t103 _ A8.out).mono ?_); rintro e w' ⟨rfl, ⟨nd, rfl⟩⟩; refine ⟨_, rfl, ?_⟩; have p104 : 0 ≤ (x19_1 : Int) := zT zv; have q104 : x19_1 < (l1.length : Int) := zT zv; obtain ⟨ad104, A104_1, c104_1, e104, hx104_0, hx104_1, hl104_1, hi104_1⟩ := at_T109 HR1.out x19_1 p104 q104; obtain rfl : ad102 = ad104 := (by injection e104); replace hx104_0 := (HB.out.cell (World.block_lt_of_cell? w _ hx104_0)).trans hx104_0; replace hx104_1 := (HB.out.cell (World.block_lt_of_cell? w _ hx104_1)).trans hx104_1; have HR104_1 := zM hi104_1; have HC104_1 := zM hl104_1; clear hi104_1 hl104_1; replace p104 := eq_true p104; replace q104 := eq_true q104; have ea_ := zS (hx102_1.symm.trans hx104_1); injection ea_ with ea_ en_ ec_; subst ea_; subst ec_; clear en_) | ((with_reducible refine gate_callee (f := 76) rfl ?_); refine goesL_ (some 35) rfl rfl Tryd.func76 (by kernel_rfl) rfl #[.slice (some ad102) l1.length c1, .string ((rd_T109 l1 x19_1).f0)] rfl zl ?_; (with_reducible refine (aumbryref05_At.calls k1 _ _ l1 ((rd_T109 l1 x19_1).f0) t105 _ ?side1 ?side2 A10.out).mono ?_); (case side1 => exact Kd.C_below (Kd.C_below HR1.out zb) zg); (case side2 => exact HC1.out); rintro e w' ⟨rfl, ⟨nd, rfl⟩⟩; refine ⟨_, rfl, ?_⟩; have p106 : 0 ≤ (x19_1 : Int) := zT zv; have q106 : x19_1 < (l1.length : Int) := zT zv; obtain ⟨ad106, A106_1, c106_1, e106, hx106_0, hx106_1, hl106_1, hi106_1⟩ := at_T109 HR1.out x19_1 p106 q106; obtain rfl : ad102 = ad106 := (by injection e106); replace hx106_0 := (HB.out.cell (World.block_lt_of_cell? w _ hx106_0)).trans hx106_0; replace hx106_1 := (HB.out.cell (World.block_lt_of_cell? w _ hx106_1)).trans hx106_1; have HR106_1 := zM hi106_1; have HC106_1 := zM hl106_1; clear hi106_1 hl106_1; replace p106 := eq_true p106; replace q106 := eq_true q106; have ea_ := zS (hx102_1.symm.trans hx106_1); injection ea_ with ea_ en_ ec_; subst ea_; subst ec_; clear en_) | ((with_reducible refine gate_callee (f := 37) rfl ?_); refine goesL_ (some 43) rfl rfl Tryd.func37 (by kernel_rfl) rfl #[.slice A102_1 ((rd_T109 l1 x19_1).f1).length c102_1] rfl zl ?_; (with_reducible refine (aumbryref04_Check.calls k1 _ _ ((rd_T109 l1 x19_1).f1) t107 _ ?side1 ?side2 A12.out).mono ?_); (case side1 => exact Kd.C_below (Kd.C_below HR106_1.out zb) zg); (case side2 => exact HC106_1.out); rintro e w' ⟨rfl, ⟨nd, rfl⟩⟩; refine ⟨_, rfl, ?_⟩))
          go_ret2
          exact ⟨_, zw, by first | exact Kd.R_nil _ _ _ _ _ | exact Kd.N_nil _ _ _ _ _ | exact Kd.V_nil _ _ _ _ _ | exact Kd.Q_nil _ _ _ _ _ | exact Kd.S_nil _ _ _ _ _, zb⟩
       ·
        rw [if_neg c9] at H
        have c9b0 : (t103 == 2) = false := zE c9
        have c9b1 : (t103 != 2) = true := zF c9
        simp only [Option.some.injEq, Prod.mk.injEq] at H
        obtain ⟨rfl, rfl⟩ := H
        have p102 : 0 ≤ (x19_1 : Int) := zT zv
        have q102 : x19_1 < (l1.length : Int) := zT zv
        obtain ⟨ad102, A102_1, c102_1, e102, hx102_0, hx102_1, hl102_1, hi102_1⟩ := at_T109 HR1.out x19_1 p102 q102
        cases e102
        replace hx102_0 := (HB.out.cell (World.block_lt_of_cell? w _ hx102_0)).trans hx102_0
        replace hx102_1 := (HB.out.cell (World.block_lt_of_cell? w _ hx102_1)).trans hx102_1
        have HR102_1 := zM hi102_1
        have HC102_1 := zM hl102_1
        clear hi102_1 hl102_1
        replace p102 := eq_true p102
        replace q102 := eq_true q102
        go_wp2_with (first | ((with_reducible refine gate_callee (f := 61) rfl ?_); refine goesL_ (some 27) rfl rfl Tryd.func61 (by kernel_rfl) rfl #[.string ((rd_T109 l1 x19_1).f0)] rfl zl ?_; (with_reducible refine (aumbryref03_Kind.calls k1 ((rd_T109 l1 x19_1).f0) t103 _ A8.out).mono ?_); rintro e w' ⟨rfl, ⟨nd, rfl⟩⟩; refine ⟨_, rfl, ?_⟩))
        go_ret2
        exact ⟨_, zw, by first | exact Kd.R_nil _ _ _ _ _ | exact Kd.N_nil _ _ _ _ _ | exact Kd.V_nil _ _ _ _ _ | exact Kd.Q_nil _ _ _ _ _ | exact Kd.S_nil _ _ _ _ _, zb⟩
      ·
       rw [if_neg c7] at H
       exact absurd H (by simp)
     ·
      rw [if_neg c6] at H
      exact absurd H (by simp)
    ·
     rw [if_neg c5] at H
     have c5b0 : decide (x19_1 < (l1.length : Int)) = false := zR c5
     clear c5
     replace H := zB H
     obtain ⟨t108, A140, H⟩ := H
     try dsimp only at H
     have A14 := zM A140
     clear A140
     have H' := zM H
     clear H
     go_wp2_with (first | ((with_reducible refine gate_callee (f := 39) rfl ?_); refine goesL_ (some 49) rfl rfl Tryd.func39 (by kernel_rfl) rfl #[.slice A0 l0.length c0] rfl zl ?_; (with_reducible refine (aumbryref04_Vars.calls k1 _ _ l0 t108 _ ?side1 ?side2 A14.out).mono ?_); (case side1 => exact Kd.C_below HR0.out zb); (case side2 => exact HC0.out); rintro e w15 ⟨v109, rfl, ho0, hb⟩; refine ⟨_, rfl, ?_⟩; have HO110 := zM (Kd.R_lower ho0 (below_size zb)); replace HB := zM (below_step zb hb); (try clear hb); (try clear ho0); obtain ⟨Ao16, co16, eo16⟩ := Kd.R_slice HO110.out; subst eo16))
     go_loopg [52] k1 (fun kq v52 w' => ∃ (x52_2 : Int), v52 = .int .i64 x52_2 ∧ Aside0 (aumbryref05_Fill.l1 kq l0 l1 t108 (t108.length : Int) x52_2 = some (r1, r2)) ∧ Aside0 (kq ≤ k1) ∧ Aside0 (Kd.R Kd.string 9 w' w.heap.size (fun _ => True) (.slice Ao16 t108.length co16) t108) ∧ Aside0 (Below w.heap.size w w'))
     case atStart => exact ⟨(0), zy, H', ⟨Nat.le_refl _⟩, ⟨zr HO110.out⟩, ⟨zb⟩⟩
     case round =>
      clear H'
      try clear c1
      try clear p1
      try clear q1
      try clear hx1
      try clear p2
      try clear c3
      try clear c4
      try clear c4b0
      try clear c4b1
      try clear c5
      try clear c5b0
      try clear c6
      try clear c6b0
      try clear p6
      try clear c7
      try clear c7b0
      try clear c9
      try clear c9b0
      try clear c9b1
      try clear c10
      try clear p10
      try clear q10
      try clear hx10
      try clear c11
      try clear c11b0
      try clear c13
      try clear c13b0
      try clear c13b1
      try clear hx102_0
      try clear hx102_1
      try clear hx104_0
      try clear hx104_1
      try clear hx106_0
      try clear hx106_1
      try clear p102
      try clear p104
      try clear p106
      try clear p2
      try clear q102
      try clear q104
      try clear q106
      obtain ⟨x52_2, rfl, HA, HK2, HO_9, HB⟩ := hrel
      cases gk with
      | zero => exact absurd HA.out (by simp [aumbryref05_Fill.l1])
      | succ k2 =>
       have H := HA.out
       clear HA
       simp only [aumbryref05_Fill.l1] at H
       by_cases c17 : x52_2 < (t108.length : Int)
       ·
        rw [if_pos c17] at H
        have c17b0 : decide (x52_2 < (t108.length : Int)) = true := zQ c17
        clear c17
        by_cases c18 : 0 ≤ x52_2
        ·
         rw [if_pos c18] at H
         have c18b0 : decide (0 ≤ x52_2) = true := zQ c18
         clear c18
         by_cases c19 : x52_2 < (t108.length : Int)
         ·
          rw [if_pos c19] at H
          have c19b0 : decide (x52_2 < (t108.length : Int)) = true := zQ c19
          clear c19
          replace H := zB H
          obtain ⟨t112, A200, H⟩ := H
          try dsimp only at H
          have A20 := zM A200
          clear A200
          by_cases c21 : t112 < 0
          ·
           rw [if_pos c21] at H
           have c21b0 : decide (t112 < 0) = true := zQ c21
           clear c21
           simp only [Option.some.injEq, Prod.mk.injEq] at H
           obtain ⟨rfl, rfl⟩ := H
           have p111 : 0 ≤ (x52_2 : Int) := zT zv
           have q111 : x52_2 < (t108.length : Int) := zT zv
           obtain ⟨ad111, e111, hx111_0⟩ := Kd.at_string (Kd.R_reads' HO_9.out).2.2 x52_2 p111 q111
           cases e111
           replace p111 := eq_true p111
           replace q111 := eq_true q111
           go_wp2_with (first | ((with_reducible refine gate_callee (f := 76) rfl ?_); refine goesL_ (some 60) rfl rfl Tryd.func76 (by kernel_rfl) rfl #[.slice A1 l1.length c1, .string (rdOf ByteArray.empty t108 x52_2)] rfl zl ?_; (with_reducible refine (aumbryref05_At.calls k2 _ _ l1 (rdOf ByteArray.empty t108 x52_2) t112 _ ?side1 ?side2 A20.out).mono ?_); (case side1 => exact Kd.C_below HR1.out zb); (case side2 => exact HC1.out); rintro e w' ⟨rfl, ⟨nd, rfl⟩⟩; refine ⟨_, rfl, ?_⟩))
           go_ret2
           exact ⟨_, zw, by first | exact Kd.R_nil _ _ _ _ _ | exact Kd.N_nil _ _ _ _ _ | exact Kd.V_nil _ _ _ _ _ | exact Kd.Q_nil _ _ _ _ _ | exact Kd.S_nil _ _ _ _ _, zb⟩
          ·
           rw [if_neg c21] at H
           have c21b0 : decide (t112 < 0) = false := zR c21
           clear c21
           have H' := zM H
           clear H
           have p111 : 0 ≤ (x52_2 : Int) := zT zv
           have q111 : x52_2 < (t108.length : Int) := zT zv
           obtain ⟨ad111, e111, hx111_0⟩ := Kd.at_string (Kd.R_reads' HO_9.out).2.2 x52_2 p111 q111
           cases e111
           replace p111 := eq_true p111
           replace q111 := eq_true q111
           go_wp2_with (first | ((with_reducible refine gate_callee (f := 76) rfl ?_); refine goesL_ (some 60) rfl rfl Tryd.func76 (by kernel_rfl) rfl #[.slice A1 l1.length c1, .string (rdOf ByteArray.empty t108 x52_2)] rfl zl ?_; (with_reducible refine (aumbryref05_At.calls k2 _ _ l1 (rdOf ByteArray.empty t108 x52_2) t112 _ ?side1 ?side2 A20.out).mono ?_); (case side1 => exact Kd.C_below HR1.out zb); (case side2 => exact HC1.out); rintro e w' ⟨rfl, ⟨nd, rfl⟩⟩; refine ⟨_, rfl, ?_⟩))
           go_roundg k2
           case measure => have := HK1.out; have := HK2.out; omega
           case rel => exact ⟨(wrap64 (x52_2 + 1)), zy, H', ⟨by have := HK1.out; have := HK2.out; omega⟩, ⟨zr HO_9.out⟩, ⟨zb⟩⟩
         ·
          rw [if_neg c19] at H
          exact absurd H (by simp)
        ·
         rw [if_neg c18] at H
         exact absurd H (by simp)
       ·
        rw [if_neg c17] at H
        have c17b0 : decide (x52_2 < (t108.length : Int)) = false := zR c17
        clear c17
        replace H := zB H
        obtain ⟨t113, A220, H⟩ := H
        try dsimp only at H
        have A22 := zM A220
        clear A220
        by_cases c23 : (t113.length : Int) > 64
        ·
         rw [if_pos c23] at H
         have c23b0 : decide (64 < (t113.length : Int)) = true := zQ c23
         have c23b1 : decide (64 < t113.length) = true := zQ (by omega)
         clear c23
         simp only [Option.some.injEq, Prod.mk.injEq] at H
         obtain ⟨rfl, rfl⟩ := H
         go_wp2_with (first | ((with_reducible refine gate_callee (f := 77) rfl ?_); refine goesL_ (some 65) rfl rfl Tryd.func77 (by kernel_rfl) rfl #[.slice A0 l0.length c0, .slice A1 l1.length c1] rfl zl ?_; (with_reducible refine (aumbryref05_Put.calls k2 _ _ l0 _ _ l1 t113 _ ?side1 ?side2 ?side3 ?side4 A22.out).mono ?_); (case side1 => exact Kd.C_below HR0.out zb); (case side2 => exact HC0.out); (case side3 => exact Kd.C_below HR1.out zb); (case side4 => exact HC1.out); rintro e w24 ⟨v114, rfl, ho0, hb⟩; refine ⟨_, rfl, ?_⟩; replace HO_9 := zM (Kd.R_below (zr HO_9.out) hb); have HO115 := zM (Kd.R_lower ho0 (below_size zb)); replace HB := zM (below_step zb hb); (try clear hb); (try clear ho0); obtain ⟨Ao25, co25, eo25⟩ := Kd.R_slice HO115.out; subst eo25))
         go_ret2
         exact ⟨_, zw, by first | exact Kd.R_nil _ _ _ _ _ | exact Kd.N_nil _ _ _ _ _ | exact Kd.V_nil _ _ _ _ _ | exact Kd.Q_nil _ _ _ _ _ | exact Kd.S_nil _ _ _ _ _, zb⟩
        ·
         rw [if_neg c23] at H
         have c23b0 : decide (64 < (t113.length : Int)) = false := zR c23
         have c23b1 : decide (64 < t113.length) = false := zR (by omega)
         clear c23
         simp only [Option.some.injEq, Prod.mk.injEq] at H
         obtain ⟨rfl, rfl⟩ := H
         go_wp2_with (first | ((with_reducible refine gate_callee (f := 77) rfl ?_); refine goesL_ (some 65) rfl rfl Tryd.func77 (by kernel_rfl) rfl #[.slice A0 l0.length c0, .slice A1 l1.length c1] rfl zl ?_; (with_reducible refine (aumbryref05_Put.calls k2 _ _ l0 _ _ l1 t113 _ ?side1 ?side2 ?side3 ?side4 A22.out).mono ?_); (case side1 => exact Kd.C_below HR0.out zb); (case side2 => exact HC0.out); (case side3 => exact Kd.C_below HR1.out zb); (case side4 => exact HC1.out); rintro e w26 ⟨v114, rfl, ho0, hb⟩; refine ⟨_, rfl, ?_⟩; replace HO_9 := zM (Kd.R_below (zr HO_9.out) hb); have HO115 := zM (Kd.R_lower ho0 (below_size zb)); replace HB := zM (below_step zb hb); (try clear hb); (try clear ho0); obtain ⟨Ao27, co27, eo27⟩ := Kd.R_slice HO115.out; subst eo27))
         go_ret2
         exact ⟨_, zw, zr HO115.out, zb⟩
 ·
  rw [if_neg c4] at H
  have c4b0 : (t101 == 0) = false := zE c4
  have c4b1 : (t101 != 0) = true := zF c4
  simp only [Option.some.injEq, Prod.mk.injEq] at H
  obtain ⟨rfl, rfl⟩ := H
  go_enter Tryd.func54, Tryd.ntmps54
  go_wp2_with (first | ((with_reducible refine gate_callee (f := 37) rfl ?_); refine goesL_ (some 13) rfl rfl Tryd.func37 (by kernel_rfl) rfl #[.slice A0 l0.length c0] rfl zl ?_; (with_reducible refine (aumbryref04_Check.calls k _ _ l0 t101 _ ?side1 ?side2 A3.out).mono ?_); (case side1 => exact Kd.C_below HR0.out zg); (case side2 => exact HC0.out); rintro e w' ⟨rfl, ⟨nd, rfl⟩⟩; refine ⟨_, rfl, ?_⟩))
  go_ret2
  exact ⟨_, zw, by first | exact Kd.R_nil _ _ _ _ _ | exact Kd.N_nil _ _ _ _ _ | exact Kd.V_nil _ _ _ _ _ | exact Kd.Q_nil _ _ _ _ _ | exact Kd.S_nil _ _ _ _ _, zb⟩

end Go.Proofs.YtpnamhplhdaphaaDoor.P

-- ==== PQf
/- Plain laws, part f: what a pattern becomes by binds: the program's Fill is the document's. -/
namespace Go.Proofs.YtpnamhplhdaphaaDoor.P.M
open Go.RowKit Go.Proofs.YtpnamhplhdaphaaDoorW.PrintWords
set_option linter.unusedVariables false
set_option linter.unusedSimpArgs false

def bErr : List Bnd → List Bnd → Int
 | _, [] => 0
 | seen, b :: u => if kindS b.f0 = 2 then (if (lookB seen b.f0).isSome = true then 9 else if checkS b.f1 = 0 then bErr (seen ++ [b]) u else checkS b.f1) else 4
def putS : List Cel → List Bnd → Option (List Cel)
 | [], _ => some []
 | c :: p, l => if kindS c.f0 = 2 then (match lookB l c.f0 with | none => none | some v => (putS p l).map (v ++ ·)) else (putS p l).map (c :: ·)
def putR (x : Option (List Cel)) : List Cel × Int := match x with
 | none => ([], 7)
 | some o => if o.length > 64 then ([], 6) else (o, 0)
def fillS (p : List Cel) (l : List Bnd) : List Cel × Int := if checkS p = 0 then (if bErr [] l = 0 then putR (putS p l) else ([], bErr [] l)) else ([], checkS p)

theorem lookB_mem {l : List Bnd} {s : ByteArray} {v : List Cel} (h : lookB l s = some v) : ∃ b ∈ l, b.f0 = s ∧ b.f1 = v := by
 unfold lookB at h
 cases hf : l.find? (fun b => decide (b.f0 = s)) with
 | none => rw [hf] at h; cases h
 | some b =>
  rw [hf] at h
  exact ⟨b, List.mem_of_find?_eq_some hf, by simpa using List.find?_some hf, by simpa using h⟩

/-! ### the program's -/
theorem ev_fill2 (p : List Cel) (l : List Bnd) (m : List Cel) (hp : p.length ≤ 64) (hok : ∀ c ∈ p, Okc c) (hm : MapOk m l) (hv : ∀ b ∈ l, b.f1.length ≤ 64) (hl : l.length ≤ 9223372036854775806) :
 ∀ (s : List Cel) (i : Nat) (out : List Cel), i ≤ p.length → p.drop i = s → out.length ≤ 64 * i → Ev (fun k => match_Fill.l1 k l m out p (p.length : Int) (i : Int)) (putR ((putS s l).map (out ++ ·)))
 | [], i, out, hi, hs, ho => by
  have h1 := drop_nil_len hi hs
  refine Ev.step (fun k => (show match_Fill.l1 (k + 1) l m out p (p.length : Int) (i : Int) = _ from by rw [match_Fill.l1])) ?_
  refine evIfn (by omega) ?_
  simp only [putS, Option.map_some, List.append_nil, putR]
  by_cases h : out.length > 64
  ·
   rw [if_pos h]
   exact evIfp (by omega) (Ev.now _)
  ·
   rw [if_neg h]
   exact evIfn (by omega) (Ev.now _)
 | c :: s, i, out, hi, hs, ho => by
  obtain ⟨h1, _, h3⟩ := drop_cons hs
  have hc : Okc c := hok c (List.mem_of_mem_drop (hs ▸ List.mem_cons_self ..))
  have hks := kindS_size hc.kind
  refine Ev.step (fun k => (show match_Fill.l1 (k + 1) l m out p (p.length : Int) (i : Int) = _ from by rw [match_Fill.l1])) ?_
  refine evIfp (by omega) (evIfp (by omega) (evIfp (by omega) ?_))
  simp only [rd_cel hs, up_cast i (by omega)]
  refine evIfp (by omega) ?_
  refine Ev.bind (ev_variable c) ?_
  by_cases hk : kindS c.f0 = 2
  ·
   refine evIfp (by simp [hk]) ?_
   cases hlk : lookB l c.f0 with
   | none =>
    refine evIfn (by rw [hm.has, hlk]; simp) ?_
    have : putS (c :: s) l = none := by simp only [putS, hk, if_true, hlk]
    rw [this]
    exact Ev.now _
   | some v =>
    obtain ⟨j, hj1, hj2, b, hj3, hj4⟩ := hm.at_ _ _ hlk
    have hrd : (rd_T109 l (mapAt m c.f0)).f1 = v := by
     rw [hj1]
     unfold rd_T109
     rw [List.getD_eq_getElem?_getD, Int.toNat_natCast, hj3]
     exact hj4
    obtain ⟨b', hb', _, hb2⟩ := lookB_mem hlk
    have hvl : v.length ≤ 64 := by rw [← hb2]; exact hv b' hb'
    refine evIfp (by rw [hm.has, hlk]; simp) ?_
    refine evIfp (by omega) (evIfp (by omega) ?_)
    simp only [hrd]
    refine evIfp (by omega) ?_
    have := ev_fill2 p l m hp hok hm hv hl s (i + 1) (out ++ v) (by omega) h3 (by simp; omega)
    have e : (putS (c :: s) l).map (out ++ ·) = (putS s l).map (out ++ v ++ ·) := by
     simp only [putS, hk, if_true, hlk, Option.map_map]
     congr 1
     funext x
     simp
    rw [e]
    exact this
  ·
   refine evIfn (by simp [hk]) ?_
   refine evIfp (by omega) ?_
   have := ev_fill2 p l m hp hok hm hv hl s (i + 1) (out ++ [c]) (by omega) h3 (by simp; omega)
   have e : (putS (c :: s) l).map (out ++ ·) = (putS s l).map (out ++ [c] ++ ·) := by
    simp only [putS, hk, if_false, Option.map_map]
    congr 1
    funext x
    simp
   rw [e]
   exact this
theorem ev_fill1 (p : List Cel) (l : List Bnd) (hp : p.length ≤ 64) (hok : ∀ c ∈ p, Okc c) (hl : l.length ≤ 9223372036854775806) :
 ∀ (u : List Bnd) (i : Nat) (m : List Cel), i ≤ l.length → l.drop i = u → MapOk m (l.take i) → (∀ b ∈ l.take i, b.f1.length ≤ 64) →
 Ev (fun k => match_Fill.l0 k p l m l (l.length : Int) (i : Int)) (if bErr (l.take i) u = 0 then putR (putS p l) else ([], bErr (l.take i) u))
 | [], i, m, hi, hu, hm, hv => by
  have h1 := drop_nil_len hi hu
  refine Ev.step (fun k => (show match_Fill.l0 (k + 1) p l m l (l.length : Int) (i : Int) = _ from by rw [match_Fill.l0])) ?_
  refine evIfn (by omega) ?_
  rw [h1, List.take_length] at hm hv
  have := ev_fill2 p l m hp hok hm hv hl p 0 [] (by omega) rfl (by simp)
  simp only [bErr, if_true]
  have e : (putS p l).map (([] : List Cel) ++ ·) = putS p l := by cases putS p l <;> rfl
  rw [e] at this
  exact this
 | b :: u, i, m, hi, hu, hm, hv => by
  obtain ⟨h1, h2, h3⟩ := drop_cons hu
  have htk : l.take (i + 1) = l.take i ++ [b] := by
   rw [List.take_succ_eq_append_getElem h1]
   have := h2 b
   rw [List.getD_eq_getElem?_getD, List.getElem?_eq_getElem h1] at this
   rw [show l[i] = b from this]
  have hln : (l.take i).length = i := by rw [List.length_take]; omega
  have hml := hm.len
  refine Ev.step (fun k => (show match_Fill.l0 (k + 1) p l m l (l.length : Int) (i : Int) = _ from by rw [match_Fill.l0])) ?_
  refine evIfp (by omega) (evIfp (by omega) (evIfp (by omega) ?_))
  simp only [rd_bnd hu, up_cast i (by omega)]
  refine Ev.bind (ev_kind b.f0) ?_
  by_cases hk : kindS b.f0 = 2
  ·
   have hks := kindS_size (s := b.f0) (by rw [hk]; decide)
   refine evIfp hk (evIfp (by omega) ?_)
   by_cases hh : (lookB (l.take i) b.f0).isSome = true
   ·
    refine evIfp (by rw [hm.has]; exact hh) ?_
    simp only [bErr, hk, if_true, hh]
    exact Ev.now _
   ·
    refine evIfn (by rw [hm.has]; exact hh) ?_
    refine Ev.bind (ev_check b.f1) ?_
    by_cases hc : checkS b.f1 = 0
    ·
     refine evIfp hc (evIfp (by omega) ?_)
     have hlk : lookB (l.take i) b.f0 = none := by
      cases hq : lookB (l.take i) b.f0 with
      | none => rfl
      | some v => rw [hq] at hh; exact absurd rfl hh
     have hm' : MapOk (mapPut m b.f0 (i : Int)) (l.take (i + 1)) := by
      have := mapOk_put hm b.f0 b.f1 hlk
      rw [hln] at this
      rw [htk]
      exact this
     have := ev_fill1 p l hp hok hl u (i + 1) (mapPut m b.f0 (i : Int)) (by omega) h3 hm' (fun x hx => by
      rw [htk] at hx
      rcases List.mem_append.1 hx with hx | hx
      ·
       exact hv x hx
      ·
       rw [List.mem_singleton.1 hx]
       exact (checkS_ok hc).1)
     have e : bErr (l.take i) (b :: u) = bErr (l.take (i + 1)) u := by
      simp only [bErr, hk, if_true, hh, hc, htk]
      simp
     rw [e]
     exact this
    ·
     refine evIfn hc ?_
     have e : bErr (l.take i) (b :: u) = checkS b.f1 := by
      simp only [bErr, hk, if_true, hh, hc, if_false]
      simp
     rw [e, if_neg hc]
     exact Ev.now _
  ·
   refine evIfn hk ?_
   simp only [bErr, hk, if_false]
   exact Ev.now _
theorem ev_fill (p : List Cel) (l : List Bnd) (hl : l.length ≤ 9223372036854775806) : Ev (fun k => match_Fill.f k p l) (fillS p l) := by
 unfold match_Fill.f fillS
 refine Ev.bind (ev_check p) ?_
 by_cases hp : checkS p = 0
 ·
  obtain ⟨p1, p2, _⟩ := checkS_ok hp
  rw [if_pos hp]
  refine evIfp hp ?_
  have := ev_fill1 p l p1 p2 hl l 0 [] (by omega) rfl mapOk_nil (fun b hb => by simp at hb)
  simp only [List.take_zero] at this
  exact this
 ·
  rw [if_neg hp]
  exact evIfn hp (Ev.now _)

/-! ### the document's -/
instance decMemB (c : ByteArray) (l : List ByteArray) : Decidable (c ∈ l) := decidable_of_iff (l.any (fun x => decide (x = c)) = true) (by simp)
def varsS : List Cel → List ByteArray → List ByteArray
 | [], acc => acc
 | c :: p, acc => if kindS c.f0 = 2 then (if c.f0 ∈ acc then varsS p acc else varsS p (acc ++ [c.f0])) else varsS p acc
theorem fillS_small (p : List Cel) (l : List Bnd) : (fillS p l).1.length ≤ 64 := by
 unfold fillS
 split
 ·
  split
  ·
   unfold putR
   split
   ·
    simp
   ·
    split
    ·
     simp
    ·
     next h => exact Nat.le_of_not_gt h
  ·
   simp
 ·
  simp

/-! ### copies of binds -/
end Go.Proofs.YtpnamhplhdaphaaDoor.P.M

-- ==== PF24
namespace Go.Proofs.YtpnamhplhdaphaaDoor.P
open Go.RowKit Go.Proofs.YtpnamhplhdaphaaDoorW.PrintWords Go.Proofs.YtpnamhplhdaphaaDoorW.PrintLast Go.Proofs.YtpnamhplhdaphaaDoorW.PrintMore
attribute [local go_sem] max2_int min2_int max_two min_two max_three min_three max_four min_four   -- for this text's walks alone
set_option linter.unusedVariables false
set_option linter.unusedSimpArgs false

/-! ### aumbryref06_Apply: function 24 -/
def aumbryref06_Apply.f (k : Nat) (a0_0 : Int) (l0_1 : List (S33)) (l0_2 : List (S33)) (l1 : List (S33)) : Option ((List (S33)) × Bool × Int) := (aumbryref06_Check.f k a0_0 l0_1 l0_2).bind fun t102 => (if t102 = 0 then ((aumbryref05_Match.f k l0_1 l1).bind fun bt103 => (if bt103.2.2 = 0 then (if bt103.2.1 = true then ((aumbryref05_Fill.f k l0_2 bt103.1).bind fun bt108 => (some (bt108.1, (bt108.2 == 0), bt108.2))) else (some (([] : List (S33)), false, bt103.2.2))) else (some (([] : List (S33)), false, bt103.2.2)))) else (some (([] : List (S33)), false, t102)))
theorem aumbryref06_Apply.mono : ∀ a0 a1 a2 a3 k, LeO (aumbryref06_Apply.f k a0 a1 a2 a3) (aumbryref06_Apply.f (k + 1) a0 a1 a2 a3) := by
 intro a0 a1 a2 a3 k
 unfold aumbryref06_Apply.f
 repeat' first
  | (with_reducible exact aumbryref05_Fill.mono _ _ _)
  | (with_reducible exact aumbryref05_Match.mono _ _ _)
  | (with_reducible exact aumbryref06_Check.mono _ _ _ _)
  | (with_reducible exact LeO.refl _)
  | (with_reducible exact LeO.none _)
  | (with_reducible refine LeO.ite ?_ ?_)
  | (with_reducible refine LeO.bind ?_ (fun _ => ?_))
theorem aumbryref06_Apply.calls (k : Nat) (a0_0 : Int) (A0_1 : Option Addr) (c0_1 : Nat) (l0_1 : List (S33)) (A0_2 : Option Addr) (c0_2 : Nat) (l0_2 : List (S33)) (A1 : Option Addr) (c1 : Nat) (l1 : List (S33)) (r1 : List (S33)) (r2 : Bool) (r3 : Int) (w : World) (hr0_1 : Kd.C k33 w A0_1 l0_1.length l0_1) (hc0_1 : l0_1.length ≤ c0_1) (hr0_2 : Kd.C k33 w A0_2 l0_2.length l0_2) (hc0_2 : l0_2.length ≤ c0_2) (hr1 : Kd.C k33 w A1 l1.length l1) (hc1 : l1.length ≤ c1) (h : aumbryref06_Apply.f k a0_0 l0_1 l0_2 l1 = some (r1, r2, r3)) :
 Calls Tryd.prog 24 #[.agg #[.int .i64 a0_0, .slice A0_1 l0_1.length c0_1, .slice A0_2 l0_2.length c0_2], .slice A1 l1.length c1] w fun e w' => ∃ v0_ : Value, e = .returned (.tuple #[v0_, .bool r2, .int .i64 r3]) ∧ Kd.R k33 33 w' w.heap.size (fun _ => True) v0_ r1 ∧ Below w.heap.size w w' := by
 have hu25 := Tryd.underlying25
 have HR0_1 := zM hr0_1
 have HC0_1 := zM hc0_1
 clear hr0_1 hc0_1
 have HR0_2 := zM hr0_2
 have HC0_2 := zM hc0_2
 clear hr0_2 hc0_2
 have HR1 := zM hr1
 have HC1 := zM hc1
 clear hr1 hc1
 have HB := zM (Below.refl w.heap.size w)
 have H : ((aumbryref06_Check.f k a0_0 l0_1 l0_2).bind fun t102 => (if t102 = 0 then ((aumbryref05_Match.f k l0_1 l1).bind fun bt103 => (if bt103.2.2 = 0 then (if bt103.2.1 = true then ((aumbryref05_Fill.f k l0_2 bt103.1).bind fun bt108 => (some (bt108.1, (bt108.2 == 0), bt108.2))) else (some (([] : List (S33)), false, bt103.2.2))) else (some (([] : List (S33)), false, bt103.2.2)))) else (some (([] : List (S33)), false, t102)))) = some (r1, r2, r3) := h
 clear h
 replace H := zB H
 obtain ⟨t102, A30, H⟩ := H
 try dsimp only at H
 have A3 := zM A30
 clear A30
 by_cases c4 : t102 = 0
 ·
  rw [if_pos c4] at H
  have c4b0 : (t102 == 0) = true := zG c4
  have c4b1 : (t102 != 0) = false := zH c4
  clear c4
  replace H := zB H
  obtain ⟨⟨t103, t104, t105⟩, A50, H⟩ := H
  try dsimp only at H
  have A5 := zM A50
  clear A50
  by_cases c6 : t105 = 0
  ·
   rw [if_pos c6] at H
   have c6b0 : (t105 == 0) = true := zG c6
   have c6b1 : (t105 != 0) = false := zH c6
   clear c6
   by_cases c7 : t104 = true
   ·
    subst c7
    rw [if_pos rfl] at H
    replace H := zB H
    obtain ⟨⟨t108, t109⟩, A80, H⟩ := H
    try dsimp only at H
    have A8 := zM A80
    clear A80
    simp only [Option.some.injEq, Prod.mk.injEq] at H
    obtain ⟨rfl, rfl, rfl⟩ := H
    go_enter Tryd.func24, Tryd.ntmps24
    go_wp2_with (first | ((with_reducible refine gate_dst (N := 2) rfl ?_); refine box_event ?hg (N := 2) ?hd (cs := #[.int .i64 a0_0, .slice A0_1 l0_1.length c0_1, .slice A0_2 l0_2.length c0_2]) (t := 25) ?hr ?_; (case hd => rfl); (case hg => rfl); (case hr => first | (go_simp; done) | (go_simp; rfl)); intro gb101 hg w9 hbox hb; have BK101 := zM (hbox); have GW101 := zM (zh hg : w.heap.size ≤ gb101); have GE101 := zM (zh hg : w.heap.size ≤ gb101); replace HB := zM (below_step zb hb); clear hb hbox hg; have hcz10_0 : w9.cell? ⟨gb101, 0, none⟩ = some (.int .i64 a0_0) := (zX BK101.out 0).trans rfl; have hcz10_1 : w9.cell? ⟨gb101, 1, none⟩ = some (.slice A0_1 l0_1.length c0_1) := (zX BK101.out 1).trans rfl; have hcz10_2 : w9.cell? ⟨gb101, 2, none⟩ = some (.slice A0_2 l0_2.length c0_2) := (zX BK101.out 2).trans rfl; have hfz10_0 := zY BK101.out 0; have hfz10_1 := zY BK101.out 1; have hfz10_2 := zY BK101.out 2) | ((with_reducible refine gate_callee (f := 13) rfl ?_); refine goesL_ (some 14) rfl rfl Tryd.func13 (by kernel_rfl) rfl #[.agg #[.int .i64 a0_0, .slice A0_1 l0_1.length c0_1, .slice A0_2 l0_2.length c0_2]] rfl zl ?_; (with_reducible refine (aumbryref06_Check.calls k a0_0 _ _ l0_1 _ _ l0_2 t102 _ ?side1 ?side2 ?side3 ?side4 A3.out).mono ?_); (case side1 => exact Kd.C_below HR0_1.out zb); (case side2 => exact HC0_1.out); (case side3 => exact Kd.C_below HR0_2.out zb); (case side4 => exact HC0_2.out); rintro e w11 ⟨rfl, hb⟩; refine ⟨_, rfl, ?_⟩; replace BK101 := zM (blk_below (zk BK101.out) hb); replace HB := zM (below_step zb hb); (try clear hb); have hcz12_0 : w11.cell? ⟨gb101, 0, none⟩ = some (.int .i64 a0_0) := (zX BK101.out 0).trans rfl; have hcz12_1 : w11.cell? ⟨gb101, 1, none⟩ = some (.slice A0_1 l0_1.length c0_1) := (zX BK101.out 1).trans rfl; have hcz12_2 : w11.cell? ⟨gb101, 2, none⟩ = some (.slice A0_2 l0_2.length c0_2) := (zX BK101.out 2).trans rfl; have hfz12_0 := zY BK101.out 0; have hfz12_1 := zY BK101.out 1; have hfz12_2 := zY BK101.out 2) | ((with_reducible refine gate_callee (f := 53) rfl ?_); refine goesL_ (some 22) rfl rfl Tryd.func53 (by kernel_rfl) rfl #[.slice A0_1 l0_1.length c0_1, .slice A1 l1.length c1] rfl zl ?_; (with_reducible refine (aumbryref05_Match.calls k _ _ l0_1 _ _ l1 t103 true t105 _ ?side1 ?side2 ?side3 ?side4 A5.out).mono ?_); (case side1 => exact Kd.C_below HR0_1.out zb); (case side2 => exact HC0_1.out); (case side3 => exact Kd.C_below HR1.out zb); (case side4 => exact HC1.out); rintro e w13 ⟨v106, rfl, ho0, hb⟩; refine ⟨_, rfl, ?_⟩; have HO107 := zM (Kd.S_lower ho0 (below_size zb)); replace BK101 := zM (blk_below (zk BK101.out) hb); replace HB := zM (below_step zb hb); (try clear hb); (try clear ho0); have hcz14_0 : w13.cell? ⟨gb101, 0, none⟩ = some (.int .i64 a0_0) := (zX BK101.out 0).trans rfl; have hcz14_1 : w13.cell? ⟨gb101, 1, none⟩ = some (.slice A0_1 l0_1.length c0_1) := (zX BK101.out 1).trans rfl; have hcz14_2 : w13.cell? ⟨gb101, 2, none⟩ = some (.slice A0_2 l0_2.length c0_2) := (zX BK101.out 2).trans rfl; have hfz14_0 := zY BK101.out 0; have hfz14_1 := zY BK101.out 1; have hfz14_2 := zY BK101.out 2; obtain ⟨Ao15, co15, eo15⟩ := Kd.S_slice HO107.out; subst eo15) | ((with_reducible refine gate_callee (f := 54) rfl ?_); refine goesL_ (some 37) rfl rfl Tryd.func54 (by kernel_rfl) rfl #[.slice A0_2 l0_2.length c0_2, .slice Ao15 t103.length co15] rfl zl ?_; (with_reducible refine (aumbryref05_Fill.calls k _ _ l0_2 _ _ t103 t108 t109 _ ?side1 ?side2 ?side3 ?side4 A8.out).mono ?_); (case side1 => exact Kd.C_below HR0_2.out zb); (case side2 => exact HC0_2.out); (case side3 => exact Kd.C_below (Kd.S_reads' HO107.out).2.2 zg); (case side4 => exact (Kd.S_reads' HO107.out).2.1); rintro e w16 ⟨v110, rfl, ho0, hb⟩; refine ⟨_, rfl, ?_⟩; replace HO107 := zM (Kd.S_elder' (Kd.S_below HO107.out zg) (Kd.R_base ho0) hb); have HO111 := zM (Kd.R_lower ho0 (below_size zb)); replace BK101 := zM (blk_below (zk BK101.out) hb); replace HB := zM (below_step zb hb); (try clear hb); (try clear ho0)))
    go_ret3
    exact ⟨_, zw, zr HO111.out, zb⟩
   ·
    replace c7 := zI c7
    subst c7
    rw [if_neg (show ¬ (false = true) by decide)] at H
    simp only [Option.some.injEq, Prod.mk.injEq] at H
    obtain ⟨rfl, rfl, rfl⟩ := H
    go_enter Tryd.func24, Tryd.ntmps24
    go_wp2_with (first | ((with_reducible refine gate_dst (N := 2) rfl ?_); refine box_event ?hg (N := 2) ?hd (cs := #[.int .i64 a0_0, .slice A0_1 l0_1.length c0_1, .slice A0_2 l0_2.length c0_2]) (t := 25) ?hr ?_; (case hd => rfl); (case hg => rfl); (case hr => first | (go_simp; done) | (go_simp; rfl)); intro gb101 hg w17 hbox hb; have BK101 := zM (hbox); have GW101 := zM (zh hg : w.heap.size ≤ gb101); have GE101 := zM (zh hg : w.heap.size ≤ gb101); replace HB := zM (below_step zb hb); clear hb hbox hg; have hcz18_0 : w17.cell? ⟨gb101, 0, none⟩ = some (.int .i64 a0_0) := (zX BK101.out 0).trans rfl; have hcz18_1 : w17.cell? ⟨gb101, 1, none⟩ = some (.slice A0_1 l0_1.length c0_1) := (zX BK101.out 1).trans rfl; have hcz18_2 : w17.cell? ⟨gb101, 2, none⟩ = some (.slice A0_2 l0_2.length c0_2) := (zX BK101.out 2).trans rfl; have hfz18_0 := zY BK101.out 0; have hfz18_1 := zY BK101.out 1; have hfz18_2 := zY BK101.out 2) | ((with_reducible refine gate_callee (f := 13) rfl ?_); refine goesL_ (some 14) rfl rfl Tryd.func13 (by kernel_rfl) rfl #[.agg #[.int .i64 a0_0, .slice A0_1 l0_1.length c0_1, .slice A0_2 l0_2.length c0_2]] rfl zl ?_; (with_reducible refine (aumbryref06_Check.calls k a0_0 _ _ l0_1 _ _ l0_2 t102 _ ?side1 ?side2 ?side3 ?side4 A3.out).mono ?_); (case side1 => exact Kd.C_below HR0_1.out zb); (case side2 => exact HC0_1.out); (case side3 => exact Kd.C_below HR0_2.out zb); (case side4 => exact HC0_2.out); rintro e w19 ⟨rfl, hb⟩; refine ⟨_, rfl, ?_⟩; replace BK101 := zM (blk_below (zk BK101.out) hb); replace HB := zM (below_step zb hb); (try clear hb); have hcz20_0 : w19.cell? ⟨gb101, 0, none⟩ = some (.int .i64 a0_0) := (zX BK101.out 0).trans rfl; have hcz20_1 : w19.cell? ⟨gb101, 1, none⟩ = some (.slice A0_1 l0_1.length c0_1) := (zX BK101.out 1).trans rfl; have hcz20_2 : w19.cell? ⟨gb101, 2, none⟩ = some (.slice A0_2 l0_2.length c0_2) := (zX BK101.out 2).trans rfl; have hfz20_0 := zY BK101.out 0; have hfz20_1 := zY BK101.out 1; have hfz20_2 := zY BK101.out 2) | ((with_reducible refine gate_callee (f := 53) rfl ?_); refine goesL_ (some 22) rfl rfl Tryd.func53 (by kernel_rfl) rfl #[.slice A0_1 l0_1.length c0_1, .slice A1 l1.length c1] rfl zl ?_; (with_reducible refine (aumbryref05_Match.calls k _ _ l0_1 _ _ l1 t103 false t105 _ ?side1 ?side2 ?side3 ?side4 A5.out).mono ?_); (case side1 => exact Kd.C_below HR0_1.out zb); (case side2 => exact HC0_1.out); (case side3 => exact Kd.C_below HR1.out zb); (case side4 => exact HC1.out); rintro e w21 ⟨v106, rfl, ho0, hb⟩; refine ⟨_, rfl, ?_⟩; have HO107 := zM (Kd.S_lower ho0 (below_size zb)); replace BK101 := zM (blk_below (zk BK101.out) hb); replace HB := zM (below_step zb hb); (try clear hb); (try clear ho0)))
    go_ret3
    exact ⟨_, zw, by first | exact Kd.R_nil _ _ _ _ _ | exact Kd.N_nil _ _ _ _ _ | exact Kd.V_nil _ _ _ _ _ | exact Kd.Q_nil _ _ _ _ _ | exact Kd.S_nil _ _ _ _ _, zb⟩
  ·
   rw [if_neg c6] at H
   have c6b0 : (t105 == 0) = false := zE c6
   have c6b1 : (t105 != 0) = true := zF c6
   simp only [Option.some.injEq, Prod.mk.injEq] at H
   obtain ⟨rfl, rfl, rfl⟩ := H
   go_enter Tryd.func24, Tryd.ntmps24
   go_wp2_with (first | ((with_reducible refine gate_dst (N := 2) rfl ?_); refine box_event ?hg (N := 2) ?hd (cs := #[.int .i64 a0_0, .slice A0_1 l0_1.length c0_1, .slice A0_2 l0_2.length c0_2]) (t := 25) ?hr ?_; (case hd => rfl); (case hg => rfl); (case hr => first | (go_simp; done) | (go_simp; rfl)); intro gb101 hg w22 hbox hb; have BK101 := zM (hbox); have GW101 := zM (zh hg : w.heap.size ≤ gb101); have GE101 := zM (zh hg : w.heap.size ≤ gb101); replace HB := zM (below_step zb hb); clear hb hbox hg; have hcz23_0 : w22.cell? ⟨gb101, 0, none⟩ = some (.int .i64 a0_0) := (zX BK101.out 0).trans rfl; have hcz23_1 : w22.cell? ⟨gb101, 1, none⟩ = some (.slice A0_1 l0_1.length c0_1) := (zX BK101.out 1).trans rfl; have hcz23_2 : w22.cell? ⟨gb101, 2, none⟩ = some (.slice A0_2 l0_2.length c0_2) := (zX BK101.out 2).trans rfl; have hfz23_0 := zY BK101.out 0; have hfz23_1 := zY BK101.out 1; have hfz23_2 := zY BK101.out 2) | ((with_reducible refine gate_callee (f := 13) rfl ?_); refine goesL_ (some 14) rfl rfl Tryd.func13 (by kernel_rfl) rfl #[.agg #[.int .i64 a0_0, .slice A0_1 l0_1.length c0_1, .slice A0_2 l0_2.length c0_2]] rfl zl ?_; (with_reducible refine (aumbryref06_Check.calls k a0_0 _ _ l0_1 _ _ l0_2 t102 _ ?side1 ?side2 ?side3 ?side4 A3.out).mono ?_); (case side1 => exact Kd.C_below HR0_1.out zb); (case side2 => exact HC0_1.out); (case side3 => exact Kd.C_below HR0_2.out zb); (case side4 => exact HC0_2.out); rintro e w24 ⟨rfl, hb⟩; refine ⟨_, rfl, ?_⟩; replace BK101 := zM (blk_below (zk BK101.out) hb); replace HB := zM (below_step zb hb); (try clear hb); have hcz25_0 : w24.cell? ⟨gb101, 0, none⟩ = some (.int .i64 a0_0) := (zX BK101.out 0).trans rfl; have hcz25_1 : w24.cell? ⟨gb101, 1, none⟩ = some (.slice A0_1 l0_1.length c0_1) := (zX BK101.out 1).trans rfl; have hcz25_2 : w24.cell? ⟨gb101, 2, none⟩ = some (.slice A0_2 l0_2.length c0_2) := (zX BK101.out 2).trans rfl; have hfz25_0 := zY BK101.out 0; have hfz25_1 := zY BK101.out 1; have hfz25_2 := zY BK101.out 2) | ((with_reducible refine gate_callee (f := 53) rfl ?_); refine goesL_ (some 22) rfl rfl Tryd.func53 (by kernel_rfl) rfl #[.slice A0_1 l0_1.length c0_1, .slice A1 l1.length c1] rfl zl ?_; (with_reducible refine (aumbryref05_Match.calls k _ _ l0_1 _ _ l1 t103 t104 t105 _ ?side1 ?side2 ?side3 ?side4 A5.out).mono ?_); (case side1 => exact Kd.C_below HR0_1.out zb); (case side2 => exact HC0_1.out); (case side3 => exact Kd.C_below HR1.out zb); (case side4 => exact HC1.out); rintro e w26 ⟨v106, rfl, ho0, hb⟩; refine ⟨_, rfl, ?_⟩; have HO107 := zM (Kd.S_lower ho0 (below_size zb)); replace BK101 := zM (blk_below (zk BK101.out) hb); replace HB := zM (below_step zb hb); (try clear hb); (try clear ho0)))
   go_ret3
   exact ⟨_, zw, by first | exact Kd.R_nil _ _ _ _ _ | exact Kd.N_nil _ _ _ _ _ | exact Kd.V_nil _ _ _ _ _ | exact Kd.Q_nil _ _ _ _ _ | exact Kd.S_nil _ _ _ _ _, zb⟩
 ·
  rw [if_neg c4] at H
  have c4b0 : (t102 == 0) = false := zE c4
  have c4b1 : (t102 != 0) = true := zF c4
  simp only [Option.some.injEq, Prod.mk.injEq] at H
  obtain ⟨rfl, rfl, rfl⟩ := H
  go_enter Tryd.func24, Tryd.ntmps24
  go_wp2_with (first | ((with_reducible refine gate_dst (N := 2) rfl ?_); refine box_event ?hg (N := 2) ?hd (cs := #[.int .i64 a0_0, .slice A0_1 l0_1.length c0_1, .slice A0_2 l0_2.length c0_2]) (t := 25) ?hr ?_; (case hd => rfl); (case hg => rfl); (case hr => first | (go_simp; done) | (go_simp; rfl)); intro gb101 hg w27 hbox hb; have BK101 := zM (hbox); have GW101 := zM (zh hg : w.heap.size ≤ gb101); have GE101 := zM (zh hg : w.heap.size ≤ gb101); replace HB := zM (below_step zb hb); clear hb hbox hg; have hcz28_0 : w27.cell? ⟨gb101, 0, none⟩ = some (.int .i64 a0_0) := (zX BK101.out 0).trans rfl; have hcz28_1 : w27.cell? ⟨gb101, 1, none⟩ = some (.slice A0_1 l0_1.length c0_1) := (zX BK101.out 1).trans rfl; have hcz28_2 : w27.cell? ⟨gb101, 2, none⟩ = some (.slice A0_2 l0_2.length c0_2) := (zX BK101.out 2).trans rfl; have hfz28_0 := zY BK101.out 0; have hfz28_1 := zY BK101.out 1; have hfz28_2 := zY BK101.out 2) | ((with_reducible refine gate_callee (f := 13) rfl ?_); refine goesL_ (some 14) rfl rfl Tryd.func13 (by kernel_rfl) rfl #[.agg #[.int .i64 a0_0, .slice A0_1 l0_1.length c0_1, .slice A0_2 l0_2.length c0_2]] rfl zl ?_; (with_reducible refine (aumbryref06_Check.calls k a0_0 _ _ l0_1 _ _ l0_2 t102 _ ?side1 ?side2 ?side3 ?side4 A3.out).mono ?_); (case side1 => exact Kd.C_below HR0_1.out zb); (case side2 => exact HC0_1.out); (case side3 => exact Kd.C_below HR0_2.out zb); (case side4 => exact HC0_2.out); rintro e w29 ⟨rfl, hb⟩; refine ⟨_, rfl, ?_⟩; replace BK101 := zM (blk_below (zk BK101.out) hb); replace HB := zM (below_step zb hb); (try clear hb)))
  go_ret3
  exact ⟨_, zw, by first | exact Kd.R_nil _ _ _ _ _ | exact Kd.N_nil _ _ _ _ _ | exact Kd.V_nil _ _ _ _ _ | exact Kd.Q_nil _ _ _ _ _ | exact Kd.S_nil _ _ _ _ _, zb⟩

end Go.Proofs.YtpnamhplhdaphaaDoor.P

-- ==== PL6p
/- Plain laws of chapter 6: what a rule makes of a term: the program's answer and the document's come to one function. -/
namespace Go.Proofs.YtpnamhplhdaphaaDoor.P
open Go.RowKit Go.Proofs.YtpnamhplhdaphaaDoorW.PrintWords
set_option linter.unusedVariables false
set_option linter.unusedSimpArgs false
def applyS (id : Int) (l r t : List Cel) : List Cel × Bool × Int := if ruleS id l r = 0 then (if (M.matchS l t).2.2 = 0 then (if (M.matchS l t).2.1 = true then ((M.fillS r (M.matchS l t).1).1, ((M.fillS r (M.matchS l t).1).2 == 0), (M.fillS r (M.matchS l t).1).2) else ([], false, (M.matchS l t).2.2)) else ([], false, (M.matchS l t).2.2)) else ([], false, ruleS id l r)
theorem ev_apply (id : Int) (l r t : List Cel) : Ev (fun k => rule_Apply.f k id l r t) (applyS id l r t) := by
 have hs := M.matchS_small l t
 unfold rule_Apply.f applyS
 refine Ev.bind (ev_rch id l r) ?_
 by_cases h1 : ruleS id l r = 0
 case neg =>
  rw [if_neg h1]
  exact evIfn h1 (Ev.now _)
 rw [if_pos h1]
 refine evIfp h1 (Ev.bind (M.ev_match l t) ?_)
 by_cases h2 : (M.matchS l t).2.2 = 0
 case neg =>
  rw [if_neg h2]
  exact evIfn h2 (Ev.now _)
 rw [if_pos h2]
 refine evIfp h2 ?_
 by_cases h3 : (M.matchS l t).2.1 = true
 case neg =>
  rw [if_neg h3]
  exact evIfn h3 (Ev.now _)
 rw [if_pos h3]
 refine evIfp h3 (Ev.bind (M.ev_fill r _ (by omega)) (Ev.now _))
theorem applyS_small (id : Int) (l r t : List Cel) : (applyS id l r t).1.length ≤ 64 := by
 unfold applyS
 split
 ·
  split
  ·
   split
   ·
    exact M.fillS_small _ _
   ·
    simp
  ·
   simp
 ·
  simp
end Go.Proofs.YtpnamhplhdaphaaDoor.P

-- ==== PQg
/- Plain laws, part g: filling what a match tells gives the term; what is filled is matched; a term matches itself. -/
namespace Go.Proofs.YtpnamhplhdaphaaDoor.P.M
open Go.RowKit Go.Proofs.YtpnamhplhdaphaaDoorW.PrintWords
set_option linter.unusedVariables false
set_option linter.unusedSimpArgs false

/-- What one list of binds tells the other tells too. -/
def Ext (a b : List Bnd) : Prop := ∀ s v, lookB a s = some v → lookB b s = some v
theorem Ext.refl (a : List Bnd) : Ext a a := fun _ _ h => h
theorem Ext.trans {a b c : List Bnd} (h : Ext a b) (g : Ext b c) : Ext a c := fun s v e => g s v (h s v e)
theorem mat_var {c : Cel} {p t r : List Cel} {out : List Bnd} (hv : kindS c.f0 = 2) (hr : segN t 1 = some r) : mat (c :: p) t out = (match lookB out c.f0 with | none => mat p r (out ++ [⟨c.f0, fstT t r⟩]) | some v => if v = fstT t r then mat p r out else none) := by
 show (if kindS c.f0 = 2 then _ else _) = _
 rw [if_pos hv, hr]
 try rfl
theorem mat_var_none {c : Cel} {p t : List Cel} {out : List Bnd} (hv : kindS c.f0 = 2) (hr : segN t 1 = none) : mat (c :: p) t out = none := by
 show (if kindS c.f0 = 2 then _ else _) = _
 rw [if_pos hv, hr]
theorem mat_sym {c d : Cel} {p t : List Cel} {out : List Bnd} (hv : ¬ kindS c.f0 = 2) : mat (c :: p) (d :: t) out = if d = c then mat p t out else none := by
 show (if kindS c.f0 = 2 then _ else _) = _
 rw [if_neg hv]
theorem mat_sym_nil {c : Cel} {p : List Cel} {out : List Bnd} (hv : ¬ kindS c.f0 = 2) : mat (c :: p) [] out = none := by
 show (if kindS c.f0 = 2 then _ else _) = _
 rw [if_neg hv]

/-! ### the binds of a match are right -/
theorem cellErr_okc {c : Cel} (h : Okc c) : cellErr c = 0 := by
 unfold cellErr
 have h1 := h.lo
 have h2 := h.hi
 rw [if_neg h.kind, if_neg (by omega), if_neg (by omega)]
 by_cases hk : kindS c.f0 = 2
 ·
  rw [if_pos hk, if_neg (by have := h.var hk; omega)]
 ·
  rw [if_neg hk]
theorem ok_errs : ∀ {l : List Cel}, (∀ c ∈ l, Okc c) → errs l = 0
 | [], _ => rfl
 | a :: l, h => by
  unfold errs
  rw [if_pos (cellErr_okc (h a (List.mem_cons_self ..)))]
  exact ok_errs fun c hc => h c (List.mem_cons_of_mem _ hc)
theorem checkS_of {t : List Cel} (h1 : t.length ≤ 64) (h2 : ∀ c ∈ t, Okc c) (h3 : segN t 1 = some []) : checkS t = 0 := by
 unfold checkS
 rw [if_neg (by omega), if_pos (ok_errs h2), if_pos h3]
theorem bErr_snoc : ∀ (u seen : List Bnd) (b : Bnd), bErr seen u = 0 → kindS b.f0 = 2 → lookB (seen ++ u) b.f0 = none → checkS b.f1 = 0 → bErr seen (u ++ [b]) = 0
 | [], seen, b, h, hk, hl, hc => by
  rw [List.append_nil] at hl
  show bErr seen [b] = 0
  unfold bErr
  rw [if_pos hk, if_neg (by rw [hl]; simp), if_pos hc]
  rfl
 | a :: u, seen, b, h, hk, hl, hc => by
  show bErr seen (a :: (u ++ [b])) = 0
  unfold bErr at h ⊢
  by_cases h1 : kindS a.f0 = 2
  ·
   rw [if_pos h1] at h ⊢
   by_cases h2 : (lookB seen a.f0).isSome = true
   ·
    rw [if_pos h2] at h; cases h
   ·
    rw [if_neg h2] at h ⊢
    by_cases h3 : checkS a.f1 = 0
    ·
     rw [if_pos h3] at h ⊢
     exact bErr_snoc u (seen ++ [a]) b h hk (by simpa using hl) hc
    ·
     rw [if_neg h3] at h
     exact absurd h h3
  ·
   rw [if_neg h1] at h; cases h
theorem mem_fstT {t r : List Cel} {c : Cel} (h : c ∈ fstT t r) : c ∈ t := List.mem_of_mem_take h
theorem mat_right : ∀ (p t : List Cel) (out o : List Bnd) (r : List Cel), mat p t out = some (o, r) → t.length ≤ 64 → (∀ c ∈ t, Okc c) → bErr [] out = 0 → bErr [] o = 0
 | [], t, out, o, r, h, ht, hok, hb => by
  have h' : some (out, t) = some (o, r) := h
  injection h' with h'
  injection h' with h1 h2
  rw [← h1]
  exact hb
 | c :: p, t, out, o, r, h, ht, hok, hb => by
  by_cases hv : kindS c.f0 = 2
  ·
   cases hq : segN t 1 with
   | none => rw [mat_var_none hv hq] at h; cases h
   | some q =>
    rw [mat_var hv hq] at h
    have hf := segN_fst hq
    have hql := segN_len hq
    have hqo : ∀ c ∈ q, Okc c := fun c hc => hok c (by rw [hf.1]; exact List.mem_append_right _ hc)
    cases hl : lookB out c.f0 with
    | none =>
     rw [hl] at h
     refine mat_right p q _ o r h (by omega) hqo (bErr_snoc out [] _ hb hv (by simpa using hl) ?_)
     exact checkS_of (by unfold fstT; rw [List.length_take]; omega) (fun c hc => hok c (mem_fstT hc)) hf.2
    | some v =>
     rw [hl] at h
     simp only at h
     by_cases he : v = fstT t q
     ·
      rw [if_pos he] at h
      exact mat_right p q _ o r h (by omega) hqo hb
     ·
      rw [if_neg he] at h
      cases h
  ·
   rcases t with _ | ⟨d, t⟩
   ·
    rw [mat_sym_nil hv] at h; cases h
   ·
    rw [mat_sym hv] at h
    by_cases he : d = c
    ·
     rw [if_pos he] at h
     simp only [List.length_cons] at ht
     exact mat_right p t _ o r h (by omega) (fun c hc => hok c (List.mem_cons_of_mem _ hc)) hb
    ·
     rw [if_neg he] at h; cases h
/-! ### what is filled is matched -/
/-- Binds whose values are terms. -/
def Vals (l : List Bnd) : Prop := ∀ s v, lookB l s = some v → segN v 1 = some []
/-! ### the three laws -/
theorem matchS_ok {p t : List Cel} (h : (matchS p t).2.1 = true) : checkS p = 0 ∧ checkS t = 0 ∧ ∃ o r, mat p t [] = some (o, r) ∧ matchS p t = (o, true, 0) := by
 unfold matchS at h ⊢
 by_cases hp : checkS p = 0
 ·
  rw [if_pos hp] at h ⊢
  by_cases ht : checkS t = 0
  ·
   rw [if_pos ht] at h ⊢
   cases hm : mat p t [] with
   | none => rw [hm] at h; cases h
   | some x => exact ⟨hp, ht, x.1, x.2, rfl, rfl⟩
  ·
   rw [if_neg ht] at h; cases h
 ·
  rw [if_neg hp] at h; cases h
end Go.Proofs.YtpnamhplhdaphaaDoor.P.M

-- ==== PL6q
/- Plain laws of chapter 6: the renaming of a rule's variables keeps what the rule does. -/
namespace Go.Proofs.YtpnamhplhdaphaaDoor.P
open Go.RowKit Go.Proofs.YtpnamhplhdaphaaDoorW.PrintWords
set_option linter.unusedVariables false
set_option linter.unusedSimpArgs false
section
variable {V : List ByteArray} (hV : OkV V)
include hV
/-! ### fitting and filling under the renaming -/
omit hV in
def renB (V : List ByteArray) (b : M.Bnd) : M.Bnd := ⟨pnS V b.f0, b.f1⟩
theorem look_ren : ∀ (out : List M.Bnd) (s : ByteArray), (∀ b ∈ out, b.f0 ∈ V) → s ∈ V → M.lookB (out.map (renB V)) (pnS V s) = M.lookB out s
 | [], s, ho, hs => rfl
 | b :: u, s, ho, hs => by
  have ih := look_ren u s (fun c hc => ho c (List.mem_cons_of_mem _ hc)) hs
  unfold M.lookB at ih ⊢
  rw [List.map_cons, List.find?_cons, List.find?_cons]
  by_cases h : b.f0 = s
  ·
   have : (renB V b).f0 = pnS V s := by rw [← h]; rfl
   rw [decide_eq_true this, decide_eq_true h]
   rfl
  ·
   have : ¬ (renB V b).f0 = pnS V s := fun e => h (pn_inj hV (ho b (List.mem_cons_self ..)) hs e)
   rw [decide_eq_false this, decide_eq_false h]
   exact ih
theorem mat_ren : ∀ (p t : List Cel) (out : List M.Bnd), Cov V p → (∀ b ∈ out, b.f0 ∈ V) → M.mat (plS V p) t (out.map (renB V)) = (M.mat p t out).map (fun x => (x.1.map (renB V), x.2)) ∧ ∀ o r, M.mat p t out = some (o, r) → ∀ b ∈ o, b.f0 ∈ V
 | [], t, out, hc, ho => by
  have e2 : M.mat [] t out = some (out, t) := by unfold M.mat; rfl
  have e1 : M.mat (plS V []) t (out.map (renB V)) = some (out.map (renB V), t) := by
   have : plS V [] = [] := rfl
   rw [this]
   unfold M.mat
   rfl
  rw [e1, e2]
  refine ⟨rfl, fun o r h => ?_⟩
  injection h with h
  injection h with h _
  subst h
  exact ho
 | c :: p, t, out, hc, ho => by
  obtain ⟨h1, h2⟩ := cov_tl hc
  have e0 : plS V (c :: p) = pcS V c :: plS V p := rfl
  rw [e0]
  by_cases hk : kindS c.f0 = 2
  ·
   have hk' : kindS (pcS V c).f0 = 2 := (pn_kind hV h1).trans hk
   cases hr : segN t 1 with
   | none =>
    rw [M.mat_var_none hk' hr, M.mat_var_none hk hr]
    exact ⟨rfl, fun o r h => by cases h⟩
   | some r =>
    rw [M.mat_var hk' hr, M.mat_var hk hr]
    have hl : M.lookB (out.map (renB V)) (pcS V c).f0 = M.lookB out c.f0 := look_ren hV out c.f0 ho (h1 hk)
    rw [hl]
    cases hlk : M.lookB out c.f0 with
    | none =>
     have := mat_ren p r (out ++ [⟨c.f0, M.fstT t r⟩]) h2 (fun b hb => by
      rcases List.mem_append.1 hb with h | h
      ·
       exact ho b h
      ·
       rw [List.mem_singleton.1 h]; exact h1 hk)
     rw [List.map_append] at this
     exact this
    | some v =>
     show (if v = M.fstT t r then _ else _) = Option.map _ (if v = M.fstT t r then _ else _) ∧ ∀ o r', (if v = M.fstT t r then _ else _) = some (o, r') → _
     by_cases hv : v = M.fstT t r
     ·
      simp only [if_pos hv]
      exact mat_ren p r out h2 ho
     ·
      simp only [if_neg hv]
      exact ⟨rfl, fun o r h => by cases h⟩
  ·
   have hs := pc_sym hV hk
   rw [hs]
   cases t with
   | nil =>
    rw [M.mat_sym_nil hk, M.mat_sym_nil hk]
    exact ⟨rfl, fun o r h => by cases h⟩
   | cons d t =>
    rw [M.mat_sym hk, M.mat_sym hk]
    by_cases hd : d = c
    ·
     simp only [if_pos hd]
     exact mat_ren p t out h2 ho
    ·
     simp only [if_neg hd]
     exact ⟨rfl, fun o r h => by cases h⟩
theorem put_ren : ∀ (p : List Cel) (o : List M.Bnd), Cov V p → (∀ b ∈ o, b.f0 ∈ V) → M.putS (plS V p) (o.map (renB V)) = M.putS p o
 | [], o, hc, ho => by
  have : plS V [] = [] := rfl
  rw [this]
  unfold M.putS
  rfl
 | c :: p, o, hc, ho => by
  obtain ⟨h1, h2⟩ := cov_tl hc
  have ih := put_ren p o h2 ho
  have e0 : plS V (c :: p) = pcS V c :: plS V p := rfl
  rw [e0]
  unfold M.putS
  rw [ih]
  by_cases hk : kindS c.f0 = 2
  ·
   have hk' : kindS (pcS V c).f0 = 2 := (pn_kind hV h1).trans hk
   have hl : M.lookB (o.map (renB V)) (pcS V c).f0 = M.lookB o c.f0 := look_ren hV o c.f0 ho (h1 hk)
   rw [if_pos hk', if_pos hk, hl]
  ·
   rw [pc_sym hV hk, if_neg hk, if_neg hk]
end
section
variable {id : Int} {l r : List Cel} (h : ruleS id l r = 0)
include h
theorem match_plain (t : List Cel) : M.matchS (plS (varsS [] l) l) t = ((M.matchS l t).1.map (renB (varsS [] l)), (M.matchS l t).2) := by
 obtain ⟨hV, c1, c2⟩ := okv_rule h
 obtain ⟨h1, _⟩ := ruleS_ok h
 unfold M.matchS
 rw [if_pos (check_ren hV c1 h1), if_pos h1]
 by_cases ht : checkS t = 0
 ·
  have := (mat_ren hV l t [] c1 (fun b hb => by cases hb)).1
  rw [List.map_nil] at this
  rw [this]
  simp only [if_pos ht]
  cases M.mat l t [] with
  | none => rfl
  | some y => rfl
 ·
  simp only [if_neg ht]
  rfl
theorem apply_plain (t : List Cel) : applyS id (plS (varsS [] l) l) (plS (varsS [] l) r) t = applyS id l r t := by
 obtain ⟨hV, c1, c2⟩ := okv_rule h
 obtain ⟨h1, h2, _⟩ := ruleS_ok h
 unfold applyS
 rw [if_pos h, if_pos (rule_plain h), match_plain h t]
 by_cases hm : (M.matchS l t).2.1 = true
 case neg =>
  simp only [if_neg hm]
 have e0 : (M.matchS l t).2.2 = 0 := by
  obtain ⟨_, _, o, q, _, he⟩ := M.matchS_ok hm
  rw [he]
 have hf : M.fillS (plS (varsS [] l) r) ((M.matchS l t).1.map (renB (varsS [] l))) = M.fillS r (M.matchS l t).1 := by
  obtain ⟨_, ht, o, q, hmat, he⟩ := M.matchS_ok hm
  obtain ⟨t1, t2, t3⟩ := checkS_ok ht
  have g := mat_ren hV l t [] c1 (fun b hb => by cases hb)
  rw [List.map_nil, hmat] at g
  have b1 := M.mat_right l t [] o q hmat t1 t2 rfl
  have b2 := M.mat_right (plS (varsS [] l) l) t [] (o.map (renB (varsS [] l))) q g.1 t1 t2 rfl
  rw [he]
  unfold M.fillS
  rw [if_pos (check_ren hV c2 h2), if_pos h2, if_pos b1, if_pos b2, put_ren hV r o c2 (g.2 o q rfl)]
 simp only [if_pos hm, e0, if_true]
 rw [hf]
end
end Go.Proofs.YtpnamhplhdaphaaDoor.P

-- ==== PureRulePlain
/- A rule's plain form does the same as the rule; the plain form of it is itself: for every rule and term, the law answers true. -/
namespace Go.Proofs.YtpnamhplhdaphaaDoor.Pure
open Go.RowKit Go.Proofs.YtpnamhplhdaphaaDoor.P Go.Proofs.YtpnamhplhdaphaaDoorW.PrintWords
set_option linter.unusedVariables false
theorem RulePlain : aumbrylaw06_RulePlain.Pure := by
 intro x t hx ht
 obtain ⟨h1, h2⟩ := sz_rule hx
 have h3 := sz_len ht
 refine Ev.rounds ?_
 unfold aumbrylaw06_RulePlain.f
 refine Ev.bind ev_wakes6 (evIfp rfl ?_)
 refine Ev.bind (evIs (rcopy_at x.f0 x.f1 x.f2 h1 h2)) ?_
 by_cases hr : ruleS x.f0 x.f1 x.f2 = 0
 case neg =>
  refine Ev.bind (ev_plain_no hr) (evIfn hr ?_)
  refine Ev.bind (evIs (rcopy_at x.f0 x.f1 x.f2 h1 h2)) (Ev.bind (ev_rch x.f0 x.f1 x.f2) ?_)
  have he : (ruleS x.f0 x.f1 x.f2 == ruleS x.f0 x.f1 x.f2) = true := by simp
  simp only [he]
  exact Ev.now _
 refine Ev.bind (ev_plain hr) (evIfp rfl ?_)
 obtain ⟨_, _, g3, g4, _⟩ := ruleS_ok hr
 have n1 : (plS (varsS [] x.f1) x.f1).length ≤ 8 := by rw [plS_len]; omega
 have n2 : (plS (varsS [] x.f1) x.f2).length ≤ 8 := by rw [plS_len]; omega
 have hp := ev_plain (rule_plain hr)
 rw [(plain_twice hr).1, (plain_twice hr).2] at hp
 refine Ev.bind (evIs (rcopy_at _ _ _ (show (plS (varsS [] x.f1) x.f1).length < _ by omega) (show (plS (varsS [] x.f1) x.f2).length < _ by omega))) (Ev.bind hp (evIfp rfl ?_))
 refine Ev.bind (ev_rsame _ _ _ (show (plS (varsS [] x.f1) x.f1).length ≤ _ by omega) (show (plS (varsS [] x.f1) x.f2).length ≤ _ by omega)) (evIfp rfl (evIfp rfl ?_))
 have hh := ev_head x.f0 (plS (varsS [] x.f1) x.f1) (plS (varsS [] x.f1) x.f2)
 rw [if_pos (rule_plain hr), head_plain hr] at hh
 have hg := ev_head x.f0 x.f1 x.f2
 rw [if_pos hr] at hg
 refine Ev.bind hh (Ev.bind hg ?_)
 have hf : (((x.f1.getD 0 zc).f0).toList != ((x.f1.getD 0 zc).f0).toList) = false := by simp
 simp only [hf]
 refine Ev.step (fun k => (show aumbrylaw06_RulePlain.j0 (k + 1) _ _ _ _ _ _ _ _ = _ from by rw [aumbrylaw06_RulePlain.j0])) ?_
 refine evIfn (by decide) ?_
 refine Ev.bind (evIs (rcopy_at x.f0 x.f1 x.f2 h1 h2)) (Ev.bind (evIs (copy_at t h3)) (Ev.bind (ev_apply x.f0 x.f1 x.f2 t) (Ev.bind (evIs (copy_at t h3)) ?_)))
 have ha := ev_apply x.f0 (plS (varsS [] x.f1) x.f1) (plS (varsS [] x.f1) x.f2) t
 rw [apply_plain hr t] at ha
 refine Ev.bind ha (evIfp (by simp) (evIfp rfl ?_))
 have hs := applyS_small x.f0 x.f1 x.f2 t
 refine Ev.bind (ev_refSame4 _ _ (.inl (by omega))) ?_
 have hd : decide ((applyS x.f0 x.f1 x.f2 t).1 = (applyS x.f0 x.f1 x.f2 t).1) = true := decide_eq_true rfl
 rw [hd]
 exact Ev.now _
end Go.Proofs.YtpnamhplhdaphaaDoor.Pure

-- ==== RowRulePlain
namespace Go.Proofs.YtpnamhplhdaphaaDoor.rulePlain
open Go.ChangeShapes Go.WideShapes Go.ChangeAt Go.RowKit Go.Proofs.YtpnamhplhdaphaaDoorW.PrintWords Go.Proofs.YtpnamhplhdaphaaDoor.P Go.Proofs.YtpnamhplhdaphaaDoor.Open
open Go.ChangeMaps (open_string shut_string)
set_option linter.unusedVariables false
theorem own : ownKnob Tryd.prog.godebug = none := by kernel_rfl
theorem laidOut : laidOutB Tryd.prog = true := by kernel_rfl
set_option maxRecDepth 100000 in
theorem core {H : Type} {enc : TypeId × Value → H} (W : World) (base : Nat) (args : Array Value) (ds gs : List (DataW H)) (before : List MemPlace)
 (hval : ∀ (j : Nat) t v, Tryd.f8.params[j]? = some t → args[j]? = some v → Value.okWide Tryd.prog W .any base t v)
 (hW : DataW.Whole enc Tryd.prog Tryd.f8.params.toList Rows.rulePlainSpec.vars false W args.toList ds gs before)
 (hsz : (DataW.weightsEach Tryd.prog (Tryd.f8.params.toList ++ Rows.rulePlainSpec.plain.varTypes Tryd.prog) (ds ++ gs)).all (· ≤ reachBytes) = true)
 :
 Calls Tryd.prog 8 args W fun e W' => ∃ v, e = .returned v ∧ Rows.rulePlainSpec.post enc Tryd.prog Tryd.f8 false true false false W args v W' := by
 have hW' := hW
 obtain ⟨p, q, hA, hV, rfl, hfz, hnd⟩ := hW
 rw [Tryd.params8] at hA hval hsz
 obtain ⟨v0, vs0, d0, ds0, p0, q0, hargs, rfl, rfl, h0, r0⟩ := trodAll_cons hA
 obtain ⟨v1, vs1, d1, ds1, p1, q1, rfl, rfl, rfl, h1, r1⟩ := trodAll_cons r0
 obtain ⟨rfl, rfl, rfl⟩ := trodAll_nil r1
 obtain rfl : args = #[v0, v1] := by cases args; simp_all
 obtain ⟨rfl, rfl⟩ := trodVars_none hV
 have k0 := h0
 obtain ⟨n0, hf0⟩ := h0
 obtain ⟨x0, hK0, hS0, hB0⟩ := op25.go hf0 (fun m hm => by have := List.all_eq_true.1 hsz m (DataW.weights_mem_each (j := 0) rfl rfl m hm); simpa using this)
 have lt0 : ∀ z ∈ p0, z.block < W.heap.size := by obtain ⟨m, hm⟩ := k0; exact DataW.trod_lt m _ _ _ hm
 obtain ⟨cs0, rfl, hz0⟩ := okWide_struct Tryd.underlying25 (hval 0 25 v0 rfl rfl)
 obtain ⟨A0_1, c0_1, A0_2, c0_2, hcs0, hc0_1, hr0_1, hc0_2, hr0_2⟩ := k25_open hK0
 have hcs0' : cs0.toList = _ := hcs0
 obtain rfl : cs0 = #[.int .i64 ((x0).f0), .slice A0_1 (x0).f1.length c0_1, .slice A0_2 (x0).f2.length c0_2] := by apply Array.toList_inj.1; exact hcs0'
 have k1 := h1
 obtain ⟨n1, hf1⟩ := h1
 obtain ⟨x1, hK1, hS1, hB1⟩ := op23.go hf1 (fun m hm => by have := List.all_eq_true.1 hsz m (DataW.weights_mem_each (j := 1) rfl rfl m hm); simpa using this)
 have lt1 : ∀ z ∈ p1, z.block < W.heap.size := by obtain ⟨m, hm⟩ := k1; exact DataW.trod_lt m _ _ _ hm
 obtain ⟨a1, len1, cap1, rfl⟩ := okWide_slice Tryd.underlying23 (hval 1 23 v1 rfl rfl)
 obtain ⟨A1, c1, hcs1, hc1, hr1⟩ := hK1
 have hcs1' : [(Value.slice a1 len1 cap1)] = [.slice A1 x1.length c1] := hcs1
 injection hcs1' with hcs1'
 injection hcs1' with ha1 hl1 hk1
 subst ha1 hl1 hk1
 obtain ⟨k, h⟩ := Pure.RulePlain x0 x1 hS0 hS1
 refine (aumbrylaw06_RulePlain.calls k (x0).f0 _ _ (x0).f1 _ _ (x0).f2 _ _ x1 true W hr0_1 hc0_1 hr0_2 hc0_2 hr1 hc1 h rfl).mono ?_
 rintro e W' ⟨rfl, hd⟩
 have bel : Below W.heap.size W W' := hd
 exact ⟨_, rfl, _, _, _, [], _, [], hW', trodAll_mk1 (shut_bool Tryd.underlying4 _), (trodAll_cons_mk (Below.trod laidOut (by kernel_rfl) (of_decide_eq_true (by kernel_rfl)) k0 bel lt0) (trodAll_cons_mk (Below.trod laidOut (by kernel_rfl) (of_decide_eq_true (by kernel_rfl)) k1 bel lt1) trodAll_mk0)), rfl, bel.frame _, fun h => by cases h⟩
set_option maxRecDepth 100000 in
theorem laid_met (os : Os) : laidMet Tryd.prog Rows.rulePlainRow.laid ((World.laidAll Tryd.prog os Rows.rulePlainRow.laid).forCall (fun _ _ => 0) ⟨#[], #[.agg #[.int .i64 0, .slice none 0 0, .slice none 0 0], .slice none 0 0], []⟩).memory :=
 laidMet_laidAll _ (by kernel_rfl) (by kernel_rfl)
set_option maxRecDepth 100000 in
theorem reads (os : Os) {H : Type} (enc : TypeId × Value → H) : (DataW.whole enc Tryd.prog ((World.laidAll Tryd.prog os Rows.rulePlainRow.laid).forCall (fun _ _ => 0) ⟨#[], #[.agg #[.int .i64 0, .slice none 0 0, .slice none 0 0], .slice none 0 0], []⟩).memory Tryd.f8.params.toList Rows.rulePlainSpec.vars false (#[.agg #[.int .i64 0, .slice none 0 0, .slice none 0 0], .slice none 0 0] : Array Value).toList 8).isSome = true := by kernel_rfl
set_option maxRecDepth 100000 in
theorem lifted (os : Os) (started : os.Started) (H : Type) (enc : TypeId × Value → H) (F : Stop.Interp) :
 ReturnsInHanded {} Tryd.checked os 8 .any ((OpenSpec.ofChange Rows.rulePlainSpec).preRow enc Tryd.prog Tryd.f8 Rows.rulePlainRow.domain false Rows.rulePlainRow.laid) (((OpenSpec.ofChange Rows.rulePlainSpec).at F).post enc Tryd.prog Tryd.f8 false true false false) := by
 obtain ⟨x, hx⟩ := Option.isSome_iff_exists.1 (reads os enc)
 refine returnsInHanded_of_row (C := Tryd.checked) (s := (OpenSpec.ofChange Rows.rulePlainSpec)) own started (by kernel_rfl) Tryd.func8
  (witness_row_at (enc := enc) (C := Tryd.checked) false (World.laidAll Tryd.prog os Rows.rulePlainRow.laid) #[.agg #[.int .i64 0, .slice none 0 0, .slice none 0 0], .slice none 0 0] rfl (by kernel_rfl) (by kernel_rfl) (by kernel_rfl)
   (OpenSpec.preRow_of_cond 8 hx rfl (fun k hk => by cases hk) (by kernel_rfl) (laid_met os))) ?_
 intro W base args ds gs before hval0 hW _ hk hsz0 hL _ _
 exact core W base args ds gs before hval0 hW hsz0
theorem said : Rows.RulePlainSaid :=
 OpenClaim.holds_of_cond 8 Tryd.f8 rfl rfl rfl rfl rfl rfl rfl ⟨rfl, rfl, rfl, rfl, rfl⟩ rfl rfl rfl rfl rfl (by kernel_rfl) Tryd.func8 (by kernel_rfl)
  (of_decide_eq_true (by kernel_rfl)) (by unfold Func.isWrapper; first | (rw [if_pos (by decide +kernel)]; kernel_rfl) | (rw [if_neg (by decide +kernel)]; exact ⟨rfl, rfl⟩))
  (fun os started H enc _ F => by rw [OpenClaim.pre_eq_preRow]; exact lifted os started H enc F)
theorem plain (f : FuncId) (fn : Func) (hf : Tryd.pinned.checked.prog.funcNamed "aumbry/aumbrylaw06.RulePlain" = some f) (hfn : Tryd.pinned.checked.prog.funcs[f]? = some fn) :
 true = Tryd.pinned.checked.prog.looks [] ∧ ∀ (j : Nat) t, fn.params[j]? = some t → Tryd.pinned.checked.prog.wantsStandIn t = false := by
 obtain rfl : f = 8 := Option.some.inj ((show Tryd.prog.funcNamed "aumbry/aumbrylaw06.RulePlain" = some 8 by kernel_rfl).symm.trans hf) |>.symm
 obtain rfl : fn = Tryd.f8 := (Option.some.inj (Tryd.func8.symm.trans hfn)).symm
 refine ⟨by kernel_rfl, fun j t ht => ?_⟩
 rw [Tryd.params8] at ht
 have hm := Array.mem_of_getElem? ht
 have hm' : t = 25 ∨ t = 23 := by simpa using hm
 rcases hm' with rfl | rfl
 ·
  exact (show Tryd.prog.wantsStandIn 25 = false by kernel_rfl)
 ·
  exact (show Tryd.prog.wantsStandIn 23 = false by kernel_rfl)
theorem card : Rows.RulePlainCardSaid :=
 Claim7.holds_tied_plain_at .later [] _ _ _ _ said (fun _ h => by cases h) (by kernel_rfl) (fun _ h => by cases h) rulePlain_row_tie rfl ⟨rfl, rfl⟩ (by kernel_rfl) rfl plain (by kernel_rfl)
end Go.Proofs.YtpnamhplhdaphaaDoor.rulePlain
namespace Go.Proofs.YtpnamhplhdaphaaDoor
/-- The card, under a short name, for the claim. -/
theorem rulePlain_holds : Rows.RulePlainCardSaid := rulePlain.card
#print axioms rulePlain_holds
end Go.Proofs.YtpnamhplhdaphaaDoor
