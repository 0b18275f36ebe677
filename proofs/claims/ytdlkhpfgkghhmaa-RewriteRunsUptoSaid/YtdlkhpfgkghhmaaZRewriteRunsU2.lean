/- RewriteRuns: the law answers true at every input that the given row speaks of. Conditions: those of the given row, none besides. (Part 3 of 5; written by programs of this session, which drive the kit's print, and by hand.) -/
import Derived.Deep.RegionLaw
import Derived.RegionTactic
import Derived.ChangeAlike
import Derived.BigRegion
import Derived.IntWalk
import Derived.Outline
import Derived.Deep.RegionHeld3
import Derived.Deep.DeepCutAuto
import Derived.Shelf.Spec.SlicesInsert
import Derived.Shelf.Spec.SlicesInsertGrow
import Derived.Maps.OwnSet
import Derived.Maps.OwnOps
import Derived.Test.YtdlkhpfgkghhmaaRows
import Derived.Test.YtdlkhpfgkghhmaaZRewriteRunsUWWords
import Derived.Deep.Slices
import Derived.SizedLaws
import Derived.ChangeSame
import Derived.ChangeArms
import Derived.Test.YtdlkhpfgkghhmaaZRewriteRunsU0
import Derived.Test.YtdlkhpfgkghhmaaZRewriteRunsU1
set_option maxHeartbeats 8000000
set_option maxRecDepth 100000
set_option linter.unusedVariables false
set_option linter.unusedSimpArgs false
-- ==== PF76
namespace Go.Proofs.Ytdlkhpfgkghhmaa.P
open Go.RowKit Go.Proofs.YtdlkhpfgkghhmaaW.PrintWords Go.Proofs.YtdlkhpfgkghhmaaW.PrintLast Go.Proofs.YtdlkhpfgkghhmaaW.PrintMore
attribute [local go_sem] max2_int min2_int max_two min_two max_three min_three max_four min_four

def aumbryref06_Copy.f (a0_0 : Int) (l0_1 : List (S54)) (l0_2 : List (S54)) : Option (Int × (List (S54)) × (List (S54))) := (aumbryref04_Copy.f l0_1).bind fun t103 => ((aumbryref04_Copy.f l0_2).bind fun t106 => (some (a0_0, t103, t106)))
def aumbryref06_Copy.T1 : Bool × List (List Nat × List Nat) := (true, [([], []), ([0], [0]), ([], []), ([2], [2]), ([3], [3]), ([], []), ([5], [5]), ([6, 4], [6]), ([1, 4, 7], [1, 4, 7]), ([8, 7, 0, 1, 2, 3, 4, 5, 6, 7, 8], [8])])
def aumbryref06_Copy.B1 : List Nat := [0, 1, 0, 4, 12, 0, 32, 124, 255, 511]
theorem aumbryref06_Copy.tab1 : rtab .any (opsOf Try.f76 1) = aumbryref06_Copy.T1 := by kernel_rfl
theorem aumbryref06_Copy.bits1 : waitsOk aumbryref06_Copy.T1.2 aumbryref06_Copy.B1 = true := by kernel_rfl
theorem aumbryref06_Copy.calls (a0_0 : Int) (A0_1 : Option Addr) (c0_1 : Nat) (l0_1 : List (S54)) (A0_2 : Option Addr) (c0_2 : Nat) (l0_2 : List (S54)) (r1 : Int) (r2 : List (S54)) (r3 : List (S54)) (w : World) (hr0_1 : Kd.C k54 w A0_1 l0_1.length l0_1) (hc0_1 : l0_1.length ≤ c0_1) (hr0_2 : Kd.C k54 w A0_2 l0_2.length l0_2) (hc0_2 : l0_2.length ≤ c0_2) (h : aumbryref06_Copy.f a0_0 l0_1 l0_2 = some (r1, r2, r3)) :
 Calls Try.prog 76 #[.agg #[.int .i64 a0_0, .slice A0_1 l0_1.length c0_1, .slice A0_2 l0_2.length c0_2]] w fun e w' => ∃ v1_ v2_ : Value, e = .returned (.agg #[.int .i64 r1, v1_, v2_]) ∧ Kd.R k54 54 w' w.heap.size (fun k_ => some k_ ≠ (v2_ : Value).ownBlock) v1_ r2 ∧ Kd.R k54 54 w' w.heap.size (fun k_ => some k_ ≠ (v1_ : Value).ownBlock) v2_ r3 ∧ Below w.heap.size w w' := by
 have hu73 := Try.underlying73
 have HR0_1 := zM hr0_1
 have HC0_1 := zM hc0_1
 clear hr0_1 hc0_1
 have HR0_2 := zM hr0_2
 have HC0_2 := zM hc0_2
 clear hr0_2 hc0_2
 have HB := zM (Below.refl w.heap.size w)
 have H : ((aumbryref04_Copy.f l0_1).bind fun t103 => ((aumbryref04_Copy.f l0_2).bind fun t106 => (some (a0_0, t103, t106)))) = some (r1, r2, r3) := h
 clear h
 replace H := zB H
 obtain ⟨t103, A20, H⟩ := H
 try dsimp only at H
 have A2 := zM A20
 clear A20
 replace H := zB H
 obtain ⟨t106, A30, H⟩ := H
 try dsimp only at H
 have A3 := zM A30
 clear A30
 simp only [Option.some.injEq, Prod.mk.injEq] at H
 obtain ⟨rfl, rfl, rfl⟩ := H
 go_enter Try.func76, Try.ntmps76
 try go_wp2_with (first | ((with_reducible refine gate_dst (N := 1) rfl ?_); refine box_event ?hg (N := 1) ?hd (cs := #[.int .i64 a0_0, .slice A0_1 l0_1.length c0_1, .slice A0_2 l0_2.length c0_2]) (t := 73) ?hr ?_; (case hd => rfl); (case hg => rfl); (case hr => first | (go_simp; done) | (go_simp; rfl)); intro gb101 hg w4 hbox hb; have BK101 := zM (hbox); have GW101 := zM (zh hg : w.heap.size ≤ gb101); have GE101 := zM (zh hg : w.heap.size ≤ gb101); replace HB := zM (below_step zb hb); clear hb hbox hg) | ((with_reducible refine gate_dst (N := 2) rfl ?_); refine box_event ?hg (N := 2) ?hd (cs := #[.int .i64 0, .slice none 0 0, .slice none 0 0]) (t := 73) ?hr ?_; (case hd => rfl); (case hg => rfl); (case hr => first | (go_simp; done) | (go_simp; rfl)); intro gb102 hg w5 hbox hb; have BK102 := zM (hbox); have GW102 := zM (zh hg : w.heap.size ≤ gb102); have GE102 := zM (zh hg : w.heap.size ≤ gb102); replace HB := zM (below_step zb hb); have NB101_102 := zM ((by rw [hg]; exact Nat.ne_of_lt (blk_lt (zk BK101.out)) : gb101 ≠ gb102)); have NB102_101 := zM ((by rw [hg]; exact Nat.ne_of_gt (blk_lt (zk BK101.out)) : gb102 ≠ gb101)); replace BK101 := zM (blk_below (zk BK101.out) hb); clear hb hbox hg))
 have n0_ := zM (blk_drew BK101.out)
 have n1_ := zM (blk_drew BK102.out)
 have n2_ := zM (zD HB.out)
 clear BK101
 clear BK102
 clear HB
 have BK101 := n0_
 have BK102 := n1_
 have HB := n2_
 clear n0_ n1_ n2_
 refine start_ (n := 10) (S := fun w' => w'.cell? ⟨gb101, 0, none⟩ = some (.int .i64 a0_0) ∧ w'.cell? ⟨gb101, 1, none⟩ = some (.slice A0_1 l0_1.length c0_1) ∧ w'.cell? ⟨gb101, 2, none⟩ = some (.slice A0_2 l0_2.length c0_2)) (ds := []) #[false, false, false, false, false, false, false, false, false, false] (by kernel_rfl) rfl rfl ⟨(zX BK101.out 0).trans rfl, (zX BK101.out 1).trans rfl, (zX BK101.out 2).trans rfl⟩ (fun hHeld => ?_); refine with_tabW aumbryref06_Copy.tab1 aumbryref06_Copy.bits1 (fun HT_ HW_ => ?_)
 generalize w5.drew = w6 at BK101 BK102 HB hHeld ⊢
 refine pure_ (i := 0) (N := some 3) (v := ?_) (a' := ?_) #[true, false, false, false, false, false, false, false, false, false] rfl rfl (any_of HT_.out (by kernel_rfl)) (fun _ _ _ h => h) (Or.inl ⟨by rfl, ?_⟩) ?_ ?_
 rotate_left
 ·
  intro w'
  go_simp
  with_reducible rfl
 rotate_left
 ·
  simp only [Act.put, zp1, zp2, zp3, i64_w, i32_w]
  rfl
 refine pure_ (i := 2) (N := some 5) (v := ?_) (a' := ?_) #[true, false, true, false, false, false, false, false, false, false] rfl rfl (any_of HT_.out (by kernel_rfl)) (fun _ _ _ h => h) (Or.inl ⟨by rfl, ?_⟩) ?_ ?_
 rotate_left
 ·
  intro w'
  go_simp
  with_reducible rfl
 rotate_left
 ·
  simp only [Act.put, zp1, zp2, zp3, i64_w, i32_w]
  rfl
 refine pure_ (i := 5) (N := some 8) (v := ?_) (a' := ?_) #[true, false, true, false, false, true, false, false, false, false] rfl rfl (any_of HT_.out (by kernel_rfl)) (fun _ _ _ h => h) (Or.inl ⟨by rfl, ?_⟩) ?_ ?_
 rotate_left
 ·
  intro w'
  go_simp
  with_reducible rfl
 rotate_left
 ·
  simp only [Act.put, zp1, zp2, zp3, i64_w, i32_w]
  rfl
 refine take_ (i := 1) (N := some 4) (v := ?_) (a' := ?_) #[true, true, true, false, false, true, false, false, false, false] rfl rfl (take_ofW HT_.out HW_.out (by kernel_rfl)) (fun _ _ _ h => h) (Or.inl ⟨by rfl, ?_⟩) hHeld ?_ ?_
 rotate_left
 ·
  rintro w' ⟨s0, s1, s2⟩
  go_simp
  with_reducible rfl
 rotate_left
 ·
  simp only [Act.put, zp1, zp2, zp3, i64_w, i32_w]
  rfl
 refine take_ (i := 3) (N := some 6) (v := ?_) (a' := ?_) #[true, true, true, true, false, true, false, false, false, false] rfl rfl (take_ofW HT_.out HW_.out (by kernel_rfl)) (fun _ _ _ h => h) (Or.inl ⟨by rfl, ?_⟩) hHeld ?_ ?_
 rotate_left
 ·
  rintro w' ⟨s0, s1, s2⟩
  go_simp
  with_reducible rfl
 rotate_left
 ·
  simp only [Act.put, zp1, zp2, zp3, i64_w, i32_w]
  rfl
 refine take_ (i := 6) (N := some 9) (v := ?_) (a' := ?_) #[true, true, true, true, false, true, true, false, false, false] rfl rfl (take_ofW HT_.out HW_.out (by kernel_rfl)) (fun _ _ _ h => h) (Or.inl ⟨by rfl, ?_⟩) hHeld ?_ ?_
 rotate_left
 ·
  rintro w' ⟨s0, s1, s2⟩
  go_simp
  with_reducible rfl
 rotate_left
 ·
  simp only [Act.put, zp1, zp2, zp3, i64_w, i32_w]
  rfl
 refine one_ (i := 4) (N := some 7) #[true, true, true, true, true, true, true, false, false, false] rfl rfl (one_of HT_.out (by kernel_rfl)) (by decide) (fun K hK => ?_)
 refine goes_ Try.func13 (by kernel_rfl) rfl #[.slice A0_1 l0_1.length c0_1] (by rfl) rfl rfl zl ?_
 with_reducible refine (aumbryref04_Copy.calls _ _ l0_1 t103 _ ?side1 ?side2 A2.out).mono ?_
 (case side1 => exact Kd.C_below HR0_1.out zb)
 (case side2 => exact HC0_1.out)
 rintro e w7 ⟨v104, rfl, ho0, hb⟩
 refine ⟨_, rfl, ?_⟩
 have n0_ := zM (Kd.R_lower ho0 (below_size zb))
 have n1_ := zM (blk_below (zk BK101.out) hb)
 have n2_ := zM (blk_below (zk BK102.out) hb)
 have n3_ := zM (below_step zb hb)
 clear BK101
 clear BK102
 clear HB
 have HO105 := n0_
 have BK101 := n1_
 have BK102 := n2_
 have HB := n3_
 clear n0_ n1_ n2_ n3_
 (try clear hb)
 (try clear hb2)
 (try clear hk)
 (try clear hi)
 (try clear ho0)
 refine hK.out _ _ ⟨(zX BK101.out 0).trans rfl, (zX BK101.out 1).trans rfl, (zX BK101.out 2).trans rfl⟩ (fun hHeld => ?_)
 clear hK K
 refine norm_ (a' := ?_) ?_ ?_
 rotate_left
 ·
  show Act.put _ (some 7) _ = _
  simp only [Act.put, zp1, zp2, zp3, i64_w, i32_w]
  rfl
 refine one_ (i := 7) (N := some 10) #[true, true, true, true, true, true, true, true, false, false] rfl rfl (one_of HT_.out (by kernel_rfl)) (by decide) (fun K hK => ?_)
 refine goes_ Try.func13 (by kernel_rfl) rfl #[.slice A0_2 l0_2.length c0_2] (by rfl) rfl rfl zl ?_
 with_reducible refine (aumbryref04_Copy.calls _ _ l0_2 t106 _ ?side1 ?side2 A3.out).mono ?_
 (case side1 => exact Kd.C_below HR0_2.out zb)
 (case side2 => exact HC0_2.out)
 rintro e w8 ⟨v107, rfl, ho0, hb⟩
 refine ⟨_, rfl, ?_⟩
 have n0_ := zM (Kd.R_elder' (zr HO105.out) (Kd.R_base ho0) hb)
 have n1_ := zM (Kd.R_lower (Kd.R_new' ho0 (Kd.R_lt (zr HO105.out))) (below_size zb))
 have n2_ := zM (blk_below (zk BK101.out) hb)
 have n3_ := zM (blk_below (zk BK102.out) hb)
 have n4_ := zM (below_step zb hb)
 clear HO105
 clear BK101
 clear BK102
 clear HB
 have HO105 := n0_
 have HO108 := n1_
 have BK101 := n2_
 have BK102 := n3_
 have HB := n4_
 clear n0_ n1_ n2_ n3_ n4_
 (try clear hb)
 (try clear hb2)
 (try clear hk)
 (try clear hi)
 (try clear ho0)
 obtain ⟨Ao9, co9, eo9⟩ := Kd.R_slice HO108.out
 (first | subst eo9 | (injection eo9 with f1_ f2_ f3_; have f4_ := f1_.symm; have f5_ := f3_.symm; clear f1_ f2_ f3_; subst f4_; subst f5_))
 obtain ⟨Ao10, co10, eo10⟩ := Kd.R_slice HO105.out
 (first | subst eo10 | (injection eo10 with f1_ f2_ f3_; have f4_ := f1_.symm; have f5_ := f3_.symm; clear f1_ f2_ f3_; subst f4_; subst f5_))
 refine hK.out _ _ ⟨(zX BK101.out 0).trans rfl, (zX BK101.out 1).trans rfl, (zX BK101.out 2).trans rfl⟩ (fun hHeld => ?_)
 clear hK K
 refine norm_ (a' := ?_) ?_ ?_
 rotate_left
 ·
  show Act.put _ (some 10) _ = _
  simp only [Act.put, zp1, zp2, zp3, i64_w, i32_w]
  rfl
 refine pure_ (i := 8) (N := some 11) (v := ?_) (a' := ?_) #[true, true, true, true, true, true, true, true, true, false] rfl rfl (any_of HT_.out (by kernel_rfl)) (fun _ _ _ h => h) (Or.inl ⟨by rfl, ?_⟩) ?_ ?_
 rotate_left
 ·
  intro w'
  go_simp
  with_reducible rfl
 rotate_left
 ·
  simp only [Act.put, zp1, zp2, zp3, i64_w, i32_w]
  rfl
 refine one_ (i := 9) (N := none) #[true, true, true, true, true, true, true, true, true, true] rfl rfl (one_of HT_.out (by kernel_rfl)) (by decide) (fun K hK => ?_)
 have hs11 : w8.cell? ⟨gb102, 0, none⟩ = some (.int .i64 0) := (zX BK102.out 0).trans rfl
 have hfs11 := zY BK102.out 0
 have hns11_0 := NB101_102.out
 have hms11_0 := NB102_101.out
 have hs12 : w8.cell? ⟨gb102, 1, none⟩ = some (.slice none 0 0) := (zX BK102.out 1).trans rfl
 have hfs12 := zY BK102.out 1
 have hns12_0 := NB101_102.out
 have hms12_0 := NB102_101.out
 have hs13 : w8.cell? ⟨gb102, 2, none⟩ = some (.slice none 0 0) := (zX BK102.out 2).trans rfl
 have hfs13 := zY BK102.out 2
 have hns13_0 := NB101_102.out
 have hms13_0 := NB102_101.out
 refine skip_ (w1 := ?_) (by rfl) rfl ?_ ?_
 rotate_left
 ·
  go_simp
  rfl
 refine hK.out _ _ ⟨((cell_far (p := ⟨gb102, _, none⟩) NB101_102.out _).trans (((cell_far (p := ⟨gb102, _, none⟩) NB101_102.out _).trans (((cell_far (p := ⟨gb102, _, none⟩) NB101_102.out _).trans (hHeld.1)))))), ((cell_far (p := ⟨gb102, _, none⟩) NB101_102.out _).trans (((cell_far (p := ⟨gb102, _, none⟩) NB101_102.out _).trans (((cell_far (p := ⟨gb102, _, none⟩) NB101_102.out _).trans (hHeld.2.1)))))), ((cell_far (p := ⟨gb102, _, none⟩) NB101_102.out _).trans (((cell_far (p := ⟨gb102, _, none⟩) NB101_102.out _).trans (((cell_far (p := ⟨gb102, _, none⟩) NB101_102.out _).trans (hHeld.2.2))))))⟩ (fun hHeld => ?_)
 clear hK K
 refine done_ (done_of HT_.out (by kernel_rfl)) ?_
 try go_wp2
 refine bodyPost_ret (results_cell_row rfl _ _ gb102 73 #[.int .i64 a0_0, .slice Ao10 t103.length co10, .slice Ao9 t106.length co9] (0, 0) _ rfl (by refine zk ?_; refine blk_put (cs := #[.int .i64 a0_0, .slice Ao10 t103.length co10, .slice none 0 0]) ?_ 2 _ rfl; refine zk ?_; refine blk_put (cs := #[.int .i64 a0_0, .slice none 0 0, .slice none 0 0]) ?_ 1 _ rfl; refine zk ?_; refine blk_put (cs := #[.int .i64 0, .slice none 0 0, .slice none 0 0]) ?_ 0 _ rfl; refine zk ?_; exact BK102.out) Try.underlying73 rfl (by kernel_rfl)) rfl ?_
 exact ⟨_, _, zw, by (with_reducible repeat (first | apply Kd.R_alloc | apply Kd.R_drewN | apply Kd.R_drew)); exact Kd.R_mono (Kd.R_far (p := ⟨gb102, 2, none⟩) (Kd.R_far (p := ⟨gb102, 1, none⟩) (Kd.R_far (p := ⟨gb102, 0, none⟩) (Kd.R_types HO105.out BK102.out (by decide)) (fun _ hk => hk.2) (.int .i64 a0_0)) (fun _ hk => hk.2) (.slice Ao10 t103.length co10)) (fun _ hk => hk.2) (.slice Ao9 t106.length co9)) (fun _ hk => hk.1.2), by (with_reducible repeat (first | apply Kd.R_alloc | apply Kd.R_drewN | apply Kd.R_drew)); exact Kd.R_mono (Kd.R_far (p := ⟨gb102, 2, none⟩) (Kd.R_far (p := ⟨gb102, 1, none⟩) (Kd.R_far (p := ⟨gb102, 0, none⟩) (Kd.R_types HO108.out BK102.out (by decide)) (fun _ hk => hk.2) (.int .i64 a0_0)) (fun _ hk => hk.2) (.slice Ao10 t103.length co10)) (fun _ hk => hk.2) (.slice Ao9 t106.length co9)) (fun _ hk => hk.1.2), zb⟩


-- ==== PF50

def aumbryref06_CopyAll.l0 : Nat → List (S73) → List (S73) → Int → Int → Option ((List (S73)))
 | 0, _, _, _, _ => none
 | k + 1, x0, x3, x6, x7 => if x7 < x6 then (if 0 ≤ x7 then (if x7 < (x0.length : Int) then ((aumbryref06_Copy.f ((rd_T73 x0 x7).f0) ((rd_T73 x0 x7).f1) ((rd_T73 x0 x7).f2)).bind fun bt102 => (if x3.length < 2513169434916 then (aumbryref06_CopyAll.l0 k x0 (x3 ++ [(⟨bt102.1, bt102.2.1, bt102.2.2⟩ : S73)]) x6 (wrap64 (x7 + 1))) else (none))) else (none)) else (none)) else (some x3)
def aumbryref06_CopyAll.f (k : Nat) (l0 : List (S73)) : Option ((List (S73))) := aumbryref06_CopyAll.l0 k l0 ([] : List (S73)) (l0.length : Int) 0
theorem aumbryref06_CopyAll.calls (k : Nat) (A0 : Option Addr) (c0 : Nat) (l0 : List (S73)) (r : List (S73)) (w : World) (hr0 : Kd.C k73 w A0 l0.length l0) (hc0 : l0.length ≤ c0) (h : aumbryref06_CopyAll.f k l0 = some r) :
 Calls Try.prog 50 #[.slice A0 l0.length c0] w fun e w' => ∃ v0_ : Value, e = .returned (v0_) ∧ Kd.S k73 73 w' w.heap.size (fun _ => True) v0_ r ∧ Below w.heap.size w w' := by
 have hu73 := Try.underlying73
 have HR0 := zM hr0
 have HC0 := zM hc0
 clear hr0 hc0
 have HB := zM (Below.refl w.heap.size w)
 have H : (aumbryref06_CopyAll.l0 k l0 ([] : List (S73)) (l0.length : Int) 0) = some r := h
 clear h
 have H' := zM H
 clear H
 go_enter Try.func50, Try.ntmps50
 go_wp2
 go_loopg [3, 7] k (fun kq v3 v7 w' => ∃ (x3_1 : List (S73)) (x7_1 : Int), v7 = .int .i64 x7_1 ∧ Aside0 (aumbryref06_CopyAll.l0 kq l0 x3_1 (l0.length : Int) x7_1 = some r) ∧ Aside0 (kq ≤ k) ∧ Aside0 (Kd.S k73 73 w' w.heap.size (fun _ => True) v3 x3_1) ∧ Aside0 (Below w.heap.size w w'))
 case atStart => exact ⟨(([] : List (S73))), (0), zy, H', ⟨Nat.le_refl _⟩, ⟨by first | exact Kd.S_nil _ _ _ _ _ | exact Kd.N_nil _ _ _ _ _ | exact Kd.V_nil _ _ _ _ _ | exact Kd.Q_nil _ _ _ _ _ | exact Kd.R_nil _ _ _ _ _⟩, ⟨zb⟩⟩
 case round =>
  clear H'
  obtain ⟨x3_1, x7_1, rfl, HA, HK1, HO_3, HB⟩ := hrel
  cases gk with
  | zero => exact absurd HA.out (by simp [aumbryref06_CopyAll.l0])
  | succ k1 =>
   have H := HA.out
   clear HA
   simp only [aumbryref06_CopyAll.l0] at H
   by_cases c2 : x7_1 < (l0.length : Int)
   ·
    rw [if_pos c2] at H
    have c2b0 : decide (x7_1 < (l0.length : Int)) = true := zQ c2
    clear c2
    by_cases c3 : 0 ≤ x7_1
    ·
     rw [if_pos c3] at H
     have c3b0 : decide (0 ≤ x7_1) = true := zQ c3
     clear c3
     by_cases c4 : x7_1 < (l0.length : Int)
     ·
      rw [if_pos c4] at H
      have c4b0 : decide (x7_1 < (l0.length : Int)) = true := zQ c4
      clear c4
      replace H := zB H
      obtain ⟨⟨t102, t103, t106⟩, A50, H⟩ := H
      try dsimp only at H
      have A5 := zM A50
      clear A50
      by_cases c6 : x3_1.length < 2513169434916
      ·
       rw [if_pos c6] at H
       have LMc6 := zM c6
       clear c6
       obtain ⟨y109, hy109⟩ : ∃ y_ : List (S73), y_ = (x3_1 ++ [(⟨t102, t103, t106⟩ : S73)]) := ⟨_, rfl⟩
       replace H : (aumbryref06_CopyAll.l0 k1 l0 y109 (l0.length : Int) (wrap64 (x7_1 + 1))) = some r := by first | (rw [hy109]; with_reducible exact H) | (have H2_ := (Option.bind_some _ _).symm.trans H; rw [hy109]; with_reducible exact H2_) | (have H2_ := (Option.bind_some _ _).symm.trans H; with_reducible exact H2_) | with_reducible exact H | (rw [hy109]; exact H) | exact H
       have Ny109 := zM hy109
       clear hy109
       have H' := zM H
       clear H
       have p101 : 0 ≤ (x7_1 : Int) := zT zv
       have q101 : x7_1 < (l0.length : Int) := zT zv
       obtain ⟨ad101, A101_1, c101_1, A101_2, c101_2, e101, hx101_0, hx101_1, hx101_2, hl101_1, hi101_1, hl101_2, hi101_2⟩ := at_T73 HR0.out x7_1 p101 q101
       cases e101
       replace hx101_0 := (HB.out.cell (World.block_lt_of_cell? w _ hx101_0)).trans hx101_0
       replace hx101_1 := (HB.out.cell (World.block_lt_of_cell? w _ hx101_1)).trans hx101_1
       replace hx101_2 := (HB.out.cell (World.block_lt_of_cell? w _ hx101_2)).trans hx101_2
       have HR101_1 := zM hi101_1
       have HC101_1 := zM hl101_1
       clear hi101_1 hl101_1
       have HR101_2 := zM hi101_2
       have HC101_2 := zM hl101_2
       clear hi101_2 hl101_2
       replace p101 := eq_true p101
       replace q101 := eq_true q101
       go_wp2_with (first | ((with_reducible refine gate_callee (f := 76) rfl ?_); refine goesL_ (some 15) rfl rfl Try.func76 (by kernel_rfl) rfl #[.agg #[.int .i64 ((rd_T73 l0 x7_1).f0), .slice A101_1 ((rd_T73 l0 x7_1).f1).length c101_1, .slice A101_2 ((rd_T73 l0 x7_1).f2).length c101_2]] rfl zl ?_; (with_reducible refine (aumbryref06_Copy.calls ((rd_T73 l0 x7_1).f0) _ _ ((rd_T73 l0 x7_1).f1) _ _ ((rd_T73 l0 x7_1).f2) t102 t103 t106 _ ?side1 ?side2 ?side3 ?side4 A5.out).mono ?_); (case side1 => exact Kd.C_below HR101_1.out zb); (case side2 => exact HC101_1.out); (case side3 => exact Kd.C_below HR101_2.out zb); (case side4 => exact HC101_2.out); rintro e w7 ⟨v104, v107, rfl, ho0, ho1, hb⟩; refine ⟨_, rfl, ?_⟩; replace HO_3 := zM (Kd.S_mono (Kd.S_told (Kd.S_told (Kd.S_old (Kd.S_below HO_3.out zg) hb) (Kd.R_base ho0)) (Kd.R_base ho1)) (fun _ h_ => h_.1)); have HO105 := zM (Kd.R_lower ho0 (below_size zb)); have HO108 := zM (Kd.R_lower ho1 (below_size zb)); replace HB := zM (below_step zb hb); (try clear hb); (try clear ho0); (try clear ho1); obtain ⟨Ao9, co9, eo9⟩ := Kd.R_slice HO105.out; subst eo9; obtain ⟨Ao10, co10, eo10⟩ := Kd.R_slice HO108.out; subst eo10) | ((with_reducible refine gate_builtin (b := .append) (xs := #[.tmp 10, .tmp 16]) rfl ?_); at_builtin; refine Kd.S_append k73 (w0 := w) w.heap.size rfl (.tmp 10) (.tmp 16) 41 73 (.agg #[(.int .i64 0), (.slice none 0 0), (.slice none 0 0)]) 56 rfl Try.underlying41 info73 rfl (by decide) (by omega) u3 x3_1 (⟨t102, t103, t106⟩ : S73) [.int .i64 t102, .slice Ao9 t103.length co9, .slice Ao10 t106.length co10] (fun _ => True) (fun k_ => some k_ = (.slice Ao9 t103.length co9 : Value).ownBlock ∨ some k_ = (.slice Ao10 t106.length co10 : Value).ownBlock) rfl rfl ?aP (fun k_ hk_ => hk_.elim (fun h_ => ((Kd.R_mono (ok' := fun k_ => ((fun _ => True)) k_ ∧ some k_ ≠ (u3 : Value).ownBlock) (Kd.R_apart' (HO105.out) (Kd.S_typed HO_3.out) (by decide)) (fun k_ hk => ⟨trivial, hk.2⟩))).1 k_ h_.symm) (fun h_ => ((Kd.R_mono (ok' := fun k_ => ((fun _ => True)) k_ ∧ some k_ ≠ (u3 : Value).ownBlock) (Kd.R_apart' (HO108.out) (Kd.S_typed HO_3.out) (by decide)) (fun k_ hk => ⟨trivial, hk.2⟩))).1 k_ h_.symm)) ?aF ?aO ?aB ?aS ?aL ?_; (case aP => exact k73_mkM _ _ _ (⟨t102, t103, t106⟩ : S73) (Kd.R_mono (Kd.R_tight rfl (Kd.R_mono (ok' := fun k_ => ((fun _ => True)) k_ ∧ some k_ ≠ (u3 : Value).ownBlock) (Kd.R_apart' (HO105.out) (Kd.S_typed HO_3.out) (by decide)) (fun k_ hk => ⟨trivial, hk.2⟩))) (fun _ h_ => Or.inl h_)) (Kd.R_mono (Kd.R_tight rfl (Kd.R_mono (ok' := fun k_ => ((fun _ => True)) k_ ∧ some k_ ≠ (u3 : Value).ownBlock) (Kd.R_apart' (HO108.out) (Kd.S_typed HO_3.out) (by decide)) (fun k_ hk => ⟨trivial, hk.2⟩))) (fun _ h_ => Or.inr (h_)))); (case aB => exact zb); (case aF => exact (fun _ _ => trivial)); (case aO => exact (by (with_reducible repeat (first | apply Kd.S_alloc | apply Kd.S_drewN | apply Kd.S_drew)); exact Kd.S_mono HO_3.out (fun k_ hk => ⟨trivial, fun e_ => e_.elim (fun h_ => hk.1.2 h_) (fun h_ => hk.2 h_)⟩))); (case aS => exact (below_size zb)); (case aL => have := LMc6.out; omega); intro v110 w8 ho hb hg hat; rw [← Ny109.out] at ho; replace HB := zM (hb); have HO111 := zM (ho); clear HO105 HO108 HO_3; clear ho hb hg hat))
       go_roundg k1
       case measure => have := HK1.out; omega
       case rel => exact ⟨(y109), (wrap64 (x7_1 + 1)), zy, H', ⟨by have := HK1.out; omega⟩, ⟨Kd.S_below HO111.out zg⟩, ⟨zb⟩⟩
      ·
       rw [if_neg c6] at H
       exact absurd H (by simp)
     ·
      rw [if_neg c4] at H
      exact absurd H (by simp)
    ·
     rw [if_neg c3] at H
     exact absurd H (by simp)
   ·
    rw [if_neg c2] at H
    have c2b0 : decide (x7_1 < (l0.length : Int)) = false := zR c2
    clear c2
    obtain rfl := zS H
    go_wp2
    go_ret
    exact ⟨_, zw, Kd.S_below HO_3.out zg, zb⟩


-- ==== PF21

def aumbrylaw07_rules.f (k : Nat) (l0 : List (S73)) : Option ((List (S73))) := (aumbryref06_CopyAll.f k l0).bind fun t101 => (some t101)
theorem aumbrylaw07_rules.calls (k : Nat) (A0 : Option Addr) (c0 : Nat) (l0 : List (S73)) (r : List (S73)) (w : World) (hr0 : Kd.C k73 w A0 l0.length l0) (hc0 : l0.length ≤ c0) (h : aumbrylaw07_rules.f k l0 = some r) :
 Calls Try.prog 21 #[.slice A0 l0.length c0] w fun e w' => ∃ v0_ : Value, e = .returned (v0_) ∧ Kd.S k73 73 w' w.heap.size (fun _ => True) v0_ r ∧ Below w.heap.size w w' := by
 have HR0 := zM hr0
 have HC0 := zM hc0
 clear hr0 hc0
 have HB := zM (Below.refl w.heap.size w)
 have H : ((aumbryref06_CopyAll.f k l0).bind fun t101 => (some t101)) = some r := h
 clear h
 replace H := zB H
 obtain ⟨t101, A20, H⟩ := H
 try dsimp only at H
 have A2 := zM A20
 clear A20
 obtain rfl := zS H
 go_enter Try.func21, Try.ntmps21
 go_wp2_with (first | ((with_reducible refine gate_callee (f := 50) rfl ?_); refine goesL_ (some 4) rfl rfl Try.func50 (by kernel_rfl) rfl #[.slice A0 l0.length c0] rfl zl ?_; (with_reducible refine (aumbryref06_CopyAll.calls k _ _ l0 t101 _ ?side1 ?side2 A2.out).mono ?_); (case side1 => exact Kd.C_below HR0.out zg); (case side2 => exact HC0.out); rintro e w3 ⟨v102, rfl, ho0, hb⟩; refine ⟨_, rfl, ?_⟩; have HO103 := zM (Kd.S_lower ho0 (below_size zb)); replace HB := zM (below_step zb hb); (try clear hb); (try clear ho0)))
 go_ret
 exact ⟨_, zw, Kd.S_below HO103.out zg, zb⟩


-- ==== PF35

def aumbryref07_Turned.l0 : Nat → List (S70) → List (S70) → Int → Option ((List (S70)))
 | 0, _, _, _ => none
 | k + 1, x0, x3, x4 => if x4 ≥ 0 then (if 0 ≤ x4 then (if x4 < (x0.length : Int) then (if x3.length < 2513169434916 then (aumbryref07_Turned.l0 k x0 (x3 ++ [(⟨(rd_T70 x0 x4).f0, (⟨(rd_T70 x0 x4).f1.f0, (rd_T70 x0 x4).f1.f1⟩ : S54), (rd_T70 x0 x4).f2⟩ : S70)]) (wrap64 (x4 - 1))) else (none)) else (none)) else (none)) else (some x3)
def aumbryref07_Turned.f (k : Nat) (l0 : List (S70)) : Option ((List (S70))) := aumbryref07_Turned.l0 k l0 ([] : List (S70)) (wrap64 ((l0.length : Int) - 1))

-- ==== PF14

def aumbryref07_Start.f (k : Nat) (l0 : List (S54)) : Option ((List (S70)) × (List (List (S54))) × Int × List ByteArray × Int) := (aumbryref04_Check.f k l0).bind fun t102 => (if t102 = 0 then ((aumbryref07_Ground.f k l0).bind fun t103 => (if t103 = true then ((aumbryref07_Todo.f k l0 ([] : List (S104))).bind fun t104 => ((aumbryref07_Turned.f k t104).bind fun t107 => (some (t107, ([] : List (List (S54))), 0, ([] : List ByteArray), 0)))) else (some (([] : List (S70)), ([] : List (List (S54))), 0, ([] : List ByteArray), 7)))) else (some (([] : List (S70)), ([] : List (List (S54))), 0, ([] : List ByteArray), t102)))

-- ==== PF58

def aumbryref05_Put.l0 : Nat → List (S54) → List (S104) → List (S54) → Int → Int → Option ((List (S54)))
 | 0, _, _, _, _, _ => none
 | k + 1, x0, x1, x5, x8, x9 => if x9 < x8 then (if 0 ≤ x9 then (if x9 < (x0.length : Int) then ((aumbryref03_Kind.f k ((rd_T54 x0 x9).f0)).bind fun t102 => (if t102 = 2 then ((aumbryref05_At.f k x1 ((rd_T54 x0 x9).f0)).bind fun t104 => (if 0 ≤ t104 then (if t104 < (x1.length : Int) then (if x5.length + ((rd_T104 x1 t104).f1).length < 5864062014805 then (aumbryref05_Put.l0 k x0 x1 (x5 ++ ((rd_T104 x1 t104).f1)) x8 (wrap64 (x9 + 1))) else (none)) else (none)) else (none))) else (if x5.length < 5864062014805 then (aumbryref05_Put.l0 k x0 x1 (x5 ++ [(⟨(rd_T54 x0 x9).f0, (rd_T54 x0 x9).f1⟩ : S54)]) x8 (wrap64 (x9 + 1))) else (none)))) else (none)) else (none)) else (some x5)
def aumbryref05_Put.f (k : Nat) (l0 : List (S54)) (l1 : List (S104)) : Option ((List (S54))) := aumbryref05_Put.l0 k l0 l1 ([] : List (S54)) (l0.length : Int) 0

-- ==== PF26

mutual
def aumbryref07_Inner.l0 : Nat → List (S73) → List (S54) → Int → Option ((List (S54)) × Int × Int)
 | 0, _, _, _ => none
 | k + 1, x0, x1, x2 => (aumbryref04_Kids.f k x1).bind fun t101 => (if 0 < (x1.length : Int) then (aumbryref07_Inner.l1 k x0 x2 t101 (([(⟨(rd_T54 x1 0).f0, (rd_T54 x1 0).f1⟩ : S54)] : List (S54))) (t101.length : Int) 0) else (none))
def aumbryref07_Inner.l1 : Nat → List (S73) → Int → List (List (S54)) → List (S54) → Int → Int → Option ((List (S54)) × Int × Int)
 | 0, _, _, _, _, _, _ => none
 | k + 1, x0, x2, x9, x10, x25, x26 => if x26 < x25 then (if 0 ≤ x26 then (if x26 < (x9.length : Int) then ((aumbryref07_Inner.f k x0 (rd_L3 x9 x26) x2).bind fun bt109 => (if bt109.2.2 = 0 then (if x10.length + bt109.1.length < 5864062014805 then (aumbryref07_Inner.l1 k x0 bt109.2.1 x9 (x10 ++ bt109.1) x25 (wrap64 (x26 + 1))) else (none)) else (some (([] : List (S54)), 0, bt109.2.2)))) else (none)) else (none)) else (if (x10.length : Int) > 64 then (some (([] : List (S54)), 0, 6)) else ((aumbryref07_First.f k x0 x10).bind fun bt117 => (if bt117.1 < 0 then (some (x10, x2, 0)) else (if x2 ≤ 0 then (some (([] : List (S54)), 0, 14)) else (if 0 ≤ bt117.1 then (if bt117.1 < (x0.length : Int) then ((aumbryref05_Var.f k ((rd_T73 x0 bt117.1).f2)).bind fun t122 => (if t122 = true then (if 0 < (((rd_T73 x0 bt117.1).f2).length : Int) then ((aumbryref05_At.f k bt117.2 ((rd_T54 ((rd_T73 x0 bt117.1).f2) 0).f0)).bind fun t124 => (if 0 ≤ t124 then (if t124 < (bt117.2.length : Int) then ((aumbryref04_Copy.f ((rd_T104 bt117.2 t124).f1)).bind fun t126 => (some (t126, wrap64 (x2 - 1), 0))) else (none)) else (none))) else (none)) else ((aumbryref05_Put.f k ((rd_T73 x0 bt117.1).f2) bt117.2).bind fun t129 => (if (t129.length : Int) > 4000 then (some (([] : List (S54)), 0, 6)) else (aumbryref07_Inner.l0 k x0 t129 (wrap64 (x2 - 1))))))) else (none)) else (none))))))
def aumbryref07_Inner.f : Nat → List (S73) → List (S54) → Int → Option ((List (S54)) × Int × Int)
 | 0, _, _, _ => none
 | k + 1, l0, l1, a2 => aumbryref07_Inner.l0 k l0 l1 a2
end

-- ==== PF17

def aumbryref07_Copy.l0 : Nat → Int → Int → List (S70) → List (List (S54)) → Int → List ByteArray → List (S70) → List (List (S54)) → Int → Option ((List (S70)) × (List (List (S54))) × Int × List ByteArray)
 | 0, _, _, _, _, _, _, _, _, _ => none
 | k + 1, x14, x15, x102000, x102001, x102002, x102003, x107000, x107001, x107002 => if x15 < x14 then (if 0 ≤ x15 then (if x15 < (x102000.length : Int) then ((aumbryref04_Copy.f ((rd_T70 x102000 x15).f2)).bind fun t109 => (if x107000.length < 2513169434916 then (aumbryref07_Copy.l0 k x14 (wrap64 (x15 + 1)) x102000 x102001 x102002 x102003 (x107000 ++ [(⟨(rd_T70 x102000 x15).f0, (⟨(rd_T70 x102000 x15).f1.f0, (rd_T70 x102000 x15).f1.f1⟩ : S54), t109⟩ : S70)]) x107001 x107002) else (none))) else (none)) else (none)) else (if ([] : List ByteArray).length + x102003.length < 8796093022208 then (some (x107000, x107001, x107002, (([] : List ByteArray) ++ x102003))) else (none))
def aumbryref07_Copy.f (k : Nat) (l0_0 : List (S70)) (l0_1 : List (List (S54))) (a0_2 : Int) (l0_3 : List ByteArray) : Option ((List (S70)) × (List (List (S54))) × Int × List ByteArray) := (aumbryref04_CopyAll.f k l0_1).bind fun t103 => (aumbryref07_Copy.l0 k (l0_0.length : Int) 0 l0_0 l0_1 a0_2 l0_3 ([] : List (S70)) t103 a0_2)
def aumbryref07_Copy.T1 : Bool × List (List Nat × List Nat) := (true, [([], []), ([0], [0]), ([1], [1]), ([], []), ([3], [3]), ([2, 4], [2, 4]), ([], []), ([6, 5, 2, 0, 1, 2, 3, 4, 5, 6], [5, 6])])
def aumbryref07_Copy.B1 : List Nat := [0, 1, 3, 0, 8, 31, 0, 127]

-- ==== PF15

attribute [local go_sem high] eqA54
mutual
def aumbryref07_Same.j0 : Nat → Bool → List (S70) → List (List (S54)) → Int → List ByteArray → List (S70) → List (List (S54)) → Int → List ByteArray → Option (Bool)
 | 0, _, _, _, _, _, _, _, _, _ => none
 | k + 1, x35, x102000, x102001, x102002, x102003, x103000, x103001, x103002, x103003 => if x35 = true then (some false) else (aumbryref07_Same.l0 k (x102000.length : Int) 0 x102000 x102001 x102002 x102003 x103000 x103001 x103002 x103003)
def aumbryref07_Same.l0 : Nat → Int → Int → List (S70) → List (List (S54)) → Int → List ByteArray → List (S70) → List (List (S54)) → Int → List ByteArray → Option (Bool)
 | 0, _, _, _, _, _, _, _, _, _, _ => none
 | k + 1, x38, x39, x102000, x102001, x102002, x102003, x103000, x103001, x103002, x103003 => if x39 < x38 then (if 0 ≤ x39 then (if x39 < (x102000.length : Int) then (if x39 < (x103000.length : Int) then (if ((rd_T70 x102000 x39).f0) = ((rd_T70 x103000 x39).f0) then (if (!((((rd_T70 x102000 x39).f1.f0).toList) == (((rd_T70 x103000 x39).f1.f0).toList)) || (!(((rd_T70 x102000 x39).f1.f1) == ((rd_T70 x103000 x39).f1.f1)))) = true then (some false) else ((aumbryref04_Same.f k ((rd_T70 x102000 x39).f2) ((rd_T70 x103000 x39).f2)).bind fun t111 => (if t111 = true then (aumbryref07_Same.l0 k x38 (wrap64 (x39 + 1)) x102000 x102001 x102002 x102003 x103000 x103001 x103002 x103003) else (some false)))) else (some false)) else (none)) else (none)) else (none)) else (some true)
end
def aumbryref07_Same.f (k : Nat) (l0_0 : List (S70)) (l0_1 : List (List (S54))) (a0_2 : Int) (l0_3 : List ByteArray) (l1_0 : List (S70)) (l1_1 : List (List (S54))) (a1_2 : Int) (l1_3 : List ByteArray) : Option (Bool) := if (l0_0.length : Int) = (l1_0.length : Int) then (if a0_2 = a1_2 then ((aumbryref03_Same.f k l0_3 l1_3).bind fun t103 => (if t103 = true then ((aumbryref04_SameAll.f k l0_1 l1_1).bind fun t104 => (aumbryref07_Same.j0 k (!t104) l0_0 l0_1 a0_2 l0_3 l1_0 l1_1 a1_2 l1_3)) else (aumbryref07_Same.j0 k true l0_0 l0_1 a0_2 l0_3 l1_0 l1_1 a1_2 l1_3))) else (aumbryref07_Same.j0 k true l0_0 l0_1 a0_2 l0_3 l1_0 l1_1 a1_2 l1_3)) else (aumbryref07_Same.j0 k true l0_0 l0_1 a0_2 l0_3 l1_0 l1_1 a1_2 l1_3)
end Go.Proofs.Ytdlkhpfgkghhmaa.P

-- ==== Rw1
namespace Go.Proofs.Ytdlkhpfgkghhmaa.P
open Go.RowKit Go.Proofs.YtdlkhpfgkghhmaaW.PrintWords Go.Proofs.YtdlkhpfgkghhmaaW.PrintLast Go.Proofs.YtdlkhpfgkghhmaaW.PrintMore

def IsMc (B : Nat) (W : World) (g : Nat) (rv tv : Value) (ops : List S70) (vals : List (List S54)) (st : Int) (hd : List ByteArray) (fu : Int) : Prop :=
 ∃ vo vv vh, W.heap[g]? = some (.cells #[vo, vv, .int .i64 st, vh, rv, tv, .int .i64 fu] 94 (0, 0)) ∧ B ≤ g ∧ Kd.R k70 70 W B (fun _ => True) vo ops ∧ Kd.R (Kd.slice 54 k54) 23 W B (fun _ => True) vv vals ∧ Kd.R Kd.string 9 W B (fun _ => True) vh hd

theorem fin_calls {B g : Nat} {w : World} {rv tv : Value} {ops : List S70} {o : S70} {vals args : List (List S54)} {st fu : Int} {hd : List ByteArray} {A : Option Addr} {c : Nat} {t : List S54}
 (h : IsMc B w g rv tv (ops ++ [o]) (vals ++ args) st hd fu) (ht : Kd.R k54 54 w B (fun _ => True) (.slice A t.length c) t) (hl : (vals.length + 1) * 24 ≤ 140737488355328) :
 Calls Try.prog 48 #[.pointer (some ⟨g, 0, none⟩), .int .i64 (args.length : Int), .slice A t.length c] w fun e w' => e = .returned (.tuple #[]) ∧ IsMc B w' g rv tv ops (vals ++ [t]) st hd fu ∧ Below B w w' := by
 obtain ⟨vo, vv, vh, hb, hg, hO, hV, hH⟩ := h
 obtain ⟨Ao, co, rfl⟩ := Kd.R_slice hO
 obtain ⟨Av, cv, rfl⟩ := Kd.R_slice hV
 obtain ⟨_, hco, hCo⟩ := Kd.R_reads' hO
 obtain ⟨_, hcv, hCv⟩ := Kd.R_reads' hV
 obtain ⟨N, hN⟩ : ∃ N, N = (ops ++ [o]).length := ⟨_, rfl⟩
 obtain ⟨M, hM⟩ : ∃ M, M = (vals ++ args).length := ⟨_, rfl⟩
 rw [← hN] at hb hco hCo hO
 rw [← hM] at hb hcv hCv hV
 have hNb := hCo.2.1
 have hMb := hCv.2.1
 have hN1 : N = ops.length + 1 := by rw [hN]; simp
 have hM1 : M = vals.length + args.length := by rw [hM]; simp
 have hc0 : w.cell? ⟨g, 0, none⟩ = some (.slice Ao N co) := (blk_cell hb 0).trans rfl
 have hc1 : w.cell? ⟨g, 1, none⟩ = some (.slice Av M cv) := (blk_cell hb 1).trans rfl
 have hf0 := blk_frozen hb 0
 have hf1 := blk_frozen hb 1
 have hw0 : IntKind.i64.wrap ((N : Int) - 1) = (N : Int) - 1 := IntWalk.i64_in _ (by omega)
 have hw1 : IntKind.i64.wrap ((M : Int) - (args.length : Int)) = (M : Int) - (args.length : Int) := IntWalk.i64_in _ (by omega)
 obtain ⟨i70, hi70, _, hs70, _⟩ := info_parts info70
 obtain ⟨i23, hi23, _, hs23, _⟩ := info_parts info23
 have hcutO := cut_to (P := Try.prog) 24 70 .i64 Try.underlying24 hi70 Ao N co ((N : Int) - 1) (by omega) (by omega) hco
 have hcutV := cut_to (P := Try.prog) 25 23 .i64 Try.underlying25 hi23 Av M cv ((M : Int) - (args.length : Int)) (by omega) (by omega) hcv
 rw [show ((N : Int) - 1).toNat = ops.length by omega] at hcutO
 rw [show ((M : Int) - (args.length : Int)).toNat = vals.length by omega] at hcutV
 have HO := Aside0.mk hO
 have HV := Aside0.mk hV
 have HH := Aside0.mk hH
 have HT := Aside0.mk ht
 have HG := Aside0.mk hg
 have HBK := Aside0.mk hb
 have HL := Aside0.mk (show N = ops.length + 1 ∧ M = vals.length + args.length from ⟨hN1, hM1⟩)
 clear hO hV hH ht hg hb hN1 hM1 hN hM hCo hCv hco hcv
 go_enter Try.func48, Try.ntmps48
 go_wp2
 go_region
 have HBK1 := Aside0.mk (show _ = _ from (by simpa using blk_set HBK.out 0 (.slice Ao ops.length co) : (w.setCell ⟨g, 0, none⟩ (.slice Ao ops.length co)).heap[g]? = some (.cells #[.slice Ao ops.length co, .slice Av M cv, .int .i64 st, vh, rv, tv, .int .i64 fu] 94 (0, 0))) : (w.setCell ⟨g, 0, none⟩ (.slice Ao ops.length co)).drew.heap[g]? = some (.cells #[.slice Ao ops.length co, .slice Av M cv, .int .i64 st, vh, rv, tv, .int .i64 fu] 94 (0, 0)))
 have HO1 := Aside0.mk (Kd.R_drew (Kd.R_set (show Kd.R k70 70 w B (fun _ => True) (.slice Ao ops.length co) ops from by have := Kd.R_take (m := ops.length) HO.out (by simp); rwa [List.take_left] at this) HBK.out (by decide) 0 (.slice Ao ops.length co)))
 have HV1 := Aside0.mk (Kd.R_drew (Kd.R_set (show Kd.R (Kd.slice 54 k54) 23 w B (fun _ => True) (.slice Av vals.length cv) vals from by have := Kd.R_take (m := vals.length) HV.out (by simp); rwa [List.take_left] at this) HBK.out (by decide) 0 (.slice Ao ops.length co)))
 have HH1 := Aside0.mk (Kd.R_drew (Kd.R_set HH.out HBK.out (by decide) 0 (.slice Ao ops.length co)))
 have HT1 := Aside0.mk (Kd.R_drew (Kd.R_set HT.out HBK.out (by decide) 0 (.slice Ao ops.length co)))
 have HB1 := Aside0.mk (below_drew1 ((Below.refl B w).setCell (p := ⟨g, 0, none⟩) HG.out (.slice Ao ops.length co)))
 generalize (w.setCell ⟨g, 0, none⟩ (.slice Ao ops.length co)).drew = w1 at HBK1 HO1 HV1 HH1 HT1 HB1 ⊢
 clear hc0 hc1 hf0 hf1
 have hc1 : w1.cell? ⟨g, 1, none⟩ = some (.slice Av M cv) := (blk_cell HBK1.out 1).trans rfl
 go_wp2
 have FM := Aside0.mk (show Kd.M (Kd.slice 54 k54) w1.drew B (fun k => True ∧ some k ≠ (Value.slice Av vals.length cv).ownBlock) t [.slice A t.length c] from Kd.M_row (Kd.R_drew (Kd.R_apartR HT1.out HV1.out (by decide))))
 have FO := Aside0.mk (show Kd.R (Kd.slice 54 k54) 23 w1.drew B (fun _ => True) (.slice Av vals.length cv) vals from Kd.R_drew HV1.out)
 have FB := Aside0.mk (show Below B w w1.drew from below_drew1 HB1.out)
 have FS := Aside0.mk (show B ≤ w1.drew.heap.size from Nat.le_trans HG.out (Nat.le_of_lt (blk_lt HBK1.out)))
 have AFT : ∀ (w4 : World), w1.drew.grownBy w4 (Value.slice Av vals.length cv).ownBlock → w4.heap[g]? = some (.cells #[.slice Ao ops.length co, .slice Av M cv, .int .i64 st, vh, rv, tv, .int .i64 fu] 94 (0, 0)) ∧ Kd.R k70 70 w4 B (fun _ => True) (.slice Ao ops.length co) ops ∧ Kd.R Kd.string 9 w4 B (fun _ => True) vh hd := fun w4 hgr =>
  ⟨blk_grown (w := w1.drew) HBK1.out hgr (Kd.R_ne FO.out HBK1.out (by decide)), Kd.R_over (Kd.R_drew HO1.out) FO.out (by decide) hgr, Kd.R_over (Kd.R_drew HH1.out) FO.out (by decide) hgr⟩
 have AF := Aside0.mk AFT
 clear AFT
 have hca : (w1.alloc (.cells #[.slice A t.length c] 23)).cell? ⟨g, 1, none⟩ = some (.slice Av M cv) := pw_cell_below (below_alloc (Below.refl _ _) _) hc1
 go_region_law ((refine Kd.R_append_step (W := w1.drew) (Kd.slice 54 k54) (w0 := w) B rfl (.tmp 37) (.tmp 39) 25 23 (.slice none 0 0) 24 rfl Try.underlying25 info23 rfl (by decide) (by decide) (.slice Av vals.length cv) vals t [.slice A t.length c] (fun _ => True) (fun k => True ∧ some k ≠ (Value.slice Av vals.length cv).ownBlock) rfl rfl FM.out (fun _ hk => hk) (fun _ _ => trivial) FO.out FB.out FS.out hl ?_; intro v2 w4 ho hb hgr hat; obtain ⟨A2, c2, rfl⟩ := Kd.R_slice ho; have HA := Aside0.mk (AF.out w4 hgr); have HV2 := Aside0.mk ho; have HB2 := Aside0.mk hb; have hf2 := blk_frozen HA.out.1 1; have hc2 := (blk_cell HA.out.1 1).trans rfl; clear ho hb hgr hat))
 all_goals
  (first | refine bodyPost_ret (results_none rfl _ _ _) rfl ?_ | refine bodyPost_end (results_none rfl _ _ _) rfl ?_)
  exact ⟨rfl, ⟨_, _, _, by simpa using blk_set HA.out.1 1 _, HG.out, Kd.R_set HA.out.2.1 HA.out.1 (by decide) 1 _, Kd.R_set HV2.out HA.out.1 (by decide) 1 _, Kd.R_set HA.out.2.2 HA.out.1 (by decide) 1 _⟩, HB2.out.setCell (p := ⟨g, 1, none⟩) HG.out _⟩

-- ==== Rw2
theorem isMc_below {B g : Nat} {W W' : World} {rv tv : Value} {ops : List S70} {vals : List (List S54)} {st fu : Int} {hd : List ByteArray} (h : IsMc B W g rv tv ops vals st hd fu) (hb' : Below W.heap.size W W') : IsMc B W' g rv tv ops vals st hd fu := by
 obtain ⟨vo, vv, vh, hb, hg, hO, hV, hH⟩ := h
 exact ⟨vo, vv, vh, (hb'.block g (blk_lt hb)).trans hb, hg, Kd.R_below hO hb', Kd.R_below hV hb', Kd.R_below hH hb'⟩
theorem isMc_lt {B g : Nat} {W : World} {rv tv : Value} {ops : List S70} {vals : List (List S54)} {st fu : Int} {hd : List ByteArray} (h : IsMc B W g rv tv ops vals st hd fu) : B ≤ W.heap.size := by
 obtain ⟨vo, vv, vh, hb, hg, _⟩ := h
 exact Nat.le_trans hg (Nat.le_of_lt (blk_lt hb))
theorem R_one (W : World) (B a : Nat) (ha : a = W.heap.size) (hB : B ≤ a) (x : S54) : Kd.R k54 54 (W.alloc (.cells #[.string x.f0, .int .i64 x.f1] 54)) B (fun _ => True) (.slice (some ⟨a, 0, none⟩) [x].length 1) [x] := by
 subst ha
 refine ⟨fun _ _ => trivial, [.string x.f0, .int .i64 x.f1], ?_, ?_⟩
 ·
  exact World.ownsRow_lit (base := B) (e := 54) (size := 2) W #[.string x.f0, .int .i64 x.f1] 1 hB (by decide) (by rfl)
 ·
  refine ⟨rfl, fun j p hj => ?_⟩
  match j, hj with
  | 0, hj => obtain rfl := Option.some.inj hj; exact k54_mkM _ _ _ x
  | j + 1, hj => simp at hj
def nodeStep (out v : List S54) : List S54 := if out.length ≤ 64 then out ++ v else out
def nodeL (c : S54) (args : List (List S54)) : List S54 := args.foldl nodeStep [c]
theorem nodeStep_le {out v : List S54} (h : out.length ≤ 128) (hv : v.length ≤ 64) : (nodeStep out v).length ≤ 128 := by
 unfold nodeStep
 split
 ·
  rw [List.length_append]; omega
 ·
  exact h
def NodeEnd (l : List S54) (base : Nat) (w' : World) (v : Value) : Prop := if l.length > 64 then v = .slice none 0 0 else Kd.R k54 54 w' base (fun _ => True) v l
theorem node_calls {B g : Nat} {w : World} {rv tv : Value} {ops : List S70} {vals args : List (List S54)} {st fu : Int} {hd : List ByteArray} {nm : ByteArray}
 (h : IsMc B w g rv tv ops (vals ++ args) st hd fu) (hv : ∀ v ∈ args, v.length ≤ 64) :
 Calls Try.prog 72 #[.pointer (some ⟨g, 0, none⟩), .agg #[.string nm, .int .i64 (args.length : Int)]] w fun e w' => ∃ v : Value, e = .returned v ∧
  NodeEnd (nodeL ⟨nm, args.length⟩ args) w.heap.size w' v ∧ Below w.heap.size w w' := by
 obtain ⟨vo, vv, vh, hb, hg, hO, hV, hH⟩ := h
 obtain ⟨Av, cv, rfl⟩ := Kd.R_slice hV
 obtain ⟨_, hcv, hCv⟩ := Kd.R_reads' hV
 obtain ⟨M, hM⟩ : ∃ M, M = (vals ++ args).length := ⟨_, rfl⟩
 rw [← hM] at hb hcv
 have hMb : M ≤ 9223372036854775807 := by rw [hM]; exact hCv.2.1
 have hM1 : M = vals.length + args.length := by rw [hM]; simp
 obtain ⟨i23, hi23, _, hs23, _⟩ := info_parts info23
 have hcut := cut_from (P := Try.prog) 25 23 .i64 Try.underlying25 hi23 1 hs23 Av M cv ((M : Int) - (args.length : Int)) (by omega) (by omega)
 have hC2 := Kd.C_drop (c := cv) (m := vals.length) hCv (by simp) (by rw [← hM]; exact hcv)
 rw [List.drop_left] at hC2
 rw [show ((M : Int) - (args.length : Int)).toNat = vals.length by omega] at hcut
 rw [show M - vals.length = args.length by omega] at hcut
 obtain ⟨A2, hA2⟩ : ∃ A2 : Option Addr, A2 = (if cv = vals.length then Av else Av.map (·.add (vals.length * 1))) := ⟨_, rfl⟩
 rw [← hA2] at hcut
 have hC3 : Kd.C (Kd.slice 54 k54) w A2 args.length args := by rw [hA2]; exact hC2
 have hw1 : IntKind.i64.wrap ((M : Int) - (args.length : Int)) = (M : Int) - (args.length : Int) := IntWalk.i64_in _ (by omega)
 obtain ⟨fin, hfin⟩ : ∃ fin, fin = nodeL ⟨nm, args.length⟩ args := ⟨_, rfl⟩
 rw [← hfin]
 have HC := Aside0.mk hC3
 have HV := Aside0.mk hv
 have HF := Aside0.mk hfin
 have HM := Aside0.mk (show (args.length : Int) ≤ 9223372036854775807 by omega)
 obtain ⟨bx, hbx⟩ : ∃ bx : Obj, bx = .cells #[.string nm, .int .i64 (args.length : Int)] 54 := ⟨_, rfl⟩
 have hbw := below_alloc (Below.refl w.heap.size w) (.cells #[.string nm, .int .i64 (args.length : Int)] 54)
 have hbw2 := below_alloc hbw (.cells #[.string nm, .int .i64 (args.length : Int)] 54)
 have hv1 : ((w.alloc (.cells #[.string nm, .int .i64 (args.length : Int)] 54)).alloc (.cells #[.string nm, .int .i64 (args.length : Int)] 54)).cell? ⟨g, 1, none⟩ = some (.slice Av M cv) := pw_cell_below hbw2 ((blk_cell hb 1).trans rfl)
 have hk0 := heap_alloc_new w (.cells #[.string nm, .int .i64 (args.length : Int)] 54)
 have hk1 : ((w.alloc (.cells #[.string nm, .int .i64 (args.length : Int)] 54)).alloc (.cells #[.string nm, .int .i64 (args.length : Int)] 54)).cell? ⟨w.heap.size, 1, none⟩ = some (.int .i64 (args.length : Int)) := pw_cell_below (below_alloc (Below.refl _ _) _) ((blk_cell hk0 1).trans rfl)
 have HO := Aside0.mk (R_one (w.alloc (.cells #[.string nm, .int .i64 (args.length : Int)] 54)) w.heap.size (w.heap.size + 1) (by simp) (by omega) ⟨nm, args.length⟩)
 have HB := Aside0.mk hbw2
 clear hO hV hH hb hg hC2 hC3 hA2 hCv hcv hM hM1 hv hfin hbw hbw2 hk0 hbx bx
 go_enter Try.func72, Try.ntmps72
 go_wp2
 go_region
 have HO1 := Aside0.mk (Kd.R_drew HO.out)
 have HB1 := Aside0.mk (below_drew1 HB.out)
 clear hv1 hk1 HO HB
 go_wp2
 go_loopg [5, 26] args.length (fun kq v5 v26 w' => ∃ (x : Int) (Ao : Option Addr) (co : Nat) (out : List S54), v26 = .int .i64 x ∧ v5 = .slice Ao out.length co ∧ Aside0 (0 ≤ x ∧ x + kq = (args.length : Int)) ∧ Aside0 ((args.drop x.toNat).foldl nodeStep out = fin) ∧ Aside0 (out.length ≤ 128) ∧ Aside0 (Kd.R k54 54 w' w.heap.size (fun _ => True) (.slice Ao out.length co) out) ∧ Aside0 (Below w.heap.size w w'))
 case atStart => exact ⟨0, _, _, [⟨nm, args.length⟩], rfl, rfl, ⟨by omega⟩, ⟨by rw [HF.out]; rfl⟩, ⟨by simp⟩, HO1, HB1⟩
 case round =>
  clear HO1 HB1 HF
  obtain ⟨x, Ao, co, out, rfl, rfl, HI, HF, HL, HO, HB⟩ := hrel
  cases gk with
  | succ k1 =>
   have hi : 0 ≤ x ∧ x < (args.length : Int) := by have := HI.out; omega
   obtain ⟨ad, A0, c0, rfl, hx0, hl0, hc0⟩ := at_L3 (Kd.C_below HC.out HB.out) x hi.1 hi.2
   have hd : args.drop x.toNat = rd_L3 args x :: args.drop (x.toNat + 1) := by
    rw [List.drop_eq_getElem_cons (show x.toNat < args.length by omega)]
    congr 1
    simp [rd_L3, List.getD_eq_getElem?_getD, show x.toNat < args.length by omega]
   have hf := HF.out
   rw [hd, List.foldl_cons] at hf
   have HF2 := Aside0.mk hf
   have hvl : (rd_L3 args x).length ≤ 64 := HV.out _ (by have := List.mem_of_mem_drop (i := x.toNat) (l := args) (a := rd_L3 args x) (by rw [hd]; exact List.mem_cons_self); exact this)
   have HVL := Aside0.mk hvl
   have HX := Aside0.mk hi
   have HCv := Aside0.mk hc0
   generalize rd_L3 args x = v at hx0 hl0 HF2 HVL HCv
   have hb0 : decide (x < (args.length : Int)) = true := decide_eq_true hi.2
   have hpp := eq_true hi.1
   have hqq := eq_true hi.2
   clear hd hf hvl hi hc0
   by_cases hq : out.length ≤ 64
   ·
    have hb1 : decide ((out.length : Int) ≤ 64) = true := decide_eq_true (by omega)
    have HS := Aside0.mk (show nodeStep out v = out ++ v from if_pos hq)
    clear hq
    go_wp2_with (first | (at_builtin; refine Kd.R_append_rows k54 (w0 := w) w.heap.size rfl (.tmp 33) (.tmp 34) 23 54 (.agg #[.string ⟨#[]⟩, .int .i64 0]) 24 rfl Try.underlying23 info54 rfl (by decide) (by decide) (.slice Ao out.length co) out v A0 v.length c0 (fun _ => True) (fun _ => False) rfl rfl HO.out HCv.out (fun x cs hk => ?aK) (fun _ hk => hk.elim) (fun _ _ => trivial) HB.out HB.out.size ?aL ?_; (case aK => obtain rfl := k54_open hk; exact k54_mkM _ _ _ _); (case aL => have := HL.out; have := HVL.out; omega); intro v2 w4 ho hb hgr hat; obtain ⟨A2_, c2_, rfl⟩ := Kd.R_slice ho; have HO2 := Aside0.mk ho; have HB2 := Aside0.mk hb; clear ho hb hgr hat))
    go_roundg k1
    case measure => have := HI.out; omega
    case rel => exact ⟨x + 1, _, _, out ++ v, by have e_ : wrap64 (x + 1) = x + 1 := (by have := HX.out; have := HM.out; unfold wrap64; omega); first | rfl | rw [e_] | (simp [e_]; done), by rw [List.length_append], ⟨by have := HI.out; omega⟩, ⟨by rw [show (x + 1).toNat = x.toNat + 1 by have := HX.out; omega, ← HS.out]; exact HF2.out⟩, ⟨by have := nodeStep_le HL.out HVL.out; rwa [HS.out] at this⟩, HO2, HB2⟩
   ·
    have hb1 : decide ((out.length : Int) ≤ 64) = false := decide_eq_false (by omega)
    have HS := Aside0.mk (show nodeStep out v = out from if_neg hq)
    clear hq
    go_wp2
    go_roundg k1
    case measure => have := HI.out; omega
    case rel => exact ⟨x + 1, _, _, out, by have e_ : wrap64 (x + 1) = x + 1 := (by have := HX.out; have := HM.out; unfold wrap64; omega); first | rfl | rw [e_] | (simp [e_]; done), rfl, ⟨by have := HI.out; omega⟩, ⟨by rw [show (x + 1).toNat = x.toNat + 1 by have := HX.out; omega]; have h_ := HF2.out; rw [HS.out] at h_; exact h_⟩, HL, HO, HB⟩
  | zero =>
   have hb0 : decide (x < (args.length : Int)) = false := decide_eq_false (by have := HI.out; omega)
   have hf := HF.out
   rw [List.drop_eq_nil_of_le (by have := HI.out; omega)] at hf
   have hf : out = fin := hf
   subst hf
   by_cases hq : out.length > 64
   ·
    have hb1 : decide ((64 : Int) < (out.length : Int)) = true := decide_eq_true (by omega)
    have hb2 : decide (64 < out.length) = true := decide_eq_true (by omega)
    have HQ := Aside0.mk hq
    clear hq
    go_wp2
    go_ret
    exact ⟨_, rfl, (by unfold NodeEnd; rw [if_pos HQ.out]; rfl), HB.out⟩
   ·
    have hb1 : decide ((64 : Int) < (out.length : Int)) = false := decide_eq_false (by omega)
    have hb2 : decide (64 < out.length) = false := decide_eq_false (by omega)
    have HQ := Aside0.mk hq
    clear hq
    go_wp2
    go_ret
    exact ⟨_, rfl, (by unfold NodeEnd; rw [if_neg HQ.out]; exact HO.out), HB.out⟩

-- ==== Rw3
def KT (T : Nat) (w w' : World) : Prop := Kept w w' (fun k => ∃ cells, w.heap[k]? = some (.cells cells T (0, 0)))
theorem KT.refl (T : Nat) (w : World) : KT T w w := Kept.refl _ _
theorem KT.trans {T : Nat} {w w1 w2 : World} (h : KT T w w1) (k : KT T w1 w2) : KT T w w2 := by
 refine Kept.then_ h k (fun i hi => ?_)
 rcases Nat.lt_or_ge i w.heap.size with hl | hl
 ·
  by_cases hs : ∃ cells, w.heap[i]? = some (.cells cells T (0, 0))
  ·
   exact .inl hs
  ·
   obtain ⟨cells, hc⟩ := hi
   rw [h.2 i hl hs] at hc
   exact absurd ⟨cells, hc⟩ hs
 ·
  exact .inr hl
theorem KT.below {T : Nat} {w w1 w2 : World} (h : KT T w w1) (hb : Below w1.heap.size w1 w2) : KT T w w2 := h.trans (Kept.of_below hb _)
theorem KT.alloc {T : Nat} {w w1 : World} (h : KT T w w1) (o : Obj) : KT T w (w1.alloc o) := h.below (below_alloc (Below.refl _ _) o)
theorem KT.drew {T : Nat} {w w1 : World} (h : KT T w w1) : KT T w w1.drew := h
theorem KT.grown {α : Type} {d : Kd α} {T B : Nat} {ok : Nat → Prop} {w w1 w2 : World} {v : Value} {xs : List α} (h : KT T w w1) (hr : d.R T w1 B ok v xs) (hg : w1.grownBy w2 v.ownBlock) : KT T w w2 :=
 h.trans ⟨hg.size, fun i hi hn => hg.block i hi (fun he => hn (Kd.R_typed hr i he.symm))⟩
theorem KT.blk {T t g : Nat} {cs : Array Value} {w w1 : World} (h : KT T w w1) (hb : w.heap[g]? = some (.cells cs t (0, 0))) (ht : t ≠ T) : w1.heap[g]? = some (.cells cs t (0, 0)) :=
 blk_kept hb h (fun ⟨cells, hc⟩ => by rw [hb] at hc; injection hc with hc; injection hc with _ hc; exact ht hc)
def todoN (f : Int → List S70 → Option (List S70 × Int)) : Nat → Int → List S70 → Option (List S70 × Int)
 | 0, i, out => some (out, i)
 | n + 1, i, out => (f i out).bind fun r => todoN f n r.2 r.1
def todoL (H : ByteArray → List S54) (t : List S54) : Nat → Int → List S70 → Option (List S70 × Int)
 | 0, _, _ => none
 | k + 1, i, out => if 0 ≤ i ∧ i < (t.length : Int) then
  (if (H (rd_T54 t i).f0).length > 0 then (if out.length < 2513169434900 then some (out ++ [⟨2, z54, H (rd_T54 t i).f0⟩], i + 1) else none)
   else if (rd_T54 t i).f1 ≤ 4 then ((todoN (todoL H t k) (rd_T54 t i).f1.toNat (i + 1) out).bind fun r => if r.1.length < 2513169434900 then some (r.1 ++ [⟨1, rd_T54 t i, []⟩], r.2) else none) else none)
  else none
theorem below_trB {B : Nat} {w w1 w2 : World} (h : Below B w w1) (k : Below B w1 w2) : Below B w w2 :=
 ⟨k.os.trans h.os, k.tape.trans h.tape, k.output.trans h.output, Nat.le_trans h.size k.size, fun i hi => (k.block i hi).trans (h.block i hi)⟩
theorem below_less {B C : Nat} {w w1 : World} (h : Below C w w1) (hB : B ≤ C) : Below B w w1 := ⟨h.os, h.tape, h.output, h.size, fun i hi => h.block i (Nat.lt_of_lt_of_le hi hB)⟩

theorem todo_calls0 {w0 : World} {A : Option Addr} {c : Nat} {t : List S54} {H : ByteArray → List S54} (ht : Kd.C k54 w0 A t.length t) (hc : t.length ≤ c)
 (HC : ∀ (s : ByteArray) (W : World), Below w0.heap.size w0 W → Calls Try.prog 33 #[.string s] W fun e W' => ∃ v0 : Value, e = .returned v0 ∧ Kd.R k54 54 W' W.heap.size (fun _ => True) v0 (H s) ∧ Below W.heap.size W W') (k : Nat) : ∀ (i : Int) (vo : Value) (out : List S70) (r : List S70 × Int) (w : World), Below w0.heap.size w0 w → Kd.R k70 70 w w0.heap.size (fun _ => True) vo out → todoL H t k i out = some r →
 Calls Try.prog 63 #[.slice A t.length c, .int .i64 i, vo, .func (.func 33) #[] #[]] w fun e w' => ∃ v0 : Value, e = .returned (.tuple #[v0, .int .i64 r.2]) ∧ Kd.R k70 70 w' w0.heap.size (fun _ => True) v0 r.1 ∧ Below w0.heap.size w0 w' ∧ KT 70 w w' := by
 induction k with
 | zero => intro i vo out r w hb ho h; simp [todoL] at h
 | succ k ih =>
  intro i vo out r w hb ho h
  have HT := Aside0.mk ht
  have IH := Aside0.mk ih
  have HHC := Aside0.mk HC
  obtain ⟨Ao, co, rfl⟩ := Kd.R_slice ho
  have HO := Aside0.mk ho
  have HB := Aside0.mk hb
  have HKT := Aside0.mk (KT.refl 70 w)
  have HM := Aside0.mk (show (t.length : Int) ≤ 9223372036854775807 by have := ht.2.1; omega)
  rw [todoL] at h
  by_cases hi : 0 ≤ i ∧ i < (t.length : Int)
  case neg => rw [if_neg hi] at h; cases h
  rw [if_pos hi] at h
  obtain ⟨ad, rfl, hx0, hx1⟩ := at_T54 (Kd.C_below ht hb) i hi.1 hi.2
  generalize rd_T54 t i = cc at hx0 hx1 h
  have hpp := eq_true hi.1
  have hqq := eq_true hi.2
  have hwr : wrap64 (i + 1) = i + 1 := by have := HM.out; unfold wrap64; omega
  have HX := Aside0.mk hi
  have H0 := Aside0.mk h
  clear ho hb ih ht h HC
  have HF := fun (W : World) (hW : Below w0.heap.size w0 W) => HHC.out cc.f0 W hW
  clear hi
  by_cases h1 : (H cc.f0).length > 0
  ·
   have h := H0.out
   rw [if_pos h1] at h
   by_cases h2 : out.length < 2513169434900
   case neg => rw [if_neg h2] at h; cases h
   rw [if_pos h2] at h
   obtain rfl := Option.some.inj h
   have HN := Aside0.mk h2
   have hd : decide (0 < ((H cc.f0).length : Int)) = true := decide_eq_true (by omega)
   have hd2 : decide (0 < (H cc.f0).length) = true := decide_eq_true h1
   have hp1 : 0 < (H cc.f0).length := h1
   clear h h2 H0
   generalize H cc.f0 = hv at HF hd hd2 h1 hp1 ⊢
   go_enter Try.func63, Try.ntmps63
   go_wp2_with (first | (go_at_call 33; (with_reducible refine (HF _ ?side1).mono ?_); (case side1 => exact (zq HB.out)); rintro e w1 ⟨v1, rfl, hr1, hb1⟩; obtain ⟨A1, c1, rfl⟩ := Kd.R_slice hr1; have HR1 := Aside0.mk (Kd.R_lower hr1 ((zq HB.out) : Below w0.heap.size w0 _).size); have n0_ := Aside0.mk (Kd.R_below (zr HO.out) hb1); have n1_ := Aside0.mk (below_trB (zq HB.out) (below_less hb1 ((zq HB.out) : Below w0.heap.size w0 _).size)); have n2_ := Aside0.mk (KT.below (KT.below HKT.out zg) hb1); clear HO HB HKT hr1 hb1; have HO := n0_; have HB := n1_; have HKT := n2_; clear n0_ n1_ n2_) | (at_builtin; (with_reducible refine gate_builtin (b := .append) (xs := #[.tmp 25, .tmp 28]) rfl ?_); refine Kd.R_append k70 (w0 := w0) w0.heap.size rfl (.tmp 25) (.tmp 28) 24 70 (.agg #[.int .i64 0, .string ⟨#[]⟩, .int .i64 0, .slice none 0 0]) 56 rfl Try.underlying24 info70 rfl (by decide) (by decide) (Value.slice Ao out.length co) out (⟨2, z54, hv⟩ : S70) [.int .i64 2, .string ⟨#[]⟩, .int .i64 0, .slice A1 hv.length c1] (fun _ => True) (fun k => True ∧ some k ≠ (Value.slice Ao out.length co).ownBlock) rfl rfl ?aP (fun _ hk => hk) (fun _ _ => trivial) ?aO ?aB ?aS ?aL ?_; (case aP => exact k70_mkM _ _ _ (⟨2, z54, hv⟩ : S70) (Kd.R_apartR (zr HR1.out) (show Kd.R k70 70 _ w0.heap.size (fun _ => True) (.slice Ao out.length co) out from (zr HO.out)) (by decide))); (case aO => exact (zr HO.out)); (case aB => exact (zq HB.out)); (case aS => exact (show Below w0.heap.size w0 _ from (zq HB.out)).size); (case aL => have := HN.out; omega); intro v2 w4 ho hb hgr hat; obtain ⟨A2_, c2_, rfl⟩ := Kd.R_slice ho; have HO2 := Aside0.mk ho; have HB2 := Aside0.mk hb; have hk_ : KT 70 w w4 := (by refine KT.grown (d := k70) (B := w0.heap.size) (ok := fun _ => True) (xs := out) ?_ ?_ hgr; exact (KT.below HKT.out zg); exact (zr HO.out)); have HK2 := Aside0.mk hk_; clear hk_; clear ho hb hgr hat))
   go_ret2
   exact ⟨_, rfl, by have h_ := HO2.out; simp only [List.length_append, List.length_cons, List.length_nil, Nat.zero_add] at h_; exact h_, HB2.out, HK2.out⟩
  ·
   have h := H0.out
   rw [if_neg h1] at h
   by_cases h4 : cc.f1 ≤ 4
   case neg => rw [if_neg h4] at h; cases h
   rw [if_pos h4] at h
   have HAR := Aside0.mk h4
   clear h4
   obtain ⟨⟨out', i'⟩, hn, h⟩ := Option.bind_eq_some_iff.mp h
   by_cases h2 : out'.length < 2513169434900
   case neg => rw [if_neg h2] at h; cases h
   rw [if_pos h2] at h
   obtain rfl := Option.some.inj h
   have HN := Aside0.mk h2
   have HH := Aside0.mk hn
   have hd : decide (0 < ((H cc.f0).length : Int)) = false := decide_eq_false (by omega)
   have hd2 : decide (0 < (H cc.f0).length) = false := decide_eq_false h1
   have hp1 : (H cc.f0).length = 0 := by omega
   clear h h2 H0 hn
   generalize hgv : H cc.f0 = hv at HF hd hd2 h1 hp1
   obtain rfl : hv = [] := List.eq_nil_of_length_eq_zero hp1
   clear h1 hp1 hgv
   go_enter Try.func63, Try.ntmps63
   go_wp2_with (first | (go_at_call 33; (with_reducible refine (HF _ ?side1).mono ?_); (case side1 => exact (zq HB.out)); rintro e w1 ⟨v1, rfl, hr1, hb1⟩; obtain ⟨A1, c1, rfl⟩ := Kd.R_slice hr1; have n0_ := Aside0.mk (Kd.R_below (zr HO.out) hb1); have n1_ := Aside0.mk (below_trB (zq HB.out) (below_less hb1 ((zq HB.out) : Below w0.heap.size w0 _).size)); have hk1 := pw_cell_below hb1 ((blk_cell (heap_alloc_new w (.cells #[.string cc.f0, .int .i64 cc.f1] 54)) 0).trans rfl); have hk2 := pw_cell_below hb1 ((blk_cell (heap_alloc_new w (.cells #[.string cc.f0, .int .i64 cc.f1] 54)) 1).trans rfl); have HK := Aside0.mk (hb1.block w.heap.size (by simp)); have n2_ := Aside0.mk (KT.below (KT.below HKT.out zg) hb1); clear HO HB HKT hr1 hb1; have HO := n0_; have HB := n1_; have HKT := n2_; clear n0_ n1_ n2_))
   go_loopg [1, 2, 33] cc.f1.toNat (fun kq v1 v2 v33 w' => ∃ (j a : Int) (o : List S70) (Ao2 : Option Addr) (co2 : Nat), v1 = .int .i64 a ∧ v2 = .slice Ao2 o.length co2 ∧ v33 = .int .i64 j ∧ Aside0 (0 ≤ j ∧ j + kq = (cc.f1.toNat : Int)) ∧ Aside0 (todoN (todoL H t k) kq a o = some (out', i')) ∧ Aside0 (Kd.R k70 70 w' w0.heap.size (fun _ => True) (.slice Ao2 o.length co2) o) ∧ Aside0 (Below w0.heap.size w0 w') ∧ Aside0 (KT 70 w w') ∧ Aside0 (w'.heap[w.heap.size]? = some (.cells #[.string cc.f0, .int .i64 cc.f1] 54 (0, 0))))
   case atStart => exact ⟨0, i + 1, out, _, _, rfl, rfl, rfl, ⟨by omega⟩, HH, HO, HB, HKT, ⟨HK.out.trans (heap_alloc_new w _)⟩⟩
   case round =>
    clear HO HB HKT HH HK hk1 hk2
    obtain ⟨j, a, o, Ao2, co2, rfl, rfl, rfl, HI, HH, HO, HB, HKT, HK⟩ := hrel
    cases gk with
    | succ k1 =>
     have hj : 0 ≤ j ∧ j < cc.f1 := by have := HI.out; omega
     have hd3 : decide (j < cc.f1) = true := decide_eq_true hj.2
     have HJ := Aside0.mk hj
     have h := HH.out
     rw [todoN] at h
     obtain ⟨⟨o2, a2⟩, hf, h⟩ := Option.bind_eq_some_iff.mp h
     have HH2 := Aside0.mk h
     have I1 := fun (W : World) (hW : Below w0.heap.size w0 W) (hr : Kd.R k70 70 W w0.heap.size (fun _ => True) (.slice Ao2 o.length co2) o) => IH.out a _ o _ W hW hr hf
     have hjw : wrap64 (j + 1) = j + 1 := by
      have := HAR.out
      unfold wrap64; omega
     clear h hf hj
     go_wp2_with (first | (go_at_call 63; (with_reducible refine (I1 _ ?side1 ?side2).mono ?_); (case side1 => exact (zq HB.out)); (case side2 => exact (zr HO.out)); rintro e w2 ⟨v2, rfl, hr2, hb2, hk2⟩; obtain ⟨A2, c2, rfl⟩ := Kd.R_slice hr2; have HO2 := Aside0.mk hr2; have HB2 := Aside0.mk hb2; have HKT2 := Aside0.mk (KT.trans (KT.below HKT.out zg) hk2); have HK2 := Aside0.mk (KT.blk hk2 HK.out (by decide)); clear hr2 hb2 hk2))
     go_roundg k1
     case measure => have := HI.out; omega
     case rel => exact ⟨j + 1, a2, o2, _, _, rfl, rfl, by first | rfl | rw [hjw], ⟨by have := HI.out; have := HJ.out; omega⟩, HH2, HO2, HB2, HKT2, HK2⟩
    | zero =>
     have hj : ¬ j < cc.f1 := by have := HI.out; omega
     have hd3 : decide (j < cc.f1) = false := decide_eq_false hj
     have h := HH.out
     rw [todoN] at h
     obtain ⟨rfl, rfl⟩ := Prod.mk.inj (Option.some.inj h)
     have hk3 := (blk_cell HK.out 0).trans rfl
     have hk4 := (blk_cell HK.out 1).trans rfl
     clear h hj HH
     go_wp2_with (first | (at_builtin; (with_reducible refine gate_builtin (b := .append) (xs := #[.tmp 44, .tmp 47]) rfl ?_); refine Kd.R_append k70 (w0 := w0) w0.heap.size rfl (.tmp 44) (.tmp 47) 24 70 (.agg #[.int .i64 0, .string ⟨#[]⟩, .int .i64 0, .slice none 0 0]) 56 rfl Try.underlying24 info70 rfl (by decide) (by decide) (Value.slice Ao2 o.length co2) o (⟨1, cc, []⟩ : S70) [.int .i64 1, .string cc.f0, .int .i64 cc.f1, .slice none 0 0] (fun _ => True) (fun k => True ∧ some k ≠ (Value.slice Ao2 o.length co2).ownBlock) rfl rfl ?aP (fun _ hk => hk) (fun _ _ => trivial) ?aO ?aB ?aS ?aL ?_; (case aP => exact k70_mkM _ _ _ (⟨1, cc, []⟩ : S70) (Kd.R_nil _ _ _ _ _)); (case aO => exact (zr HO.out)); (case aB => exact (zq HB.out)); (case aS => exact (show Below w0.heap.size w0 _ from (zq HB.out)).size); (case aL => have := HN.out; omega); intro v2 w4 ho hb hgr hat; obtain ⟨A2_, c2_, rfl⟩ := Kd.R_slice ho; have HO2 := Aside0.mk ho; have HB2 := Aside0.mk hb; have hk_ : KT 70 w w4 := (by refine KT.grown (d := k70) (B := w0.heap.size) (ok := fun _ => True) (xs := o) ?_ ?_ hgr; exact (KT.below HKT.out zg); exact (zr HO.out)); have HK2 := Aside0.mk hk_; clear hk_; clear ho hb hgr hat))
     go_ret2
     exact ⟨_, rfl, by have h_ := HO2.out; simp only [List.length_append, List.length_cons, List.length_nil, Nat.zero_add] at h_; exact h_, HB2.out, HK2.out⟩

theorem todo_calls1 {w0 : World} {A : Option Addr} {c : Nat} {t : List S54} {H : ByteArray → List S54} {pb : Nat} (ht : Kd.C k54 w0 A t.length t) (hc : t.length ≤ c)
 (HC : ∀ (s : ByteArray) (W : World), Below w0.heap.size w0 W → Calls Try.prog 75 #[.string s, .pointer (some ⟨pb, 0, none⟩)] W fun e W' => ∃ v0 : Value, e = .returned v0 ∧ Kd.R k54 54 W' W.heap.size (fun _ => True) v0 (H s) ∧ Below W.heap.size W W') (k : Nat) : ∀ (i : Int) (vo : Value) (out : List S70) (r : List S70 × Int) (w : World), Below w0.heap.size w0 w → Kd.R k70 70 w w0.heap.size (fun _ => True) vo out → todoL H t k i out = some r →
 Calls Try.prog 63 #[.slice A t.length c, .int .i64 i, vo, .func (.func 75) #[] #[.pointer (some ⟨pb, 0, none⟩)]] w fun e w' => ∃ v0 : Value, e = .returned (.tuple #[v0, .int .i64 r.2]) ∧ Kd.R k70 70 w' w0.heap.size (fun _ => True) v0 r.1 ∧ Below w0.heap.size w0 w' ∧ KT 70 w w' := by
 induction k with
 | zero => intro i vo out r w hb ho h; simp [todoL] at h
 | succ k ih =>
  intro i vo out r w hb ho h
  have HT := Aside0.mk ht
  have IH := Aside0.mk ih
  have HHC := Aside0.mk HC
  obtain ⟨Ao, co, rfl⟩ := Kd.R_slice ho
  have HO := Aside0.mk ho
  have HB := Aside0.mk hb
  have HKT := Aside0.mk (KT.refl 70 w)
  have HM := Aside0.mk (show (t.length : Int) ≤ 9223372036854775807 by have := ht.2.1; omega)
  rw [todoL] at h
  by_cases hi : 0 ≤ i ∧ i < (t.length : Int)
  case neg => rw [if_neg hi] at h; cases h
  rw [if_pos hi] at h
  obtain ⟨ad, rfl, hx0, hx1⟩ := at_T54 (Kd.C_below ht hb) i hi.1 hi.2
  generalize rd_T54 t i = cc at hx0 hx1 h
  have hpp := eq_true hi.1
  have hqq := eq_true hi.2
  have hwr : wrap64 (i + 1) = i + 1 := by have := HM.out; unfold wrap64; omega
  have HX := Aside0.mk hi
  have H0 := Aside0.mk h
  clear ho hb ih ht h HC
  have HF := fun (W : World) (hW : Below w0.heap.size w0 W) => HHC.out cc.f0 W hW
  clear hi
  by_cases h1 : (H cc.f0).length > 0
  ·
   have h := H0.out
   rw [if_pos h1] at h
   by_cases h2 : out.length < 2513169434900
   case neg => rw [if_neg h2] at h; cases h
   rw [if_pos h2] at h
   obtain rfl := Option.some.inj h
   have HN := Aside0.mk h2
   have hd : decide (0 < ((H cc.f0).length : Int)) = true := decide_eq_true (by omega)
   have hd2 : decide (0 < (H cc.f0).length) = true := decide_eq_true h1
   have hp1 : 0 < (H cc.f0).length := h1
   clear h h2 H0
   generalize H cc.f0 = hv at HF hd hd2 h1 hp1 ⊢
   go_enter Try.func63, Try.ntmps63
   go_wp2_with (first | (go_at_call 75; (with_reducible refine (HF _ ?side1).mono ?_); (case side1 => exact (zq HB.out)); rintro e w1 ⟨v1, rfl, hr1, hb1⟩; obtain ⟨A1, c1, rfl⟩ := Kd.R_slice hr1; have HR1 := Aside0.mk (Kd.R_lower hr1 ((zq HB.out) : Below w0.heap.size w0 _).size); have n0_ := Aside0.mk (Kd.R_below (zr HO.out) hb1); have n1_ := Aside0.mk (below_trB (zq HB.out) (below_less hb1 ((zq HB.out) : Below w0.heap.size w0 _).size)); have n2_ := Aside0.mk (KT.below (KT.below HKT.out zg) hb1); clear HO HB HKT hr1 hb1; have HO := n0_; have HB := n1_; have HKT := n2_; clear n0_ n1_ n2_) | (at_builtin; (with_reducible refine gate_builtin (b := .append) (xs := #[.tmp 25, .tmp 28]) rfl ?_); refine Kd.R_append k70 (w0 := w0) w0.heap.size rfl (.tmp 25) (.tmp 28) 24 70 (.agg #[.int .i64 0, .string ⟨#[]⟩, .int .i64 0, .slice none 0 0]) 56 rfl Try.underlying24 info70 rfl (by decide) (by decide) (Value.slice Ao out.length co) out (⟨2, z54, hv⟩ : S70) [.int .i64 2, .string ⟨#[]⟩, .int .i64 0, .slice A1 hv.length c1] (fun _ => True) (fun k => True ∧ some k ≠ (Value.slice Ao out.length co).ownBlock) rfl rfl ?aP (fun _ hk => hk) (fun _ _ => trivial) ?aO ?aB ?aS ?aL ?_; (case aP => exact k70_mkM _ _ _ (⟨2, z54, hv⟩ : S70) (Kd.R_apartR (zr HR1.out) (show Kd.R k70 70 _ w0.heap.size (fun _ => True) (.slice Ao out.length co) out from (zr HO.out)) (by decide))); (case aO => exact (zr HO.out)); (case aB => exact (zq HB.out)); (case aS => exact (show Below w0.heap.size w0 _ from (zq HB.out)).size); (case aL => have := HN.out; omega); intro v2 w4 ho hb hgr hat; obtain ⟨A2_, c2_, rfl⟩ := Kd.R_slice ho; have HO2 := Aside0.mk ho; have HB2 := Aside0.mk hb; have hk_ : KT 70 w w4 := (by refine KT.grown (d := k70) (B := w0.heap.size) (ok := fun _ => True) (xs := out) ?_ ?_ hgr; exact (KT.below HKT.out zg); exact (zr HO.out)); have HK2 := Aside0.mk hk_; clear hk_; clear ho hb hgr hat))
   go_ret2
   exact ⟨_, rfl, by have h_ := HO2.out; simp only [List.length_append, List.length_cons, List.length_nil, Nat.zero_add] at h_; exact h_, HB2.out, HK2.out⟩
  ·
   have h := H0.out
   rw [if_neg h1] at h
   by_cases h4 : cc.f1 ≤ 4
   case neg => rw [if_neg h4] at h; cases h
   rw [if_pos h4] at h
   have HAR := Aside0.mk h4
   clear h4
   obtain ⟨⟨out', i'⟩, hn, h⟩ := Option.bind_eq_some_iff.mp h
   by_cases h2 : out'.length < 2513169434900
   case neg => rw [if_neg h2] at h; cases h
   rw [if_pos h2] at h
   obtain rfl := Option.some.inj h
   have HN := Aside0.mk h2
   have HH := Aside0.mk hn
   have hd : decide (0 < ((H cc.f0).length : Int)) = false := decide_eq_false (by omega)
   have hd2 : decide (0 < (H cc.f0).length) = false := decide_eq_false h1
   have hp1 : (H cc.f0).length = 0 := by omega
   clear h h2 H0 hn
   generalize hgv : H cc.f0 = hv at HF hd hd2 h1 hp1
   obtain rfl : hv = [] := List.eq_nil_of_length_eq_zero hp1
   clear h1 hp1 hgv
   go_enter Try.func63, Try.ntmps63
   go_wp2_with (first | (go_at_call 75; (with_reducible refine (HF _ ?side1).mono ?_); (case side1 => exact (zq HB.out)); rintro e w1 ⟨v1, rfl, hr1, hb1⟩; obtain ⟨A1, c1, rfl⟩ := Kd.R_slice hr1; have n0_ := Aside0.mk (Kd.R_below (zr HO.out) hb1); have n1_ := Aside0.mk (below_trB (zq HB.out) (below_less hb1 ((zq HB.out) : Below w0.heap.size w0 _).size)); have hk1 := pw_cell_below hb1 ((blk_cell (heap_alloc_new w (.cells #[.string cc.f0, .int .i64 cc.f1] 54)) 0).trans rfl); have hk2 := pw_cell_below hb1 ((blk_cell (heap_alloc_new w (.cells #[.string cc.f0, .int .i64 cc.f1] 54)) 1).trans rfl); have HK := Aside0.mk (hb1.block w.heap.size (by simp)); have n2_ := Aside0.mk (KT.below (KT.below HKT.out zg) hb1); clear HO HB HKT hr1 hb1; have HO := n0_; have HB := n1_; have HKT := n2_; clear n0_ n1_ n2_))
   go_loopg [1, 2, 33] cc.f1.toNat (fun kq v1 v2 v33 w' => ∃ (j a : Int) (o : List S70) (Ao2 : Option Addr) (co2 : Nat), v1 = .int .i64 a ∧ v2 = .slice Ao2 o.length co2 ∧ v33 = .int .i64 j ∧ Aside0 (0 ≤ j ∧ j + kq = (cc.f1.toNat : Int)) ∧ Aside0 (todoN (todoL H t k) kq a o = some (out', i')) ∧ Aside0 (Kd.R k70 70 w' w0.heap.size (fun _ => True) (.slice Ao2 o.length co2) o) ∧ Aside0 (Below w0.heap.size w0 w') ∧ Aside0 (KT 70 w w') ∧ Aside0 (w'.heap[w.heap.size]? = some (.cells #[.string cc.f0, .int .i64 cc.f1] 54 (0, 0))))
   case atStart => exact ⟨0, i + 1, out, _, _, rfl, rfl, rfl, ⟨by omega⟩, HH, HO, HB, HKT, ⟨HK.out.trans (heap_alloc_new w _)⟩⟩
   case round =>
    clear HO HB HKT HH HK hk1 hk2
    obtain ⟨j, a, o, Ao2, co2, rfl, rfl, rfl, HI, HH, HO, HB, HKT, HK⟩ := hrel
    cases gk with
    | succ k1 =>
     have hj : 0 ≤ j ∧ j < cc.f1 := by have := HI.out; omega
     have hd3 : decide (j < cc.f1) = true := decide_eq_true hj.2
     have HJ := Aside0.mk hj
     have h := HH.out
     rw [todoN] at h
     obtain ⟨⟨o2, a2⟩, hf, h⟩ := Option.bind_eq_some_iff.mp h
     have HH2 := Aside0.mk h
     have I1 := fun (W : World) (hW : Below w0.heap.size w0 W) (hr : Kd.R k70 70 W w0.heap.size (fun _ => True) (.slice Ao2 o.length co2) o) => IH.out a _ o _ W hW hr hf
     have hjw : wrap64 (j + 1) = j + 1 := by
      have := HAR.out
      unfold wrap64; omega
     clear h hf hj
     go_wp2_with (first | (go_at_call 63; (with_reducible refine (I1 _ ?side1 ?side2).mono ?_); (case side1 => exact (zq HB.out)); (case side2 => exact (zr HO.out)); rintro e w2 ⟨v2, rfl, hr2, hb2, hk2⟩; obtain ⟨A2, c2, rfl⟩ := Kd.R_slice hr2; have HO2 := Aside0.mk hr2; have HB2 := Aside0.mk hb2; have HKT2 := Aside0.mk (KT.trans (KT.below HKT.out zg) hk2); have HK2 := Aside0.mk (KT.blk hk2 HK.out (by decide)); clear hr2 hb2 hk2))
     go_roundg k1
     case measure => have := HI.out; omega
     case rel => exact ⟨j + 1, a2, o2, _, _, rfl, rfl, by first | rfl | rw [hjw], ⟨by have := HI.out; have := HJ.out; omega⟩, HH2, HO2, HB2, HKT2, HK2⟩
    | zero =>
     have hj : ¬ j < cc.f1 := by have := HI.out; omega
     have hd3 : decide (j < cc.f1) = false := decide_eq_false hj
     have h := HH.out
     rw [todoN] at h
     obtain ⟨rfl, rfl⟩ := Prod.mk.inj (Option.some.inj h)
     have hk3 := (blk_cell HK.out 0).trans rfl
     have hk4 := (blk_cell HK.out 1).trans rfl
     clear h hj HH
     go_wp2_with (first | (at_builtin; (with_reducible refine gate_builtin (b := .append) (xs := #[.tmp 44, .tmp 47]) rfl ?_); refine Kd.R_append k70 (w0 := w0) w0.heap.size rfl (.tmp 44) (.tmp 47) 24 70 (.agg #[.int .i64 0, .string ⟨#[]⟩, .int .i64 0, .slice none 0 0]) 56 rfl Try.underlying24 info70 rfl (by decide) (by decide) (Value.slice Ao2 o.length co2) o (⟨1, cc, []⟩ : S70) [.int .i64 1, .string cc.f0, .int .i64 cc.f1, .slice none 0 0] (fun _ => True) (fun k => True ∧ some k ≠ (Value.slice Ao2 o.length co2).ownBlock) rfl rfl ?aP (fun _ hk => hk) (fun _ _ => trivial) ?aO ?aB ?aS ?aL ?_; (case aP => exact k70_mkM _ _ _ (⟨1, cc, []⟩ : S70) (Kd.R_nil _ _ _ _ _)); (case aO => exact (zr HO.out)); (case aB => exact (zq HB.out)); (case aS => exact (show Below w0.heap.size w0 _ from (zq HB.out)).size); (case aL => have := HN.out; omega); intro v2 w4 ho hb hgr hat; obtain ⟨A2_, c2_, rfl⟩ := Kd.R_slice ho; have HO2 := Aside0.mk ho; have HB2 := Aside0.mk hb; have hk_ : KT 70 w w4 := (by refine KT.grown (d := k70) (B := w0.heap.size) (ok := fun _ => True) (xs := o) ?_ ?_ hgr; exact (KT.below HKT.out zg); exact (zr HO.out)); have HK2 := Aside0.mk hk_; clear hk_; clear ho hb hgr hat))
     go_ret2
     exact ⟨_, rfl, by have h_ := HO2.out; simp only [List.length_append, List.length_cons, List.length_nil, Nat.zero_add] at h_; exact h_, HB2.out, HK2.out⟩

-- ==== Rw4
def Turning (xs cur : List S70) (i j : Int) : Prop := cur.length = xs.length ∧ ∀ m : Nat, m < xs.length → cur[m]? = if (m : Int) < i ∨ (m : Int) > j then xs[xs.length - 1 - m]? else xs[m]?
theorem turning_done {xs cur : List S70} {i j : Int} (h : Turning xs cur i j) (hij : i + j = (xs.length : Int) - 1) (hd : ¬ i < j) : cur = xs.reverse := by
 apply List.ext_getElem?
 intro m
 rcases Nat.lt_or_ge m xs.length with hm | hm
 ·
  rw [h.2 m hm, List.getElem?_reverse hm]
  split
  ·
   rfl
  ·
   rename_i hn
   have : m = xs.length - 1 - m := by omega
   rw [← this]
 ·
  rw [List.getElem?_eq_none (by rw [h.1]; exact hm), List.getElem?_eq_none (by simpa using hm)]
theorem turning_step {xs cur : List S70} {i j : Int} (h : Turning xs cur i j) (hij : i + j = (xs.length : Int) - 1) (h0 : 0 ≤ i) (hd : i < j) :
 Turning xs ((cur.set i.toNat (rd_T70 cur j)).set j.toNat (rd_T70 cur i)) (i + 1) (j - 1) := by
 refine ⟨by simp [h.1], fun m hm => ?_⟩
 have hl := h.1
 have hi : i.toNat < cur.length := by omega
 have hj : j.toNat < cur.length := by omega
 have hri : some (rd_T70 cur i) = xs[xs.length - 1 - j.toNat]? := by
  have := h.2 i.toNat (by omega)
  rw [if_neg (by omega)] at this
  rw [show xs.length - 1 - j.toNat = i.toNat by omega, ← this]
  simp [rd_T70, List.getD_eq_getElem?_getD, hi]
 have hrj : some (rd_T70 cur j) = xs[xs.length - 1 - i.toNat]? := by
  have := h.2 j.toNat (by omega)
  rw [if_neg (by omega)] at this
  rw [show xs.length - 1 - i.toNat = j.toNat by omega, ← this]
  simp [rd_T70, List.getD_eq_getElem?_getD, hj]
 by_cases e1 : m = j.toNat
 ·
  subst e1
  rw [List.getElem?_set_self (by simpa using hj), if_pos (by omega)]
  exact hri
 ·
  rw [List.getElem?_set_ne (Ne.symm e1)]
  by_cases e2 : m = i.toNat
  ·
   subst e2
   rw [List.getElem?_set_self hi, if_pos (by omega)]
   exact hrj
  ·
   rw [List.getElem?_set_ne (Ne.symm e2), h.2 m hm]
   by_cases c : (m : Int) < i ∨ (m : Int) > j
   ·
    rw [if_pos c, if_pos (by omega)]
   ·
    rw [if_neg c, if_neg (by omega)]
theorem rev_calls {B : Nat} {w : World} {A : Option Addr} {c : Nat} {xs : List S70} (hr : Kd.R k70 70 w B (fun _ => True) (.slice A xs.length c) xs) :
 Calls Try.prog 64 #[.slice A xs.length c] w fun e w' => e = .returned (.tuple #[]) ∧ Kd.R k70 70 w' B (fun _ => True) (.slice A xs.length c) xs.reverse ∧ Below B w w' ∧ KT 70 w w' := by
 have HO := Aside0.mk hr
 have HB := Aside0.mk (Below.refl B w)
 have HKT := Aside0.mk (KT.refl 70 w)
 have HM := Aside0.mk (show (xs.length : Int) ≤ 9223372036854775807 by have := (Kd.R_reads' hr).2.2.2.1; omega)
 have hw0 : wrap64 ((xs.length : Int) - 1) = (xs.length : Int) - 1 := by have := HM.out; unfold wrap64; omega
 clear hr
 go_enter Try.func64, Try.ntmps64
 go_wp2
 go_loopg [2, 3] (xs.length / 2) (fun kq v2 v3 w' => ∃ (i j : Int) (cur : List S70), v2 = .int .i64 i ∧ v3 = .int .i64 j ∧ Aside0 (0 ≤ i ∧ i + j = (xs.length : Int) - 1 ∧ (kq : Int) = (j - i + 1) / 2 ∧ i ≤ j + 1) ∧ Aside0 (Turning xs cur i j) ∧ Aside0 (Kd.R k70 70 w' B (fun _ => True) (.slice A xs.length c) cur) ∧ Aside0 (Below B w w') ∧ Aside0 (KT 70 w w'))
 case atStart => exact ⟨0, (xs.length : Int) - 1, xs, rfl, by first | rfl | rw [hw0], ⟨by omega⟩, ⟨rfl, fun m hm => by rw [if_neg (by omega)]⟩, HO, HB, HKT⟩
 case round =>
  clear HO HB HKT hw0
  obtain ⟨i, j, cur, rfl, rfl, HI, HT, HO, HB, HKT⟩ := hrel
  cases gk with
  | succ k1 =>
   have hi : 0 ≤ i ∧ i < j ∧ j < (xs.length : Int) ∧ i < (xs.length : Int) ∧ 0 ≤ j := by have := HI.out; omega
   have hcl := HT.out.1
   obtain ⟨g, cap, eg, hge, hgl, _⟩ := Kd.R_form HO.out (by omega)
   injection eg with ea el ec
   clear el
   subst ea ec
   obtain ⟨ci, hcli, hMi, hcci, hfri⟩ := Kd.R_elem HO.out z70 i hi.1 (by omega)
   obtain ⟨vi, rfl, hRi⟩ := k70_openM hMi
   obtain ⟨Ai, di, rfl⟩ := Kd.R_slice hRi
   obtain ⟨cj, hclj, hMj, hccj, hfrj⟩ := Kd.R_elem HO.out z70 j hi.2.2.2.2 (by omega)
   obtain ⟨vj, rfl, hRj⟩ := k70_openM hMj
   obtain ⟨Aj, dj, rfl⟩ := Kd.R_slice hRj
   have HEI := Aside0.mk (show Kd.M k70 wr B (fun k => True ∧ k ≠ g) (rd_T70 cur i) [.int .i64 (rd_T70 cur i).f0, .string (rd_T70 cur i).f1.f0, .int .i64 (rd_T70 cur i).f1.f1, .slice Ai (rd_T70 cur i).f2.length di] from hMi)
   have HEJ := Aside0.mk (show Kd.M k70 wr B (fun k => True ∧ k ≠ g) (rd_T70 cur j) [.int .i64 (rd_T70 cur j).f0, .string (rd_T70 cur j).f1.f0, .int .i64 (rd_T70 cur j).f1.f1, .slice Aj (rd_T70 cur j).f2.length dj] from hMj)
   have i0 : wr.cell? ⟨g, i.toNat * 4, none⟩ = some (.int .i64 (rd_T70 cur i).f0) := hcci 0 _ rfl
   have i1 : wr.cell? ⟨g, i.toNat * 4 + 1, none⟩ = some (.string (rd_T70 cur i).f1.f0) := hcci 1 _ rfl
   have i2 : wr.cell? ⟨g, i.toNat * 4 + 2, none⟩ = some (.int .i64 (rd_T70 cur i).f1.f1) := hcci 2 _ rfl
   have i3 : wr.cell? ⟨g, i.toNat * 4 + 3, none⟩ = some (.slice Ai (rd_T70 cur i).f2.length di) := hcci 3 _ rfl
   have j0 : wr.cell? ⟨g, j.toNat * 4, none⟩ = some (.int .i64 (rd_T70 cur j).f0) := hccj 0 _ rfl
   have j1 : wr.cell? ⟨g, j.toNat * 4 + 1, none⟩ = some (.string (rd_T70 cur j).f1.f0) := hccj 1 _ rfl
   have j2 : wr.cell? ⟨g, j.toNat * 4 + 2, none⟩ = some (.int .i64 (rd_T70 cur j).f1.f1) := hccj 2 _ rfl
   have j3 : wr.cell? ⟨g, j.toNat * 4 + 3, none⟩ = some (.slice Aj (rd_T70 cur j).f2.length dj) := hccj 3 _ rfl
   have HCI := Aside0.mk (show ∀ (q : Nat) (u : Value), [Value.int .i64 (rd_T70 cur i).f0, .string (rd_T70 cur i).f1.f0, .int .i64 (rd_T70 cur i).f1.f1, .slice Ai (rd_T70 cur i).f2.length di][q]? = some u → wr.cell? ⟨g, i.toNat * 4 + q, none⟩ = some u from hcci)
   have HFI := Aside0.mk hfri
   have HFJ := Aside0.mk hfrj
   have HX := Aside0.mk hi
   have HGB := Aside0.mk (show B ≤ g ∧ g < wr.heap.size from ⟨hge, hgl⟩)
   have HLEN := Aside0.mk hcl
   have hb0 : decide (i < j) = true := decide_eq_true hi.2.1
   have t0 := eq_true hi.1
   have t1 := eq_true hi.2.2.1
   have t2 := eq_true hi.2.2.2.1
   have t3 := eq_true hi.2.2.2.2
   have f0 : ∀ b, wr.frozen? ⟨g, b, none⟩ = false := fun b => by
    obtain ⟨cells, hc⟩ := Kd.R_typed HO.out g (by simp [Value.ownBlock])
    exact blk_frozen hc b
   clear hcci hccj hfri hfrj hMi hMj hRi hRj hcli hclj hcl hi
   obtain ⟨ei, hei⟩ : ∃ ei, ei = rd_T70 cur i := ⟨_, rfl⟩
   obtain ⟨ej, hej⟩ : ∃ ej, ej = rd_T70 cur j := ⟨_, rfl⟩
   rw [← hei] at i0 i1 i2 i3 HEI HCI
   rw [← hej] at j0 j1 j2 j3 HEJ
   have HEI2 := Aside0.mk hei.symm
   have HEJ2 := Aside0.mk hej.symm
   clear hei hej
   have hn1 : ¬ (i.toNat = j.toNat) := by have := HX.out; omega
   have hn2 : ¬ (j.toNat = i.toNat) := by have := HX.out; omega
   go_wp2
   go_region
   have s1 := Kd.R_seg (okp := fun k => True ∧ k ≠ g) HO.out i HX.out.1 HX.out.2.2.2.1 (seg := [.int .i64 ej.f0, .string ej.f1.f0, .int .i64 ej.f1.f1, .slice Aj ej.f2.length dj]) (j := 0) rfl HCI.out (Nat.le_refl 4) (x' := ej) HEJ.out (fun _ hk => hk)
   obtain ⟨c2, hcl2, _, hcc2, _⟩ := Kd.R_elem s1.1 z70 j HX.out.2.2.2.2 HX.out.2.2.1
   have s2 := Kd.R_seg (okp := fun k => True ∧ k ≠ g) s1.1 j HX.out.2.2.2.2 HX.out.2.2.1 (seg := [.int .i64 ei.f0, .string ei.f1.f0, .int .i64 ei.f1.f1, .slice Ai ei.f2.length di]) (j := 0) hcl2 hcc2 (Nat.le_refl 4) (x' := ei) (by
    have e_ : c2.drop (0 + 4) = [] := List.drop_eq_nil_of_le (by rw [hcl2]; exact Nat.le_refl 4)
    rw [show (0 : Nat) + [Value.int .i64 ei.f0, .string ei.f1.f0, .int .i64 ei.f1.f1, .slice Ai ei.f2.length di].length = 0 + 4 from rfl, e_]
    rw [List.append_nil]
    exact Kd.M_grown HEI.out s1.2 (fun k hk he => hk.2 (by injection he))) (fun _ hk => hk)
   have HO2 := Aside0.mk (Kd.R_drew s2.1)
   have HGR := Aside0.mk (World.grownBy.trans s1.2 s2.2)
   have HK2 := Aside0.mk (KT.drew (KT.grown HKT.out HO.out (by simpa [Value.ownBlock] using HGR.out)))
   have HB2 := Aside0.mk (below_drew1 (HB.out.grown HGR.out (Nat.le_trans HGB.out.1 (Nat.le_of_lt HGB.out.2)) (fun k hk => by injection hk with hk; rw [← hk]; exact HGB.out.1)))
   clear s1 s2 hcl2 hcc2
   go_wp2
   go_roundg k1
   case measure => have := HI.out; omega
   case rel => exact ⟨i + 1, j - 1, _, by have e_ : wrap64 (i + 1) = i + 1 := (by have := HX.out; have := HM.out; unfold wrap64; omega); first | rfl | rw [e_] | (simp [e_]; done), by have e_ : wrap64 (j - 1) = j - 1 := (by have := HX.out; have := HM.out; unfold wrap64; omega); first | rfl | rw [e_] | (simp [e_]; done), ⟨by have := HI.out; omega⟩, ⟨turning_step HT.out HI.out.2.1 HX.out.1 HX.out.2.1⟩, by rw [HEI2.out, HEJ2.out]; exact HO2, HB2, HK2⟩
  | zero =>
   have hb0 : decide (i < j) = false := decide_eq_false (by have := HI.out; omega)
   have hcx := turning_done HT.out HI.out.2.1 (by have := HI.out; omega)
   subst hcx
   go_wp2
   (first | refine bodyPost_ret (results_none rfl _ _ _) rfl ?_ | refine bodyPost_end (results_none rfl _ _ _) rfl ?_)
   exact ⟨rfl, HO.out, HB.out, HKT.out⟩

-- ==== Rw5
theorem set4_blk {W : World} {b : Nat} {a1 a2 a3 a4 : Value} (h : W.heap[b]? = some (.cells #[a1, a2, a3, a4] 28 (0, 0))) (b1 b2 b3 b4 : Value) :
 ((((W.setCell ⟨b, 0, none⟩ b1).setCell ⟨b, 1, none⟩ b2).setCell ⟨b, 2, none⟩ b3).setCell ⟨b, 3, none⟩ b4).heap[b]? = some (.cells #[b1, b2, b3, b4] 28 (0, 0)) := by
 refine blk_put (cs := #[b1, b2, b3, a4]) ?_ 3 _ rfl
 refine blk_put (cs := #[b1, b2, a3, a4]) ?_ 2 _ rfl
 refine blk_put (cs := #[b1, a2, a3, a4]) ?_ 1 _ rfl
 exact blk_put (cs := #[a1, a2, a3, a4]) h 0 _ rfl
theorem set4_R {α : Type} {d : Kd α} {e B b : Nat} {ok : Nat → Prop} {W : World} {v : Value} {xs : List α} {cs : Array Value} (h : d.R e W B ok v xs) (hb : W.heap[b]? = some (.cells cs 28 (0, 0))) (ht : ∀ q, q ∈ e :: d.E → q ≠ 28) (b1 b2 b3 b4 : Value) :
 d.R e ((((W.setCell ⟨b, 0, none⟩ b1).setCell ⟨b, 1, none⟩ b2).setCell ⟨b, 2, none⟩ b3).setCell ⟨b, 3, none⟩ b4) B ok v xs :=
 Kd.R_mono (Kd.R_far (p := ⟨b, 3, none⟩) (Kd.R_far (p := ⟨b, 2, none⟩) (Kd.R_far (p := ⟨b, 1, none⟩) (Kd.R_far (p := ⟨b, 0, none⟩) (Kd.R_types h hb ht) (fun _ hk => hk.2) _) (fun _ hk => hk.2) _) (fun _ hk => hk.2) _) (fun _ hk => hk.2) _) (fun _ hk => hk.1)
theorem set4_below {B b : Nat} {w W : World} (h : Below B w W) (hb : B ≤ b) (b1 b2 b3 b4 : Value) : Below B w ((((W.setCell ⟨b, 0, none⟩ b1).setCell ⟨b, 1, none⟩ b2).setCell ⟨b, 2, none⟩ b3).setCell ⟨b, 3, none⟩ b4) :=
 (((h.setCell (p := ⟨b, 0, none⟩) hb _).setCell (p := ⟨b, 1, none⟩) hb _).setCell (p := ⟨b, 2, none⟩) hb _).setCell (p := ⟨b, 3, none⟩) hb _
def StEnd (B : Nat) (w' : World) (v0 v1 v3 : Value) (ops : List S70) (vals : List (List S54)) (hd : List ByteArray) : Prop :=
 Kd.N k70 70 w' B (fun k_ => (B ≤ k_) ∧ some k_ ≠ (v1 : Value).ownBlock ∧ some k_ ≠ (v3 : Value).ownBlock) v0 ops ∧ Kd.N (Kd.slice 54 k54) 23 w' B (fun k_ => (B ≤ k_) ∧ some k_ ≠ (v0 : Value).ownBlock ∧ some k_ ≠ (v3 : Value).ownBlock) v1 vals ∧ Kd.R Kd.string 9 w' B (fun k_ => (B ≤ k_)) v3 hd
theorem stEnd_of {B : Nat} {w' : World} {v0 v1 v3 : Value} {ops : List S70} {vals : List (List S54)} {hd : List ByteArray} (h0 : Kd.R k70 70 w' B (fun _ => True) v0 ops) (h1 : Kd.R (Kd.slice 54 k54) 23 w' B (fun _ => True) v1 vals) (h3 : Kd.R Kd.string 9 w' B (fun _ => True) v3 hd) : StEnd B w' v0 v1 v3 ops vals hd :=
 ⟨Kd.N_mono (Kd.R_N (Kd.R_bound (Kd.R_apartR (Kd.R_apartR h0 h1 (by decide)) h3 (by decide)))) (fun k hk => ⟨hk.2.1, hk.1.1.2, hk.1.2⟩),
  Kd.N_mono (Kd.R_N (Kd.R_bound (Kd.R_apartR (Kd.R_apartR h1 h0 (by decide)) h3 (by decide)))) (fun k hk => ⟨hk.2.1, hk.1.1.2, hk.1.2⟩),
  Kd.R_mono (Kd.R_bound h3) (fun k hk => hk.2.1)⟩
theorem stEnd_nil (B : Nat) (w' : World) : StEnd B w' (.slice none 0 0) (.slice none 0 0) (.slice none 0 0) [] [] [] := stEnd_of (Kd.R_nil _ _ _ _ _) (Kd.R_nil _ _ _ _ _) (Kd.R_nil _ _ _ _ _)

theorem ops_calls0 {w : World} {A : Option Addr} {c k : Nat} {t : List S54} {H : ByteArray → List S54} {out : List S70} {i : Int} (ht : Kd.C k54 w A t.length t) (hc : t.length ≤ c)
 (HC : ∀ (s : ByteArray) (W : World), Below w.heap.size w W → Calls Try.prog 33 #[.string s] W fun e W' => ∃ v0 : Value, e = .returned v0 ∧ Kd.R k54 54 W' W.heap.size (fun _ => True) v0 (H s) ∧ Below W.heap.size W W') (h : todoL H t k 0 [] = some (out, i)) :
 Calls Try.prog 32 #[.slice A t.length c, .func (.func 33) #[] #[]] w fun e w' => ∃ v0 : Value, e = .returned v0 ∧ Kd.R k70 70 w' w.heap.size (fun _ => True) v0 out.reverse ∧ Below w.heap.size w w' := by
 have T1 := todo_calls0 ht hc HC k 0 (.slice none 0 0) [] (out, i) w (Below.refl _ _) (Kd.R_nil _ _ _ _ _) h
 clear ht hc HC h
 go_enter Try.func32, Try.ntmps32
 go_wp2_with (first | (go_at_call 63; (with_reducible refine T1.mono ?_); rintro e w1 ⟨v1, rfl, hr1, hb1, _⟩; obtain ⟨A1, c1, rfl⟩ := Kd.R_slice hr1; have HR1 := Aside0.mk hr1; have HB1 := Aside0.mk hb1; have V1 := rev_calls hr1; clear hr1 hb1) | (go_at_call 64; (with_reducible refine V1.mono ?_); rintro e w2 ⟨rfl, hr2, hb2, _⟩; have HR2 := Aside0.mk hr2; have HB2 := Aside0.mk (below_trB HB1.out hb2); clear hr2 hb2))
 go_ret
 exact ⟨_, rfl, HR2.out, HB2.out⟩

theorem ops_calls1 {w : World} {A : Option Addr} {c k : Nat} {t : List S54} {H : ByteArray → List S54} {out : List S70} {i : Int} {pb : Nat} (ht : Kd.C k54 w A t.length t) (hc : t.length ≤ c)
 (HC : ∀ (s : ByteArray) (W : World), Below w.heap.size w W → Calls Try.prog 75 #[.string s, .pointer (some ⟨pb, 0, none⟩)] W fun e W' => ∃ v0 : Value, e = .returned v0 ∧ Kd.R k54 54 W' W.heap.size (fun _ => True) v0 (H s) ∧ Below W.heap.size W W') (h : todoL H t k 0 [] = some (out, i)) :
 Calls Try.prog 32 #[.slice A t.length c, .func (.func 75) #[] #[.pointer (some ⟨pb, 0, none⟩)]] w fun e w' => ∃ v0 : Value, e = .returned v0 ∧ Kd.R k70 70 w' w.heap.size (fun _ => True) v0 out.reverse ∧ Below w.heap.size w w' := by
 have T1 := todo_calls1 ht hc HC k 0 (.slice none 0 0) [] (out, i) w (Below.refl _ _) (Kd.R_nil _ _ _ _ _) h
 clear ht hc HC h
 go_enter Try.func32, Try.ntmps32
 go_wp2_with (first | (go_at_call 63; (with_reducible refine T1.mono ?_); rintro e w1 ⟨v1, rfl, hr1, hb1, _⟩; obtain ⟨A1, c1, rfl⟩ := Kd.R_slice hr1; have HR1 := Aside0.mk hr1; have HB1 := Aside0.mk hb1; have V1 := rev_calls hr1; clear hr1 hb1) | (go_at_call 64; (with_reducible refine V1.mono ?_); rintro e w2 ⟨rfl, hr2, hb2, _⟩; have HR2 := Aside0.mk hr2; have HB2 := Aside0.mk (below_trB HB1.out hb2); clear hr2 hb2))
 go_ret
 exact ⟨_, rfl, HR2.out, HB2.out⟩

theorem rwst1_calls (s : ByteArray) (W : World) : Calls Try.prog 33 #[.string s] W fun e W' => ∃ v0 : Value, e = .returned v0 ∧ Kd.R k54 54 W' W.heap.size (fun _ => True) v0 ((fun _ => []) s) ∧ Below W.heap.size W W' := by
 go_enter Try.func33, Try.ntmps33
 go_wp2
 go_ret
 exact ⟨_, rfl, Kd.R_nil _ _ _ _ _, Below.refl _ _⟩
def startF (k : Nat) (t : List S54) : Option (List S70 × List (List S54) × Int × List ByteArray × Int) :=
 (term_Check.f k t).bind fun e => if e = 0 then ((rewrite_ground.f k t).bind fun g => if g = true then ((todoL (fun _ => []) t k 0 []).bind fun r => some (r.1.reverse, [], 0, [], 0)) else some ([], [], 0, [], 7)) else some ([], [], 0, [], e)
theorem start_calls (k : Nat) (A : Option Addr) (c : Nat) (t : List S54) (r1 : List S70) (r2 : List (List S54)) (r3 : Int) (r4 : List ByteArray) (r5 : Int) (w : World) (ht : Kd.C k54 w A t.length t) (hc : t.length ≤ c) (h : startF k t = some (r1, r2, r3, r4, r5)) :
 Calls Try.prog 12 #[.slice A t.length c] w fun e w' => ∃ v0 v1 v3 : Value, e = .returned (.tuple #[.agg #[v0, v1, .int .i64 r3, v3], .int .i64 r5]) ∧ StEnd w.heap.size w' v0 v1 v3 r1 r2 r4 ∧ Below w.heap.size w w' := by
 unfold startF at h
 obtain ⟨e, he, h⟩ := Option.bind_eq_some_iff.mp h
 have T1 := fun W (hW : Below w.heap.size w W) => term_Check.calls k A c t e W (Kd.C_below ht hW) hc he
 have HB := Aside0.mk (Below.refl w.heap.size w)
 clear he
 by_cases c0 : e = 0
 case neg =>
  rw [if_neg c0] at h
  simp only [Option.some.injEq, Prod.mk.injEq] at h
  obtain ⟨rfl, rfl, rfl, rfl, rfl⟩ := h
  have d0 : (e != 0) = true := bne_iff_ne.mpr c0
  clear c0 ht
  go_enter Try.func12, Try.ntmps12
  go_wp2_with (first | (go_at_call 30; (with_reducible refine (T1 _ ?side1).mono ?_); (case side1 => exact (zq HB.out)); rintro e w1 ⟨rfl, hb⟩; have hz := (hb.block w.heap.size (by simp)).trans (heap_alloc_new w _); obtain ⟨q0, q1, q2, q3⟩ := zc4 hz; obtain ⟨f0, f1, f2, f3⟩ := zf4 hz; have HK := Aside0.mk hz; have n0_ := Aside0.mk (below_step (below_alloc HB.out _) hb); clear HB hb hz; have HB := n0_; clear n0_))
  refine bodyPost_ret (results_ct rfl _ _ w.heap.size 28 _ (0, 0) _ rfl (set4_blk HK.out _ _ _ _) Try.underlying28 rfl (by kernel_rfl)) rfl ?_
  exact ⟨_, _, _, rfl, stEnd_nil _ _, set4_below HB.out (Nat.le_refl _) _ _ _ _⟩
 case pos =>
  subst c0
  rw [if_pos rfl] at h
  obtain ⟨g, hg, h⟩ := Option.bind_eq_some_iff.mp h
  have G1 := fun W (hW : Below w.heap.size w W) => rewrite_ground.calls k A c t g W (Kd.C_below ht hW) hc hg
  clear hg
  by_cases c1 : g = true
  case neg =>
   rw [if_neg c1] at h
   simp only [Option.some.injEq, Prod.mk.injEq] at h
   obtain ⟨rfl, rfl, rfl, rfl, rfl⟩ := h
   obtain rfl : g = false := by simpa using c1
   clear c1 ht
   go_enter Try.func12, Try.ntmps12
   go_wp2_with (first | (go_at_call 30; (with_reducible refine (T1 _ ?side1).mono ?_); (case side1 => exact (zq HB.out)); rintro e w1 ⟨rfl, hb⟩; have hz := (hb.block w.heap.size (by simp)).trans (heap_alloc_new w _); obtain ⟨q0, q1, q2, q3⟩ := zc4 hz; obtain ⟨f0, f1, f2, f3⟩ := zf4 hz; have HK := Aside0.mk hz; have n0_ := Aside0.mk (below_step (below_alloc HB.out _) hb); clear HB hb hz; have HB := n0_; clear n0_) | (go_at_call 31; (with_reducible refine (G1 _ ?side2).mono ?_); (case side2 => exact (zq HB.out)); rintro e w2 ⟨rfl, hb⟩; have hz := (hb.block w.heap.size (blk_lt HK.out)).trans HK.out; clear HK q0 q1 q2 q3 f0 f1 f2 f3; obtain ⟨q0, q1, q2, q3⟩ := zc4 hz; obtain ⟨f0, f1, f2, f3⟩ := zf4 hz; have HK := Aside0.mk hz; have n0_ := Aside0.mk (below_step HB.out hb); clear HB hb hz; have HB := n0_; clear n0_))
   refine bodyPost_ret (results_ct rfl _ _ w.heap.size 28 _ (0, 0) _ rfl (set4_blk HK.out _ _ _ _) Try.underlying28 rfl (by kernel_rfl)) rfl ?_
   exact ⟨_, _, _, rfl, stEnd_nil _ _, set4_below HB.out (Nat.le_refl _) _ _ _ _⟩
  case pos =>
   subst c1
   rw [if_pos rfl] at h
   obtain ⟨⟨out, i⟩, ho, h⟩ := Option.bind_eq_some_iff.mp h
   simp only [Option.some.injEq, Prod.mk.injEq] at h
   obtain ⟨rfl, rfl, rfl, rfl, rfl⟩ := h
   have O1 := fun W (hW : Below w.heap.size w W) => ops_calls0 (w := W) (c := c) (Kd.C_below ht hW) hc (fun s W2 _ => rwst1_calls s W2) ho
   clear ho ht
   go_enter Try.func12, Try.ntmps12
   go_wp2_with (first | (go_at_call 30; (with_reducible refine (T1 _ ?side1).mono ?_); (case side1 => exact (zq HB.out)); rintro e w1 ⟨rfl, hb⟩; have hz := (hb.block w.heap.size (by simp)).trans (heap_alloc_new w _); obtain ⟨q0, q1, q2, q3⟩ := zc4 hz; obtain ⟨f0, f1, f2, f3⟩ := zf4 hz; have HK := Aside0.mk hz; have n0_ := Aside0.mk (below_step (below_alloc HB.out _) hb); clear HB hb hz; have HB := n0_; clear n0_) | (go_at_call 31; (with_reducible refine (G1 _ ?side2).mono ?_); (case side2 => exact (zq HB.out)); rintro e w2 ⟨rfl, hb⟩; have hz := (hb.block w.heap.size (blk_lt HK.out)).trans HK.out; clear HK q0 q1 q2 q3 f0 f1 f2 f3; obtain ⟨q0, q1, q2, q3⟩ := zc4 hz; obtain ⟨f0, f1, f2, f3⟩ := zf4 hz; have HK := Aside0.mk hz; have n0_ := Aside0.mk (below_step HB.out hb); clear HB hb hz; have HB := n0_; clear n0_) | (go_at_call 32; (with_reducible refine (O1 _ ?side3).mono ?_); (case side3 => exact (zq HB.out)); rintro e w3 ⟨v3, rfl, hr, hb⟩; obtain ⟨A3, c3, rfl⟩ := Kd.R_slice hr; have h3 := Kd.R_lower hr HB.out.size; rw [List.length_reverse] at h3; have HR3 := Aside0.mk h3; clear h3; have hz := (hb.block w.heap.size (blk_lt HK.out)).trans HK.out; clear HK q0 q1 q2 q3 f0 f1 f2 f3; obtain ⟨q0, q1, q2, q3⟩ := zc4 hz; obtain ⟨f0, f1, f2, f3⟩ := zf4 hz; have HK := Aside0.mk hz; have n0_ := Aside0.mk (below_step HB.out hb); clear HB hb hz hr; have HB := n0_; clear n0_))
   refine bodyPost_ret (results_ct rfl _ _ w.heap.size 28 _ (0, 0) _ rfl (set4_blk HK.out _ _ _ _) Try.underlying28 rfl (by kernel_rfl)) rfl ?_
   exact ⟨_, _, _, rfl, stEnd_of (set4_R HR3.out HK.out (by decide) _ _ _ _) (Kd.R_nil _ _ _ _ _) (Kd.R_nil _ _ _ _ _), set4_below HB.out (Nat.le_refl _) _ _ _ _⟩

-- ==== Rw6
theorem cloneT_same (m : List S54) (h : m.length < 5864062014805) : api_Cell_71.f m = some m := by
 unfold api_Cell_71.f
 rw [if_pos (by simpa using h)]
 rfl
theorem cloneS_same (m : List ByteArray) (h : m.length < 8796093022208) : slices_Clone_string_string.f m = some m := by
 unfold slices_Clone_string_string.f
 rw [if_pos (by simpa using h)]
 rfl
theorem cloneT_calls {A : Option Addr} {c : Nat} {t : List S54} {w : World} (hr : Kd.C k54 w A t.length t) (hc : t.length ≤ c) (h : t.length < 5864062014805) :
 Calls Try.prog 71 #[.slice A t.length c] w fun e w' => ∃ A' c', e = .returned (.slice A' t.length c') ∧ Kd.R k54 54 w' w.heap.size (fun _ => True) (.slice A' t.length c') t ∧ Below w.heap.size w w' := by
 refine (api_Cell_71.calls A c t t w hr hc (cloneT_same t h)).mono ?_
 rintro e w' ⟨v, rfl, hR, hb⟩
 obtain ⟨A', c', rfl⟩ := Kd.R_slice hR
 exact ⟨A', c', rfl, hR, hb⟩
end Go.Proofs.Ytdlkhpfgkghhmaa.P

-- ==== Rw7
namespace Go.Proofs.Ytdlkhpfgkghhmaa.P
open Go.RowKit Go.Shelf Go.Proofs.YtdlkhpfgkghhmaaW.PrintWords Go.Proofs.YtdlkhpfgkghhmaaW.PrintLast Go.Proofs.YtdlkhpfgkghhmaaW.PrintMore
def insRen : Go.Shelf.Ren := ⟨fun | 17 => 108 | 22 => 91 | 29 => 100 | 30 => 101 | 36 => 107 | n => n, fun | 24 => 26 | n => n, fun | n => n⟩
theorem insLays : Go.Proofs.Lays2.n22 Try.prog insRen := {
 mixed := by kernel_rfl
 f17 := Try.func108.trans (congrArg some (by kernel_rfl))
 f22 := Try.func91.trans (congrArg some (by kernel_rfl))
 f29 := Try.func100.trans (congrArg some (by kernel_rfl))
 f30 := Try.func101.trans (congrArg some (by kernel_rfl))
 f36 := Try.func107.trans (congrArg some (by kernel_rfl))
 t0 := Try.underlying0
 a0 := Try.isAgg0
 z0 := Try.sizeOf0
 v0 := Try.zeroValue0
 t3 := Try.underlying3
 a3 := Try.isAgg3
 z3 := Try.sizeOf3
 v3 := Try.zeroValue3
 t4 := Try.underlying4
 a4 := Try.isAgg4
 z4 := Try.sizeOf4
 v4 := Try.zeroValue4
 t9 := Try.underlying9
 a9 := Try.isAgg9
 z9 := Try.sizeOf9
 v9 := Try.zeroValue9
 t24 := Try.underlying26
 a24 := Try.isAgg26
 z24 := Try.sizeOf26
 v24 := Try.zeroValue26
 i9 := by kernel_rfl }
def setL (cs : Array Value) : Nat → List Value → Array Value
 | _, [] => cs
 | o, v :: r => setL (cs.setIfInBounds o v) (o + 1) r
theorem setL_size : ∀ (vs : List Value) (cs : Array Value) (o : Nat), (setL cs o vs).size = cs.size
 | [], _, _ => rfl
 | v :: r, cs, o => by rw [setL, setL_size r]; simp
theorem setL_get : ∀ (vs : List Value) (cs : Array Value) (o j : Nat), o + vs.length ≤ cs.size → (setL cs o vs)[j]? = if o ≤ j ∧ j < o + vs.length then vs[j - o]? else cs[j]?
 | [], cs, o, j, h => by rw [if_neg (by simp only [List.length_nil]; omega)]; rfl
 | v :: r, cs, o, j, h => by
  simp only [List.length_cons] at h ⊢
  rw [setL, setL_get r _ _ _ (by simp; omega)]
  by_cases h1 : o + 1 ≤ j ∧ j < o + 1 + r.length
  ·
   rw [if_pos h1, if_pos (by omega), show j - o = (j - (o + 1)) + 1 by omega, List.getElem?_cons_succ]
  ·
   rw [if_neg h1]
   by_cases h2 : j = o
   ·
    subst h2
    rw [if_pos (by omega), Nat.sub_self, Array.getElem?_setIfInBounds_self_of_lt (by omega)]
    rfl
   ·
    rw [if_neg (by omega), Array.getElem?_setIfInBounds_ne (Ne.symm h2)]
theorem setCells_blk {t g : Nat} : ∀ (vs : List Value) (W : World) (cs : Array Value) (o : Nat), W.heap[g]? = some (.cells cs t (0, 0)) → (W.setCells g o vs).heap[g]? = some (.cells (setL cs o vs) t (0, 0))
 | [], _, _, _, h => h
 | v :: r, W, cs, o, h => setCells_blk r _ _ _ (blk_set h o v)
theorem setCells_far {g k : Nat} (hk : k ≠ g) : ∀ (vs : List Value) (W : World) (o : Nat), (W.setCells g o vs).heap[k]? = W.heap[k]?
 | [], _, _ => rfl
 | v :: r, W, o => (setCells_far hk r _ _).trans (Below.heap_setCell W ⟨g, o, none⟩ v k hk)
theorem setCells_side {g : Nat} : ∀ (vs : List Value) (W : World) (o : Nat), (W.setCells g o vs).heap.size = W.heap.size ∧ (W.setCells g o vs).os = W.os ∧ (W.setCells g o vs).tape = W.tape ∧ (W.setCells g o vs).output = W.output
 | [], _, _ => ⟨rfl, rfl, rfl, rfl⟩
 | v :: r, W, o => by
  obtain ⟨a, b, c, d⟩ := setCells_side r (W.setCell ⟨g, o, none⟩ v) (o + 1)
  exact ⟨a.trans (by simp [World.setCell]), b, c, d⟩
def insAt (l : List ByteArray) (i : Nat) (x : ByteArray) : List ByteArray := l.take i ++ x :: l.drop i
theorem insAt_length (l : List ByteArray) (i : Nat) (x : ByteArray) (h : i ≤ l.length) : (insAt l i x).length = l.length + 1 := by simp [insAt]; omega
theorem encs_insAt (l : List ByteArray) (i : Nat) (x : ByteArray) : encs Value.string (insAt l i x) = (encs Value.string l).take i ++ .string x :: (encs Value.string l).drop i := by simp [encs, insAt, List.map_take, List.map_drop]
theorem R_made {B g cap n : Nat} {W : World} {cs : Array Value} {l : List ByteArray} (hb : W.heap[g]? = some (.cells cs 9 (0, 0))) (hg : B ≤ g) (hn : n = l.length) (hc : l.length ≤ cap) (hm : cap ≤ maxLen) (hs : cs.size = cap) (ht : cs.toList.take l.length = encs Value.string l) :
 Kd.R Kd.string 9 W B (fun _ => True) (.slice (some ⟨g, 0, none⟩) n cap) l := by
 subst hn
 exact Kd.R_of_own ⟨by simp [encs], .inr ⟨g, cap, cs, rfl, hg, hb, hc, hm, by rw [hs, Nat.mul_one], by rw [Nat.mul_one]; exact ht⟩⟩ (fun _ _ => trivial)
theorem ins_cells {cur : Array Value} {l : List ByteArray} {i : Nat} {x : ByteArray} (hl : cur.toList.take l.length = encs Value.string l) (hs : l.length + 1 ≤ cur.size) (hi : i ≤ l.length) :
 (setL (setL cur (i + 1) ((encs Value.string l).drop i)) i [.string x]).toList.take (insAt l i x).length = encs Value.string (insAt l i x) := by
 rw [encs_insAt, insAt_length l i x hi]
 have hle : (encs Value.string l).length = l.length := encs_length l
 apply List.ext_getElem?
 intro j
 rw [List.getElem?_take]
 by_cases hj : j < l.length + 1
 ·
  rw [if_pos hj, Array.getElem?_toList, setL_get _ _ _ _ (by rw [setL_size]; simp; omega)]
  by_cases h1 : i ≤ j ∧ j < i + [Value.string x].length
  ·
   have : j = i := by simp at h1; omega
   subst this
   rw [if_pos h1, Nat.sub_self, List.getElem?_append_right (by simp; omega)]
   simp [hle, Nat.min_eq_left hi]
  ·
   rw [if_neg h1, setL_get _ _ _ _ (by simp [hle]; omega)]
   simp only [List.length_singleton] at h1
   by_cases h2 : i + 1 ≤ j ∧ j < i + 1 + ((encs Value.string l).drop i).length
   ·
    rw [if_pos h2, List.getElem?_append_right (by simp; omega), List.length_take, hle, Nat.min_eq_left hi, show j - i = (j - (i + 1)) + 1 by omega, List.getElem?_cons_succ]
   ·
    have hji : j < i := by simp [hle] at h2; omega
    rw [if_neg h2, List.getElem?_append_left (by simp [hle]; omega), List.getElem?_take, if_pos hji, ← hl, List.getElem?_take, if_pos (by omega), Array.getElem?_toList]
 ·
  rw [if_neg hj, List.getElem?_eq_none (by simp [hle]; omega)]
theorem ins_cells2 {cur : Array Value} {l : List ByteArray} {i : Nat} {x : ByteArray} (hl : ∀ j, j < i → cur[j]? = (encs Value.string l)[j]?) (hs : l.length + 1 ≤ cur.size) (hi : i ≤ l.length) :
 (setL (setL cur i [.string x]) (i + 1) ((encs Value.string l).drop i)).toList.take (insAt l i x).length = encs Value.string (insAt l i x) := by
 rw [encs_insAt, insAt_length l i x hi]
 have hle : (encs Value.string l).length = l.length := encs_length l
 apply List.ext_getElem?
 intro j
 rw [List.getElem?_take]
 by_cases hj : j < l.length + 1
 ·
  rw [if_pos hj, Array.getElem?_toList, setL_get _ _ _ _ (by rw [setL_size]; simp [hle]; omega)]
  by_cases h2 : i + 1 ≤ j ∧ j < i + 1 + ((encs Value.string l).drop i).length
  ·
   rw [if_pos h2, List.getElem?_append_right (by simp; omega), List.length_take, hle, Nat.min_eq_left hi, show j - i = (j - (i + 1)) + 1 by omega, List.getElem?_cons_succ]
  ·
   rw [if_neg h2, setL_get _ _ _ _ (by simp; omega)]
   by_cases h1 : i ≤ j ∧ j < i + [Value.string x].length
   ·
    have : j = i := by simp at h1; omega
    subst this
    rw [if_pos h1, Nat.sub_self, List.getElem?_append_right (by simp; omega)]
    simp [hle, Nat.min_eq_left hi]
   ·
    have hji : j < i := by simp [hle] at h2; simp at h1; omega
    rw [if_neg h1, List.getElem?_append_left (by simp [hle]; omega), List.getElem?_take, if_pos hji]
    exact hl j hji
 ·
  rw [if_neg hj, List.getElem?_eq_none (by simp [hle]; omega)]
theorem shape_of {W : World} {g t : Nat} {cs : Array Value} (h : W.heap[g]? = some (.cells cs t (0, 0))) : W.shape? g = some (t, cs.size) := by simp [World.shape?, h]
theorem below_cells {B g : Nat} {w W : World} (h : Below B w W) (hg : B ≤ g) (o : Nat) (vs : List Value) : Below B w (W.setCells g o vs) := by
 obtain ⟨a, b, c, d⟩ := setCells_side (g := g) vs W o
 exact ⟨b.trans h.os, c.trans h.tape, d.trans h.output, by rw [a]; exact h.size, fun k hk => (setCells_far (by omega) vs W o).trans (h.block k hk)⟩
theorem kept_cells {g : Nat} {w W : World} {S : Nat → Prop} (h : Kept w W S) (hg : S g ∨ w.heap.size ≤ g) (o : Nat) (vs : List Value) : Kept w (W.setCells g o vs) S :=
 h.then_ (S2 := fun k => k = g) ⟨by rw [(setCells_side (g := g) vs W o).1]; exact Nat.le_refl _, fun i hi hn => setCells_far hn vs W o⟩ (fun k hk => by rw [hk]; exact hg)
theorem own_some {g n c k : Nat} (h : (Value.slice (some ⟨g, 0, none⟩) n c).ownBlock = some k) : g = k := by simpa [Value.ownBlock] using h
theorem ins_calls {B vb i : Nat} {w : World} {A : Option Addr} {c : Nat} {l : List ByteArray} {x : ByteArray} (hr : Kd.R Kd.string 9 w B (fun _ => True) (.slice A l.length c) l) (hi : i ≤ l.length)
 (hvb : w.heap[vb]? = some (.cells #[.string x] 9 (0, 0))) (hne : some vb ≠ (Value.slice A l.length c).ownBlock) (hB : B ≤ w.heap.size) (hbig : (l.length + 1) * 16 ≤ 140737488355328) :
 Calls Try.prog 91 #[.slice A l.length c, .int .i64 i, .slice (some ⟨vb, 0, none⟩) 1 1] w fun e w' => ∃ A' c', e = .returned (.slice A' (l.length + 1) c') ∧ Kd.R Kd.string 9 w' B (fun _ => True) (.slice A' (l.length + 1) c') (insAt l i x) ∧ Below B w w' ∧ Kept w w' (fun k => (Value.slice A l.length c).ownBlock = some k) ∧ ∀ k, (Value.slice A' (l.length + 1) c').ownBlock = some k → (Value.slice A l.length c).ownBlock = some k ∨ w.heap.size ≤ k := by
 have hv : ∀ (j : Nat) (v : Value), [Value.string x][j]? = some v → w.cell? ⟨vb, 0 + j, none⟩ = some v := fun j v hj => by
  match j, hj with
  | 0, hj => obtain rfl := Option.some.inj hj; exact (blk_cell hvb 0).trans rfl
  | j + 1, hj => simp at hj
 have h1v : ∀ v ∈ [Value.string x], v.oneCell' = true := fun v hv => by simp at hv; subst hv; rfl
 have h1c : ∀ v ∈ encs Value.string l, v.oneCell' = true := fun v hv => by
  simp only [encs, List.mem_map] at hv
  obtain ⟨_, _, rfl⟩ := hv
  rfl
 have hle : (encs Value.string l).length = l.length := encs_length l
 have hil := insAt_length l i x hi
 have hml : maxLen = 9223372036854775807 := by decide
 have hnl : l.length < 8796093022208 := by omega
 obtain ⟨_, h2⟩ := Kd.own_of_R hr
 rcases h2 with ⟨he, h0⟩ | ⟨g, cap, cur, he, hbg, hh, hnc, hcm, hcs, ht⟩
 ·
  -- nil
  injection he with ha _ hc
  subst ha hc
  have hl0 : l = [] := List.eq_nil_of_length_eq_zero h0
  subst hl0
  obtain rfl : i = 0 := by simpa using hi
  refine (Any2.slices_Insert_string_end_grow insLays none 0 0 vb 0 1 1 [] [.string x] w (by omega) (Nat.le_refl _) (by omega) (by omega) rfl rfl (fun _ => rfl) (fun _ h => by cases h) hv h1v).mono ?_
  rintro e w' ⟨rfl, rfl⟩
  refine ⟨_, _, rfl, R_made (heap_alloc_new w.drew _) hB rfl (grownCap_ge _ _ _ _) (grownCap_le_maxLen _ _ _ _ (by rw [hml]; omega)) ?_ ?_, (below_drew (Below.refl B w)).alloc hB _, (Kept.drew (Kept.refl w _)).alloc _, fun k hk => .inr (by rw [← own_some hk]; exact Nat.le_refl _)⟩
  ·
   have := grownCap_ge w 1 0 9
   simp [size_zeroCells]
   show 1 + (grownCap w 1 0 9 - 1) * 1 = grownCap w 1 0 9
   omega
  ·
   simp [insAt, encs]
 ·
  injection he with ha _ hc
  subst ha hc
  rw [Nat.mul_one] at hcs ht
  have hcell : ∀ (j : Nat) (v : Value), (encs Value.string l)[j]? = some v → w.cell? ⟨g, 0 + j, none⟩ = some v := fun j v hj => by
   rw [Nat.zero_add, blk_cell hh, ← Array.getElem?_toList]
   rw [← ht, List.getElem?_take] at hj
   split at hj
   ·
    exact hj
   ·
    cases hj
  have hsome : ∀ j, j < c → (w.cell? ⟨g, 0 + j, none⟩).isSome = true := fun j hj => by
   rw [Nat.zero_add, blk_cell hh]
   simp [hcs, hj]
  have hvg : vb ≠ g := fun h => hne (by rw [h]; simp [Value.ownBlock])
  by_cases hroom : l.length + 1 ≤ c
  ·
   by_cases hlt : i < l.length
   ·
    refine (Any2.slices_Insert_string_shift insLays g 0 l.length c i vb 0 1 1 (encs Value.string l) [.string x] w hlt (by omega) hroom (by rw [← hml]; exact hcm) hvg hle rfl hcell (fun j hj => hsome j (by omega)) (fun j _ => blk_frozen hh _) hv h1c h1v 9 9 1 cur.size (shape_of hvb) (shape_of hh) (by omega) (blk_frozen hvb 0) (blk_frozen hvb 1)).mono ?_
    rintro e w' ⟨rfl, rfl⟩
    have k1 := setCells_blk ((encs Value.string l).drop i) w.drew cur (0 + (i + 1)) hh
    have k2 := setCells_blk [.string x] _ _ (0 + i) k1
    simp only [Nat.zero_add] at k1 k2 ⊢
    exact ⟨_, _, rfl, R_made k2 hbg hil.symm (by omega) hcm (by rw [setL_size, setL_size, hcs]) (ins_cells ht (by omega) hi), below_cells (below_cells (below_drew (Below.refl B w)) hbg _ _) hbg _ _, kept_cells (kept_cells (Kept.drew (Kept.refl w _)) (.inl (by simp [Value.ownBlock])) _ _) (.inl (by simp [Value.ownBlock])) _ _, fun k hk => .inl hk⟩
   ·
    obtain rfl : i = l.length := by omega
    refine (Any2.slices_Insert_string_end_room insLays g 0 l.length c vb 0 1 1 [.string x] w (by omega) hroom (by rw [← hml]; exact hcm) rfl (fun j hj => by have := hsome (l.length + j) (by omega); rw [show 0 + l.length + j = 0 + (l.length + j) by omega]; exact this) (fun j _ => blk_frozen hh _) hv h1v).mono ?_
    rintro e w' ⟨rfl, rfl⟩
    have k2 := setCells_blk [.string x] w cur (0 + l.length) hh
    simp only [Nat.zero_add] at k2 ⊢
    have hz := ins_cells (x := x) ht (by omega) (Nat.le_refl l.length)
    rw [show (encs Value.string l).drop l.length = [] from List.drop_eq_nil_of_le (by rw [hle]; exact Nat.le_refl _)] at hz
    exact ⟨_, _, rfl, R_made k2 hbg hil.symm (by omega) hcm (by rw [setL_size, hcs]) hz, below_cells (Below.refl B w) hbg _ _, kept_cells (Kept.refl w _) (.inl (by simp [Value.ownBlock])) _ _, fun k hk => .inl hk⟩
  ·
   by_cases hlt : i < l.length
   ·
    refine (Any2.slices_Insert_string_grow insLays g 0 l.length c i vb 0 1 1 (encs Value.string l) [.string x] w hlt (by omega) hnc (by omega) hbig hle rfl hcell hv h1c h1v).mono ?_
    rintro e w' ⟨rfl, rfl⟩
    have hgc := grownCap_ge w (l.length + 1) c 9
    obtain ⟨CS, hCS⟩ : ∃ CS : Array Value, CS = ((encs Value.string l).take i).toArray ++ Builtin.zeroCells (Value.string ⟨#[]⟩).cells (l.length + 1 - i) ++ Builtin.zeroCells (Value.string ⟨#[]⟩).cells (grownCap w (l.length + 1) c (insRen.t 9) - (l.length + 1)) := ⟨_, rfl⟩
    have hsz : CS.size = grownCap w (l.length + 1) c 9 := by
     rw [hCS]
     simp only [Array.size_append, size_zeroCells, List.size_toArray, List.length_take, hle]
     show min i l.length + (l.length + 1 - i) * 1 + (grownCap w (l.length + 1) c 9 - (l.length + 1)) * 1 = grownCap w (l.length + 1) c 9
     omega
    have hfst : ∀ j, j < i → CS[j]? = (encs Value.string l)[j]? := fun j hj => by
     rw [hCS, Array.getElem?_append_left (by simp [hle]; omega), Array.getElem?_append_left (by simp [hle]; omega)]
     simp [hj]
    rw [← hCS]
    have k0 := heap_alloc_new w (.cells CS 9)
    have k1 := setCells_blk [.string x] (w.alloc (.cells CS 9)).drew CS i k0
    have k2 := setCells_blk ((encs Value.string l).drop i) _ _ (i + 1) (show ((w.alloc (.cells CS 9)).drew.setCells w.heap.size i [.string x]).drew.heap[w.heap.size]? = _ from k1)
    exact ⟨_, _, rfl, R_made k2 hB hil.symm (by rw [hil]; exact hgc) (grownCap_le_maxLen _ _ _ _ (by rw [hml]; omega)) (by rw [setL_size, setL_size]; exact hsz) (ins_cells2 hfst (by omega) hi), below_cells (below_drew (below_cells (below_drew ((Below.refl B w).alloc hB _)) hB _ _)) hB _ _, kept_cells (Kept.drew (kept_cells (Kept.drew ((Kept.refl w _).alloc _)) (.inr (Nat.le_refl _)) _ _)) (.inr (Nat.le_refl _)) _ _, fun k hk => .inr (by rw [← own_some hk]; exact Nat.le_refl _)⟩
   ·
    obtain rfl : i = l.length := by omega
    refine (Any2.slices_Insert_string_end_grow insLays (some ⟨g, 0, none⟩) l.length c vb 0 1 1 (encs Value.string l) [.string x] w (by omega) hnc (by omega) hbig hle rfl (fun h => by cases h) (fun a ha j v hj => by injection ha with ha; subst ha; rw [add_plain]; have := hcell j v hj; rwa [Nat.zero_add] at this) hv h1v).mono ?_
    rintro e w' ⟨rfl, rfl⟩
    refine ⟨_, _, rfl, R_made (heap_alloc_new w.drew _) hB hil.symm (by rw [hil]; exact grownCap_ge _ _ _ _) (grownCap_le_maxLen _ _ _ _ (by rw [hml]; omega)) ?_ ?_, (below_drew (Below.refl B w)).alloc hB _, (Kept.drew (Kept.refl w _)).alloc _, fun k hk => .inr (by rw [← own_some hk]; exact Nat.le_refl _)⟩
    ·
     have := grownCap_ge w (l.length + 1) c 9
     simp only [Array.size_append, size_zeroCells, List.size_toArray, List.length_append, hle, List.length_singleton]
     show l.length + 1 + (grownCap w (l.length + 1) c 9 - (l.length + 1)) * 1 = grownCap w (l.length + 1) c 9
     omega
    ·
     rw [hil, Array.toList_append, List.take_append_of_le_length (by simp [hle]), List.take_of_length_le (by simp [hle])]
     simp [insAt, encs]
end Go.Proofs.Ytdlkhpfgkghhmaa.P

-- ==== Rw8
namespace Go.Proofs.Ytdlkhpfgkghhmaa.P
open Go.RowKit Go.Proofs.YtdlkhpfgkghhmaaW.PrintWords Go.Proofs.YtdlkhpfgkghhmaaW.PrintLast Go.Proofs.YtdlkhpfgkghhmaaW.PrintMore
def IsMcH (B : Nat) (W : World) (g : Nat) (rv tv : Value) (ops : List S70) (vals : List (List S54)) (st : Int) (vh : Value) (hd : List ByteArray) (fu : Int) : Prop :=
 ∃ vo vv, W.heap[g]? = some (.cells #[vo, vv, .int .i64 st, vh, rv, tv, .int .i64 fu] 94 (0, 0)) ∧ B ≤ g ∧ Kd.R k70 70 W B (fun _ => True) vo ops ∧ Kd.R (Kd.slice 54 k54) 23 W B (fun _ => True) vv vals ∧ Kd.R Kd.string 9 W B (fun _ => True) vh hd
theorem isMc_iff {B : Nat} {W : World} {g : Nat} {rv tv : Value} {ops : List S70} {vals : List (List S54)} {st fu : Int} {hd : List ByteArray} : IsMc B W g rv tv ops vals st hd fu ↔ ∃ vh, IsMcH B W g rv tv ops vals st vh hd fu := by
 constructor
 ·
  rintro ⟨vo, vv, vh, h⟩
  exact ⟨vh, vo, vv, h⟩
 ·
  rintro ⟨vh, vo, vv, h⟩
  exact ⟨vo, vv, vh, h⟩
def headF (k : Nat) : List ByteArray → List ByteArray → Option (List ByteArray)
 | [], hd => some hd
 | x :: r, hd => (slices_BinarySearch_string_string.f k hd x).bind fun b => if b.2 = true then headF k r hd else if 0 ≤ b.1 ∧ b.1 ≤ (hd.length : Int) ∧ hd.length < 8796093022207 then headF k r (insAt hd b.1.toNat x) else none
theorem head_calls {B g k : Nat} {w : World} {rv tv vh : Value} {ops : List S70} {vals : List (List S54)} {st fu : Int} {hd fin names : List ByteArray} {An : Option Addr} {cn : Nat}
 (h : IsMcH B w g rv tv ops vals st vh hd fu) (hn : Kd.F Kd.string w (fun q => q ≠ g ∧ vh.ownBlock ≠ some q) An names.length names) (hf : headF k names hd = some fin) :
 Calls Try.prog 73 #[.pointer (some ⟨g, 0, none⟩), .slice An names.length cn] w fun e w' => e = .returned (.tuple #[]) ∧ IsMc B w' g rv tv ops vals st fin fu ∧ Below B w w' ∧ Kept w w' (fun q => q = g ∨ vh.ownBlock = some q) := by
 have HI := Aside0.mk h
 have HN := Aside0.mk hn
 have HF := Aside0.mk hf
 have HM := Aside0.mk (show (names.length : Int) ≤ 9223372036854775807 by have := (Kd.F_now hn).2.1; omega)
 have HB := Aside0.mk (Below.refl B w)
 have HK := Aside0.mk (Kept.refl w (fun q => q = g ∨ vh.ownBlock = some q))
 have HV := Aside0.mk (show ∀ q, vh.ownBlock = some q → vh.ownBlock = some q ∨ w.heap.size ≤ q from fun q hq => .inl hq)
 clear h hn hf
 go_enter Try.func73, Try.ntmps73
 go_wp2
 go_loopg [10] names.length (fun kq v10 w' => ∃ (x : Int) (vc : Value) (cur : List ByteArray), v10 = .int .i64 x ∧ Aside0 (0 ≤ x ∧ x + kq = (names.length : Int)) ∧ Aside0 (headF k (names.drop x.toNat) cur = some fin) ∧ Aside0 (IsMcH B w' g rv tv ops vals st vc cur fu) ∧ Aside0 (Below B w w') ∧ Aside0 (Kept w w' (fun q => q = g ∨ vh.ownBlock = some q)) ∧ Aside0 (∀ q, vc.ownBlock = some q → vh.ownBlock = some q ∨ w.heap.size ≤ q))
 case atStart => exact ⟨0, vh, hd, rfl, ⟨by omega⟩, HF, HI, HB, HK, HV⟩
 case round =>
  clear HI HB HK HF HV
  obtain ⟨x, vc, cur, rfl, HX, HF, HI, HB, HK, HV⟩ := hrel
  cases gk with
  | succ k1 =>
   have hi : 0 ≤ x ∧ x < (names.length : Int) := by have := HX.out; omega
   have hnw := Kd.F_now (Kd.F_kept HN.out HK.out (fun q hq hs => hs.elim hq.1 hq.2))
   obtain ⟨ad, rfl, hx0⟩ := Kd.at_string hnw x hi.1 hi.2
   have hdr : names.drop x.toNat = rdOf ByteArray.empty names x :: names.drop (x.toNat + 1) := by
    rw [List.drop_eq_getElem_cons (show x.toNat < names.length by omega)]
    congr 1
    simp [rdOf, List.getD_eq_getElem?_getD, show x.toNat < names.length by omega]
   have hf := HF.out
   rw [hdr, headF] at hf
   generalize rdOf ByteArray.empty names x = s at hx0 hf
   obtain ⟨⟨j, b⟩, hbs, hf⟩ := Option.bind_eq_some_iff.mp hf
   simp only at hf
   obtain ⟨vo, vv, hb, hg, hO, hV, hH⟩ := HI.out
   obtain ⟨Ah, ch, rfl⟩ := Kd.R_slice hH
   obtain ⟨_, hch, hCh⟩ := Kd.R_reads' hH
   have B1 := fun (W : World) (hW : Kd.C Kd.string W Ah cur.length cur) => slices_BinarySearch_string_string.calls k Ah ch cur s j b W hW hch hbs
   have hm3 : wr.cell? ⟨g, 3, none⟩ = some (.slice Ah cur.length ch) := (blk_cell hb 3).trans rfl
   have HXI := Aside0.mk hi
   have HH := Aside0.mk hH
   have HCh := Aside0.mk hCh
   have HBK := Aside0.mk hb
   have HOV := Aside0.mk (And.intro hg (And.intro hO hV))
   have hpp := eq_true hi.1
   have hqq := eq_true hi.2
   have hb0 : decide (x < (names.length : Int)) = true := decide_eq_true hi.2
   have HFX := Aside0.mk hf
   clear hdr hnw hb hg hO hV hH hCh hbs hf hi hch
   cases b with
   | true =>
    have hf := HFX.out
    rw [if_pos rfl] at hf
    have HF2 := Aside0.mk hf
    clear hf HFX
    go_wp2_with (go_at_call 90; (with_reducible refine (B1 _ ?side1).mono ?_); (case side1 => exact HCh.out); rintro e w2 ⟨rfl, ⟨nd, rfl⟩⟩)
    go_roundg k1
    case measure => have := HX.out; omega
    case rel => exact ⟨x + 1, _, cur, by have e_ : wrap64 (x + 1) = x + 1 := (by have := HXI.out; have := HM.out; unfold wrap64; omega); first | rfl | rw [e_] | (simp [e_]; done), ⟨by have := HX.out; omega⟩, ⟨by rw [show (x + 1).toNat = x.toNat + 1 by have := HXI.out; omega]; exact HF2.out⟩, ⟨⟨_, _, HBK.out, HOV.out.1, Kd.R_drewN HOV.out.2.1 _, Kd.R_drewN HOV.out.2.2 _, Kd.R_drewN HH.out _⟩⟩, ⟨pw_below_drewN HB.out _⟩, ⟨Kept.drewN HK.out _⟩, HV⟩
   | false =>
    have hf := HFX.out
    rw [if_neg (by decide)] at hf
    by_cases hj : 0 ≤ j ∧ j ≤ (cur.length : Int) ∧ cur.length < 8796093022207
    case neg => rw [if_neg hj] at hf; cases hf
    rw [if_pos hj] at hf
    have HF2 := Aside0.mk hf
    have HJ := Aside0.mk hj
    obtain ⟨jn, rfl⟩ := Int.eq_ofNat_of_zero_le hj.1
    have I1 := fun (W : World) (hr : Kd.R Kd.string 9 W B (fun _ => True) (.slice Ah cur.length ch) cur) (hB : B ≤ W.heap.size) (vb : Nat) (hvb : W.heap[vb]? = some (.cells #[.string s] 9 (0, 0))) (hne : some vb ≠ (Value.slice Ah cur.length ch).ownBlock) => ins_calls (i := jn) hr (by have := HJ.out; omega) hvb hne hB (by have := HJ.out; omega)
    clear hf HFX hj
    go_wp2_with (first | (go_at_call 90; (with_reducible refine (B1 _ ?side2).mono ?_); (case side2 => exact HCh.out); rintro e w2 ⟨rfl, ⟨nd, rfl⟩⟩) | (go_at_call 91; (with_reducible refine (I1 _ ?side3 ?side4 wr.heap.size ?side5 ?side6).mono ?_); (case side3 => exact (zr HH.out)); (case side4 => exact Nat.le_trans HOV.out.1 (by have := blk_lt HBK.out; simp; omega)); (case side5 => exact heap_alloc_new _ _); (case side6 => exact fun he => by have := Kd.R_lt HH.out _ he.symm; omega); rintro e w3 ⟨A3, c3, rfl, hR, hB3, hK3, hV3⟩; have hz := blk_kept (((below_alloc (pw_below_drewN (Below.refl wr.heap.size wr) nd) (.cells #[.string s] 9)).block g (blk_lt HBK.out)).trans HBK.out) hK3 (fun he => Kd.R_ne HH.out HBK.out (by decide) he.symm); have HZ := Aside0.mk hz; have q3 := (blk_cell hz 3).trans rfl; have f3 := blk_frozen hz 3; have HR3 := Aside0.mk hR; have HB3 := Aside0.mk hB3; have HK3 := Aside0.mk hK3; have HV3 := Aside0.mk hV3; clear hz hR hB3 hK3 hV3))
    go_roundg k1
    case measure => have := HX.out; omega
    case rel =>
     have hW := pw_below_drewN (Below.refl wr.heap.size wr) nd
     have hW2 := below_alloc hW (.cells #[.string s] 9)
     have hO := Kd.R_mono (Kd.R_kept (Kd.R_apartR (Kd.R_below HOV.out.2.1 hW2) (Kd.R_below HH.out hW2) (by decide)) HK3.out (fun q hq hs => hq.2 hs.symm)) (fun _ _ => trivial)
     have hV := Kd.R_mono (Kd.R_kept (Kd.R_apartR (Kd.R_below HOV.out.2.2 hW2) (Kd.R_below HH.out hW2) (by decide)) HK3.out (fun q hq hs => hq.2 hs.symm)) (fun _ _ => trivial)
     have hsz := hW2.size
     have hws := HK.out.1
     refine ⟨x + 1, .slice A3 (cur.length + 1) c3, insAt cur jn s, by have e_ : wrap64 (x + 1) = x + 1 := (by have := HXI.out; have := HM.out; unfold wrap64; omega); first | rfl | rw [e_] | (simp [e_]; done), ⟨by have := HX.out; omega⟩, ⟨by rw [show (x + 1).toNat = x.toNat + 1 by have := HXI.out; omega]; exact HF2.out⟩, ⟨⟨_, _, by simpa using blk_set HZ.out 3 (.slice A3 (cur.length + 1) c3), HOV.out.1, Kd.R_set hO HZ.out (by decide) 3 _, Kd.R_set hV HZ.out (by decide) 3 _, Kd.R_set HR3.out HZ.out (by decide) 3 _⟩⟩, ⟨(below_trB (below_trB HB.out (below_less hW2 (Nat.le_trans HOV.out.1 (Nat.le_of_lt (blk_lt HBK.out))))) HB3.out).setCell (p := ⟨g, 3, none⟩) HOV.out.1 _⟩, ⟨Kept.setCell (Kept.then_ (Kept.below HK.out hW2) HK3.out (fun q hq => (HV.out q hq).elim (fun h => .inl (.inr h)) .inr)) (.inl (.inl rfl)) _⟩, ⟨fun q hq => (HV3.out q hq).elim (fun h => HV.out q h) (fun h => .inr (by omega))⟩⟩
  | zero =>
   have hb0 : decide (x < (names.length : Int)) = false := decide_eq_false (by have := HX.out; omega)
   have hf := HF.out
   rw [List.drop_eq_nil_of_le (by have := HX.out; omega), headF] at hf
   obtain rfl := Option.some.inj hf
   clear hf HF
   go_wp2
   (first | refine bodyPost_ret (results_none rfl _ _ _) rfl ?_ | refine bodyPost_end (results_none rfl _ _ _) rfl ?_)
   exact ⟨rfl, isMc_iff.2 ⟨_, HI.out⟩, HB.out, HK.out⟩
end Go.Proofs.Ytdlkhpfgkghhmaa.P

-- ==== PM
/- A map from strings to ints that the call makes, read as a list of its stores, the latest first: what the walk asks of it. -/
namespace Go.Proofs.Ytdlkhpfgkghhmaa.P
open Go.RowKit Go.WideMaps Go.Maps Go.Proofs.YtdlkhpfgkghhmaaW.PrintWords

def mapHas (m : List S54) (s : ByteArray) : Bool := m.any (fun x => x.f0.data.toList == s.data.toList)
def mapAt (m : List S54) (s : ByteArray) : Int := match m.find? (fun x => x.f0.data.toList == s.data.toList) with
 | some x => x.f1
 | none => 0
def mapPut (m : List S54) (s : ByteArray) (a : Int) : List S54 := ⟨s, a⟩ :: m

def Mapped (base : Nat) (W w1 : World) : Prop := ∃ b es clock, base ≤ b ∧ W.heap[b]? = some (.map es clock) ∧ W.grownBy w1 (some b)

theorem below_mapped {w W w1 : World} {base : Nat} (h : Below base w W) (hm : Mapped base W w1) : Below base w w1 := by
 obtain ⟨b, es, clock, hb, hh, hg⟩ := hm
 refine ⟨hg.os.trans h.os, hg.tape.trans h.tape, hg.output.trans h.output, Nat.le_trans h.size hg.size, fun i hi => ?_⟩
 have := blk_lt hh
 exact (hg.block i (by omega) (by intro e; injection e with e; omega)).trans (h.block i hi)
theorem blk_mapped {W w1 : World} {base g : Nat} {o : Obj} (h : W.heap[g]? = some o) (hm : Mapped base W w1) (hne : ∀ es clock, o ≠ .map es clock := by intro _ _ h_; cases h_) : w1.heap[g]? = some o := by
 obtain ⟨b, es, clock, hb, hh, hg⟩ := hm
 refine (hg.block g (blk_lt h) (fun e => ?_)).trans h
 injection e with e
 subst e
 rw [h] at hh
 injection hh with hh
 exact hne _ _ hh

namespace Kd
section
variable {α : Type} {d : Kd α} {e base base' : Nat} {ok : Nat → Prop} {W w1 : World} {v : Value} {xs : List α}
theorem R_mapped (h : d.R e W base ok v xs) (hm : Mapped base' W w1) : d.R e w1 base ok v xs := by
 obtain ⟨b, es, clock, hb, hh, hg⟩ := hm
 refine Kd.R_mono (Kd.R_move (Kd.R_bound h) (fun k hk => hg.block k hk.2.2.1 (fun he => ?_))) (fun _ hk => hk.1)
 obtain ⟨_, _, _, q, hq, cells, hc⟩ := hk
 injection he with he
 subst he
 rw [hc] at hh
 cases hh
theorem S_mapped (h : Kd.S d e W base ok v xs) (hm : Mapped base' W w1) : Kd.S d e w1 base ok v xs := by
 obtain ⟨f, h⟩ := h
 exact ⟨f, R_mapped h hm⟩
end

def P (d : Kd S54) (e : Nat) (w : World) (base : Nat) (ok : Nat → Prop) (v : Value) (m : List S54) : Prop :=
 ∃ b, ∃ D : DataW Unit, v = .map (some b) ∧ ok b ∧ base ≤ b ∧ w.ownsMap Try.prog 9 (plainElem Try.prog 3) b m.length D ∧ IsMap D ∧
  ∀ s : ByteArray, Maps.has D (.string s.data.toList) = mapHas m s ∧ D.atKey (.string s.data.toList) (.lit (.int .i64 0)) = .lit (.int .i64 (mapAt m s))
section
variable {d : Kd S54} {e e' base base' : Nat} {ok ok' : Nat → Prop} {w w1 W : World} {v u : Value} {m : List S54}
theorem P_step (h : Kd.P d e w base ok v m) (hm : ∀ b es clock, ok b → w.heap[b]? = some (.map es clock) → w1.heap[b]? = w.heap[b]?) : Kd.P d e w1 base ok v m := by
 obtain ⟨b, D, rfl, ho, hb, ⟨es, clock, hh, hf⟩, hD, hs⟩ := h
 exact ⟨b, D, rfl, ho, hb, ⟨es, clock, (hm b es clock ho hh).trans hh, hf⟩, hD, hs⟩
theorem P_mono (h : Kd.P d e w base ok v m) (hk : ∀ k, ok k → ok' k) : Kd.P d e w base ok' v m := by
 obtain ⟨b, D, rfl, ho, r⟩ := h
 exact ⟨b, D, rfl, hk _ ho, r⟩
theorem P_lower (h : Kd.P d e w base ok v m) (hb : base' ≤ base) : Kd.P d e w base' ok v m := by
 obtain ⟨b, D, rfl, ho, h1, r⟩ := h
 exact ⟨b, D, rfl, ho, Nat.le_trans hb h1, r⟩
theorem P_below (h : Kd.P d e w base ok v m) (hb : Below w.heap.size w w1) : Kd.P d e w1 base ok v m := P_step h (fun b es clock _ hh => hb.block b (blk_lt hh))
theorem P_drew (h : Kd.P d e w base ok v m) : Kd.P d e w.drew base ok v m := P_below h (below_drew (Below.refl _ _))
theorem P_drewN (h : Kd.P d e w base ok v m) (n : Nat) : Kd.P d e (w.drewN n) base ok v m := P_below h (pw_below_drewN (Below.refl _ _) n)
theorem P_far (h : Kd.P d e w base ok v m) {p : Addr} (hok : ∀ k, ok k → k ≠ p.block) (x : Value) : Kd.P d e (w.setCell p x) base ok v m := P_step h (fun b _ _ ho _ => Below.heap_setCell w p x b (hok b ho))
theorem P_types (h : Kd.P d e w base ok v m) {g t : Nat} {cells : Array Value} (hb : w.heap[g]? = some (.cells cells t (0, 0))) (_ht : ∀ q, q ∈ e :: d.E → q ≠ t) : Kd.P d e w base (fun k => ok k ∧ k ≠ g) v m := by
 obtain ⟨b, D, rfl, ho, h1, ⟨es, clock, hh, hf⟩, r⟩ := h
 refine ⟨b, D, rfl, ⟨ho, fun he => ?_⟩, h1, ⟨es, clock, hh, hf⟩, r⟩
 subst he
 rw [hb] at hh
 cases hh
theorem P_over' (h : Kd.P d e W base ok u m) (hty : ∀ k, v.ownBlock = some k → ∃ cells, W.heap[k]? = some (.cells cells e' (0, 0))) (_ht : ∀ q, q ∈ e :: d.E → q ≠ e') (hg : W.grownBy w1 v.ownBlock) : Kd.P d e w1 base ok u m :=
 P_step h (fun b es clock _ hh => hg.block b (blk_lt hh) (fun he => by
  obtain ⟨cells, hc⟩ := hty b he.symm
  rw [hc] at hh
  cases hh))
end

section
variable {ops : Array Oper} {rest : List Oper} {o : Oper} {a : Act} {Q : Exit → Act → World → Prop} {W : World}
theorem P_make (d : Kd S54) {N : Tmp} (hg : o.guard = none) (hop : o.op = Op.makeMap 150 none) (_hN : o.dst = some N)
 (h : ∀ v w1, Kd.P d 150 w1 W.heap.size (fun _ => True) v [] → Below W.heap.size W w1 → wpList Try.prog ops Q rest (a.put o.dst v) w1) : wpList Try.prog ops Q (o :: rest) a W := by
 refine wpList_plain hg fun K hK => ?_
 unfold Oper.wp
 simp only [execOp, hop, Sem.run_bind, Sem.run_pure, Result.andThen]
 refine hK _ _ (h _ _ ⟨W.heap.size, .map [], rfl, trivial, Nat.le_refl _, World.ownsMap_made _ _ _ _, isMap_empty, fun s => ⟨rfl, rfl⟩⟩ (below_alloc (Below.refl _ _) _))
theorem P_look {d : Kd S54} {e base : Nat} {ok : Nat → Prop} {v : Value} {m : List S54} {s : ByteArray} {x y : Operand} (hg : o.guard = none) (hop : o.op = Op.lookup 150 x y true) (hm : a.eval x = v) (hx : a.eval y = .string s)
 (hs : s.size ≤ 9223372036854775807) (h : Kd.P d e W base ok v m) (hK : wpList Try.prog ops Q rest (a.put o.dst (.tuple #[.int .i64 (mapAt m s), .bool (mapHas m s)])) W) : wpList Try.prog ops Q (o :: rest) a W := by
 obtain ⟨b, D, rfl, _, _, hown, hD, hsp⟩ := h
 have hml : maxLen = 9223372036854775807 := by decide
 have zr : (zeroValue 3).run Try.prog W = .ok (.int .i64 0) W := by kernel_rfl
 refine wpList_lookup_own_ok_int (H := Unit) W hg x y 150 hop 9 3 .i64 (string_keyed Try.underlying9) Try.underlying150 Try.underlying3 zr b _ D hm hown (.string s) _ hx (keyOf_string_mk Try.underlying9 (by rw [hml]; exact hs)) ?_
 intro c hc _
 rw [(hsp s).2] at hc
 rw [(hsp s).1]
 have hc' : mapAt m s = c := (Lit.int.inj (DataW.lit.inj hc)).2
 rw [← hc']
 exact hK
theorem P_put {d : Kd S54} {e base : Nat} {ok : Nat → Prop} {v : Value} {m : List S54} {s : ByteArray} {n : Int} {x y z : Operand} (hg : o.guard = none) (hop : o.op = Op.mapUpdate 150 x y z) (hm : a.eval x = v) (hx : a.eval y = .string s) (hz : a.eval z = .int .i64 n)
 (hl : m.length < 9223372036854775807 ∧ s.size ≤ 9223372036854775807 ∧ 0 ≤ n ∧ n ≤ 9223372036854775807) (h : Kd.P d e W base ok v m)
 (hK : ∀ w1, Kd.P d e w1 base ok v (mapPut m s n) → Mapped base W w1 → wpList Try.prog ops Q rest (a.put o.dst undef) w1) : wpList Try.prog ops Q (o :: rest) a W := by
 obtain ⟨b, D, rfl, ho, hb, hown, hD, hsp⟩ := h
 have hml : maxLen = 9223372036854775807 := by decide
 refine wpList_mapUpdate_own (H := Unit) W hg x y z 150 hop 9 3 (string_keyed Try.underlying9) Try.underlying150 _ b _ D hm hown (by rw [hml]; exact hl.1) (.string s) (.int .i64 n) (.string s.data.toList) hx hz (keyOf_string_mk Try.underlying9 (by rw [hml]; exact hl.2.1)) _ [] (plainElem_int Try.underlying3 (WalkArith.wf_i64 (by omega))) ?_
 intro w1 h1 hgw
 obtain ⟨es, clock, hh, _⟩ := hown
 refine hK w1 ⟨b, _, rfl, ho, hb, h1, hD.put _ _, fun t => ?_⟩ ⟨b, es, clock, hb, hh, hgw⟩
 by_cases ht : s.data.toList = t.data.toList
 ·
  rw [← ht]
  refine ⟨?_, ?_⟩
  ·
   rw [has_put_same (k := .string s.data.toList) hD trivial]
   simp only [mapHas, mapPut, List.any_cons, ht, beq_self_eq_true, Bool.true_or]
  ·
   rw [atKey_put_same (k := .string s.data.toList) hD trivial]
   simp only [mapAt, mapPut, List.find?_cons, ht, beq_self_eq_true]
 ·
  have hne : (Lit.string t.data.toList) ≠ .string s.data.toList := fun he => ht (by injection he with he; exact he.symm)
  have hb' : (s.data.toList == t.data.toList) = false := by simpa using ht
  refine ⟨?_, ?_⟩
  ·
   rw [has_put_other hne, (hsp t).1]
   simp only [mapHas, mapPut, List.any_cons, hb', Bool.false_or]
  ·
   rw [atKey_put_other hne, (hsp t).2]
   simp only [mapAt, mapPut, List.find?_cons, hb']
end
end Kd
end Go.Proofs.Ytdlkhpfgkghhmaa.P

-- ==== Open
/- What came in and can be read as data, read as the print's kinds: for each kind one fact, put together by the types' shapes. -/
namespace Go.Proofs.Ytdlkhpfgkghhmaa.Open
open Go.RowKit Go.Proofs.YtdlkhpfgkghhmaaW.PrintWords Go.Proofs.Ytdlkhpfgkghhmaa.Rows

structure Opens {α : Type} (P : Program) (t : TypeId) (d : Kd α) (Sz : α → Prop) (Bk : α → Nat) : Prop where
 cells : P.cellsOf t = d.sz
 go : ∀ {H : Type} {enc : TypeId × Value → H} {w : World} {base : Nat} {spare : Nat → Bool} {held : Bool} {n : Nat} {cs : List Value} {x : DataW H × List MemPlace},
  DataW.trod enc P w base spare held n t cs = some x → (∀ m ∈ x.1.weights P t, m ≤ reachBytes) → ∃ v : α, d.K w v cs ∧ Sz v ∧ Bk v ≤ uptoBulk x.1

theorem opens_int {P : Program} {t : TypeId} {k : IntKind} (ht : P.underlying t = some (.int k)) (hc : P.cellsOf t = 1) : Opens P t (Kd.int k) (fun a => (Lit.int k a).wf = true) (fun _ => 1) := by
 refine ⟨hc, fun h _ => ?_⟩
 obtain ⟨a, rfl, rfl, hw⟩ := DataW.trod_int ht h
 exact ⟨a, rfl, hw, by simp [uptoBulk]⟩

theorem opens_string {P : Program} {t : TypeId} (ht : P.underlying t = some .string) (hc : P.cellsOf t = 1) : Opens P t Kd.string (fun s => s.size ≤ 140737488351232) (fun s => s.size + 1) := by
 refine ⟨hc, fun h hw => ?_⟩
 obtain ⟨a, rfl, rfl, hs⟩ := DataW.trod_string ht h
 have hl : a.data.toList.length = a.size := data_length a
 refine ⟨a, rfl, ?_, ?_⟩
 ·
  have := hw a.data.toList.length (by simp [DataW.weights])
  rw [hl] at this
  exact this
 ·
  simp only [uptoBulk]
  omega

theorem mem_weightsAll {H : Type} {P : Program} {e : TypeId} {d : DataW H} : ∀ {l : List (DataW H)}, d ∈ l → ∀ {m : Nat}, m ∈ d.weights P e → m ∈ DataW.weightsAll P e l
 | a :: l, h, m, hm => by
  simp only [DataW.weightsAll, List.mem_append]
  rcases List.mem_cons.1 h with rfl | h
  ·
   exact .inl hm
  ·
   exact .inr (mem_weightsAll h hm)
 | [], h, _, _ => by cases h

def bulkAll {α : Type} (Bk : α → Nat) (l : List α) : Nat := (l.map Bk).sum

theorem bulk_all_le {H α : Type} (Bk : α → Nat) : ∀ (xs : List α) (ds : List (DataW H)), xs.length = ds.length → (∀ (i : Nat) x d, xs[i]? = some x → ds[i]? = some d → Bk x ≤ uptoBulk d) → bulkAll Bk xs ≤ uptoBulkAll ds
 | [], [], _, _ => by simp [bulkAll, uptoBulkAll]
 | x :: xs, d :: ds, hl, h => by
  have h0 := h 0 x d rfl rfl
  have h1 := bulk_all_le Bk xs ds (by simpa using hl) (fun i x' d' hx hd => h (i + 1) x' d' (by simpa using hx) (by simpa using hd))
  simp only [bulkAll, uptoBulkAll, List.map_cons, List.sum_cons] at h1 ⊢
  omega
 | [], _ :: _, hl, _ => by simp at hl
 | _ :: _, [], hl, _ => by simp at hl

theorem opens_slice {α : Type} {P : Program} {t e : TypeId} {d : Kd α} {Sz : α → Prop} {Bk : α → Nat} {b : Nat} (ht : P.underlying t = some (.slice e)) (hc : P.cellsOf t = 1) (hb : P.bytesOf e = b) (ho : Opens P e d Sz Bk) :
 Opens P t (Kd.slice e d) (fun l => l.length * b ≤ 140737488351232 ∧ ∀ x ∈ l, Sz x) (fun l => bulkAll Bk l + 1) := by
 refine ⟨hc, ?_⟩
 intro H enc w base spare held n cs x h hw
 rcases Go.Deep.open_slice ht h with ⟨rfl, rfl⟩ | ⟨a, len, cap, m, n', D, Pl, rfl, _, hl, hm, hmm, rfl, hx⟩
 ·
  exact ⟨[], ⟨none, 0, rfl, Nat.le_refl _, Kd.C_nil d w⟩, ⟨by simp, by simp⟩, by simp [bulkAll, uptoBulk]⟩
 ·
  have hlm : len ≤ m := by rw [hmm]; split <;> omega
  have hel : ∀ i, i < len → ∃ v : α, (∃ cs', w.cells? base (a.add (i * P.cellsOf e)) (P.cellsOf e) = some cs' ∧ d.K w v cs') ∧ Sz v ∧ Bk v ≤ uptoBulk (D i) := by
   intro i hi
   obtain ⟨cs', h1, h2⟩ := hx i (by omega)
   obtain ⟨v, hv, hs, hbk⟩ := ho.go h2 (fun m' hm' => hw m' (by
    simp only [DataW.weights, ht, List.mem_cons, List.mem_append]
    exact .inr (.inl (mem_weightsAll (List.mem_map.2 ⟨i, List.mem_range.2 hi, rfl⟩) hm'))))
   exact ⟨v, ⟨cs', h1, hv⟩, hs, hbk⟩
  have hex : ∃ l : List α, l.length = len ∧ ∀ (i : Nat) v, l[i]? = some v → (∃ cs', w.cells? base (a.add (i * P.cellsOf e)) (P.cellsOf e) = some cs' ∧ d.K w v cs') ∧ Sz v ∧ Bk v ≤ uptoBulk (D i) := by
   clear hx hw h hmm hlm hl hm
   induction len with
   | zero => exact ⟨[], rfl, fun i v hv => by simp at hv⟩
   | succ k ih =>
    obtain ⟨l, h1, h2⟩ := ih (fun i hi => hel i (by omega))
    obtain ⟨v, hv⟩ := hel k (by omega)
    refine ⟨l ++ [v], by simp [h1], fun i u hu => ?_⟩
    by_cases hi : i < l.length
    ·
     rw [List.getElem?_append_left hi] at hu
     exact h2 i u hu
    ·
     have hik : i = l.length := by
      have := (List.getElem?_eq_some_iff.1 hu).1
      simp at this
      omega
     subst hik
     simp at hu
     subst hu
     rw [h1]
     exact hv
  obtain ⟨l, hll, hlv⟩ := hex
  subst hll
  refine ⟨l, ⟨some a, cap, rfl, hl, rfl, ?_, fun hp => ⟨a, rfl, fun j v hj => ?_⟩⟩, ⟨?_, ?_⟩, ?_⟩
  ·
   have : maxLen ≤ 9223372036854775807 := by decide
   omega
  ·
   obtain ⟨⟨cs', h1, h2⟩, _, _⟩ := hlv j v hj
   refine ⟨cs', d.K_len h2, h2, fun i u hu => ?_⟩
   obtain ⟨_, hlen, hcell⟩ := World.cells?_some h1
   have hi : i < cs'.length := (List.getElem?_eq_some_iff.1 hu).1
   have hsz := d.K_len h2
   rw [ho.cells] at hcell hlen
   have := hcell i (by omega)
   rw [hu] at this
   rw [← this, add_add]
  ·
   have := hw ((((List.range l.length).map D).length + ((List.range (m - l.length)).map fun j => D (l.length + j)).length) * P.bytesOf e) (by simp [DataW.weights, ht])
   simp only [List.length_map, List.length_range] at this
   rw [hb] at this
   have h3 : reachBytes = 140737488351232 := by decide
   rw [h3] at this
   have h4 : l.length * b ≤ (l.length + (m - l.length)) * b := Nat.mul_le_mul_right _ (by omega)
   omega
  ·
   intro v hv
   obtain ⟨i, hi, rfl⟩ := List.mem_iff_getElem.1 hv
   exact (hlv i _ (List.getElem?_eq_getElem hi)).2.1
  ·
   have := bulk_all_le Bk l ((List.range l.length).map D) (by simp) (fun i v dd hv hd => by
    have hi : i < l.length := (List.getElem?_eq_some_iff.1 hv).1
    simp [hi] at hd
    rw [← hd]
    exact (hlv i v hv).2.2)
   simp only [uptoBulk]
   omega

def offs (P : Program) : List TypeId → Nat → Nat
 | [], _ => 0
 | _, 0 => 0
 | t :: ts, i + 1 => P.cellsOf t + offs P ts i

structure OpensF {α : Type} (P : Program) (ts : List TypeId) (d : Kd α) (Sz : α → Prop) (Bk : α → Nat) : Prop where
 cells : (ts.map P.cellsOf).sum = d.sz
 go : ∀ {H : Type} {enc : TypeId × Value → H} {w : World} {base : Nat} {spare : Nat → Bool} {held : Bool} {n : Nat} {cs : List Value} {xs : List (DataW H × List MemPlace)},
  cs.length = d.sz → xs.length = ts.length → (∀ (i : Nat) t, ts[i]? = some t → DataW.trod enc P w base spare held n t ((cs.drop (offs P ts i)).take (P.cellsOf t)) = xs[i]?) →
  (∀ m ∈ DataW.weightsEach P ts (xs.map (·.1)), m ≤ reachBytes) → ∃ v : α, d.K w v cs ∧ Sz v ∧ Bk v ≤ uptoBulkAll (xs.map (·.1))

theorem opensF_one {α : Type} {P : Program} {t : TypeId} {d : Kd α} {Sz : α → Prop} {Bk : α → Nat} (ho : Opens P t d Sz Bk) : OpensF P [t] d Sz Bk := by
 refine ⟨by simp [ho.cells], fun {H enc w base spare held n cs xs} hl hx h hw => ?_⟩
 match xs, hx with
 | [y], _ =>
  have h0 := h 0 t rfl
  rw [show offs P [t] 0 = 0 from rfl, List.drop_zero, List.take_of_length_le (by rw [ho.cells]; omega)] at h0
  obtain ⟨v, h1, h2, h3⟩ := ho.go h0 (fun m hm => hw m (by simp [DataW.weightsEach, hm]))
  exact ⟨v, h1, h2, by simpa [uptoBulkAll] using h3⟩

theorem opensF_cons {α β : Type} {P : Program} {t : TypeId} {ts : List TypeId} {d : Kd α} {ds : Kd β} {Sz : α → Prop} {Bk : α → Nat} {Szs : β → Prop} {Bks : β → Nat} (ho : Opens P t d Sz Bk) (hs : OpensF P ts ds Szs Bks) :
 OpensF P (t :: ts) (Kd.pair d ds) (fun x => Sz x.1 ∧ Szs x.2) (fun x => Bk x.1 + Bks x.2) := by
 refine ⟨by simp [ho.cells, hs.cells, Kd.pair], fun {H enc w base spare held n cs xs} hl hx h hw => ?_⟩
 match xs, hx with
 | y :: ys, hx =>
  have hl' : cs.length = d.sz + ds.sz := hl
  have h0 := h 0 t rfl
  rw [show offs P (t :: ts) 0 = 0 from rfl, List.drop_zero, ho.cells] at h0
  obtain ⟨v, h1, h2, h3⟩ := ho.go h0 (fun m hm => hw m (by simp [DataW.weightsEach, hm]))
  obtain ⟨u, g1, g2, g3⟩ := hs.go (cs := cs.drop d.sz) (xs := ys) (enc := enc) (w := w) (base := base) (spare := spare) (held := held) (n := n) (by rw [List.length_drop]; omega) (by simpa using hx) (fun i t' ht' => by
   have := h (i + 1) t' (by simpa using ht')
   rw [show offs P (t :: ts) (i + 1) = P.cellsOf t + offs P ts i from rfl, ho.cells] at this
   rw [List.drop_drop]
   simpa using this) (fun m hm => hw m (by simp only [List.map_cons, DataW.weightsEach, List.mem_append]; exact .inr hm))
  refine ⟨(v, u), ⟨cs.take d.sz, cs.drop d.sz, (List.take_append_drop _ _).symm, h1, g1⟩, ⟨h2, g2⟩, ?_⟩
  simp only [List.map_cons, uptoBulkAll]
  omega

theorem opens_struct {α β : Type} {P : Program} {t : TypeId} {fs : Array Field} {ts : List TypeId} {d : Kd α} {f : β → α} {Sz : α → Prop} {Bk : α → Nat} (ht : P.underlying t = some (.struct fs)) (hts : fs.toList.map (·.type) = ts)
 (hoff : ∀ (i : Nat) fl, fs[i]? = some fl → fl.offset = offs P ts i) (hc : P.cellsOf t = d.sz) (ho : OpensF P ts d Sz Bk) (g : α → β) (hg : ∀ v, f (g v) = v) :
 Opens P t (Kd.iso d f) (fun x => Sz (f x)) (fun x => Bk (f x) + 1) := by
 refine ⟨hc, fun {H enc w base spare held n cs x} h hw => ?_⟩
 obtain ⟨xs, n', _, rfl, hl, hlen, hf⟩ := DataW.trod_struct ht h
 have hlt : ts.length = fs.size := by rw [← hts]; simp
 obtain ⟨v, h1, h2, h3⟩ := ho.go (cs := cs) (xs := xs) (enc := enc) (w := w) (base := base) (spare := spare) (held := held) (n := n') (by rw [hl, hc]) (by omega) (fun i t' ht' => by
  have hi : i < fs.size := by rw [← hlt]; exact (List.getElem?_eq_some_iff.1 ht').1
  have hfi : fs[i]? = some fs[i] := Array.getElem?_eq_getElem hi
  have := hf i fs[i] hfi
  rw [hoff i _ hfi] at this
  have he : fs[i].type = t' := by
   rw [← hts, List.getElem?_map, Array.getElem?_toList, hfi] at ht'
   simpa using ht'
  rw [he] at this
  exact this) (fun m hm => hw m (by simp only [DataW.weights, ht, hts]; exact hm))
 exact ⟨g v, by show d.K w (f (g v)) cs; rw [hg]; exact h1, by rw [hg]; exact h2, by rw [hg]; simp only [uptoBulk]; omega⟩

end Go.Proofs.Ytdlkhpfgkghhmaa.Open

-- ==== PLa
/- Plain laws, part a: what kind a text is: the program's way and the document's way come to one function. -/
namespace Go.Proofs.Ytdlkhpfgkghhmaa.P
open Go.RowKit Go.Proofs.YtdlkhpfgkghhmaaW.PrintWords

theorem wrap_up {i : Int} (h0 : 0 ≤ i) (h : i < 9223372036854775807) : wrap64 (i + 1) = i + 1 := by
 unfold wrap64
 omega
theorem wrap_id {i : Int} (h0 : -9223372036854775808 ≤ i) (h : i ≤ 9223372036854775807) : wrap64 i = i := by
 unfold wrap64
 omega

theorem evIfp {α : Type} {c : Prop} [Decidable c] {f g : Nat → Option α} {r : α} (h : c) (hf : Ev f r) : Ev (fun k => if c then f k else g k) r :=
 Ev.congr (fun _ => if_pos h) hf
theorem evIfn {α : Type} {c : Prop} [Decidable c] {f g : Nat → Option α} {r : α} (h : ¬ c) (hf : Ev g r) : Ev (fun k => if c then f k else g k) r :=
 Ev.congr (fun _ => if_neg h) hf
theorem evIs {α : Type} {x : Option α} {a : α} (h : x = some a) : Ev (fun _ => x) a := ⟨0, fun _ _ => h⟩

def lowB (s : ByteArray) (i : Int) : Bool := (decide (97 ≤ bt s i) && decide (bt s i ≤ 122)) || (decide (48 ≤ bt s i) && decide (bt s i ≤ 57) && decide (0 < i))
def upB (s : ByteArray) (i : Int) : Bool := (decide (65 ≤ bt s i) && decide (bt s i ≤ 90)) || (decide (48 ≤ bt s i) && decide (bt s i ≤ 57) && decide (0 < i))
def allN (p : Int → Bool) : Nat → Int → Bool
 | 0, _ => true
 | d + 1, i => p i && allN p d (i + 1)
theorem allN_congr {p q : Int → Bool} : ∀ (d : Nat) (i : Int), (∀ j, i ≤ j → j < i + d → p j = q j) → allN p d i = allN q d i
 | 0, _, _ => rfl
 | d + 1, i, h => by
  simp only [allN]
  rw [h i (Int.le_refl _) (by omega), allN_congr d (i + 1) (fun j h1 h2 => h j (by omega) (by omega))]
def kindS (s : ByteArray) : Int :=
 if s.size < 1 ∨ 8 < s.size then 0 else if allN (lowB s) s.size 0 = true then 1 else if allN (upB s) s.size 0 = true then 2 else 0

theorem kindS_bad {s : ByteArray} (h : s.size < 1 ∨ 8 < s.size) : kindS s = 0 := by
 unfold kindS
 exact if_pos h
theorem kindS_good {s : ByteArray} (h1 : 1 ≤ s.size) (h8 : s.size ≤ 8) : kindS s = (if allN (lowB s) s.size 0 = true then 1 else if allN (upB s) s.size 0 = true then 2 else 0) := by
 unfold kindS
 exact if_neg (by omega)
theorem kindS_cases (s : ByteArray) : kindS s = 0 ∨ kindS s = 1 ∨ kindS s = 2 := by
 unfold kindS
 split
 ·
  exact .inl rfl
 ·
  split
  ·
   exact .inr (.inl rfl)
  ·
   split
   ·
    exact .inr (.inr rfl)
   ·
    exact .inl rfl
theorem kindS_size {s : ByteArray} (h : kindS s ≠ 0) : 1 ≤ s.size ∧ s.size ≤ 8 := by
 unfold kindS at h
 split at h
 ·
  exact absurd rfl h
 ·
  omega

theorem refKind_step (k : Nat) (s : ByteArray) (a b : Bool) (i : Int) (h0 : 0 ≤ i) (h1 : i < (s.size : Int)) :
 aumbryref03_Kind.l0 (k + 1) s a b i = aumbryref03_Kind.l0 k s (a && lowB s i) (b && upB s i) (wrap64 (i + 1)) := by
 simp only [aumbryref03_Kind.l0]
 rw [if_pos h1, if_pos h0]
 unfold lowB upB
 generalize bt s i = c
 by_cases c1 : c ≥ 48 <;> by_cases c2 : c ≤ 57 <;> by_cases c3 : c ≥ 97 <;> by_cases c4 : c ≤ 122 <;> by_cases c5 : c ≥ 65 <;> by_cases c6 : c ≤ 90 <;> first | (exfalso; omega) | (cases a <;> cases b <;> simp [c1, c2, c3, c4, c5, c6])
theorem refKind_end (k : Nat) (s : ByteArray) (a b : Bool) (i : Int) (h1 : ¬ i < (s.size : Int)) :
 aumbryref03_Kind.l0 (k + 1) s a b i = some (if a = true then 1 else if b = true then 2 else 0) := by
 simp only [aumbryref03_Kind.l0]
 rw [if_neg h1]
 cases a <;> cases b <;> rfl
theorem refKind_loop (s : ByteArray) (hs : s.size ≤ 8) : ∀ (d : Nat) (k : Nat) (a b : Bool) (i : Int), 0 ≤ i → (s.size : Int) - i = d → d < k →
 aumbryref03_Kind.l0 k s a b i = some (if (a && allN (lowB s) d i) = true then 1 else if (b && allN (upB s) d i) = true then 2 else 0)
 | 0, k, a, b, i, h0, hd, hk => by
  obtain ⟨k, rfl⟩ : ∃ m, k = m + 1 := ⟨k - 1, by omega⟩
  rw [refKind_end k s a b i (by omega)]
  simp [allN]
 | d + 1, k, a, b, i, h0, hd, hk => by
  obtain ⟨k, rfl⟩ : ∃ m, k = m + 1 := ⟨k - 1, by omega⟩
  rw [refKind_step k s a b i h0 (by omega), wrap_up h0 (by omega), refKind_loop s hs d k _ _ (i + 1) (by omega) (by omega) (by omega)]
  simp [allN, Bool.and_assoc]
theorem ev_refKind (s : ByteArray) : Ev (fun k => aumbryref03_Kind.f k s) (kindS s) := by
 refine ⟨12, fun k hk => ?_⟩
 show aumbryref03_Kind.f k s = _
 unfold aumbryref03_Kind.f
 obtain ⟨k, rfl⟩ : ∃ m, k = m + 1 := ⟨k - 1, by omega⟩
 by_cases h1 : (s.size : Int) < 1
 ·
  rw [if_pos h1]
  simp [aumbryref03_Kind.j0, kindS_bad (s := s) (.inl (by omega))]
 ·
  rw [if_neg h1]
  simp only [aumbryref03_Kind.j0]
  by_cases h2 : (s.size : Int) > 8
  ·
   rw [if_pos (by simpa using h2), kindS_bad (s := s) (.inr (by omega))]
  ·
   rw [kindS_good (s := s) (by omega) (by omega), if_neg (by simpa using h2), refKind_loop s (by omega) s.size k true true 0 (by omega) (by omega) (by omega)]
   simp

def signS (c : Int) : Int × Int := if 97 ≤ c ∧ c ≤ 122 then (1, 1) else if 65 ≤ c ∧ c ≤ 90 then (2, 2) else if 48 ≤ c ∧ c ≤ 57 then (0, 3) else (0, 0)
theorem sign_at (c : Int) (k : Nat) (hk : 2 ≤ k) : name_sign.f k c = some (signS c) := by
 obtain ⟨k, rfl⟩ : ∃ m, k = m + 2 := ⟨k - 2, by omega⟩
 unfold name_sign.f signS
 by_cases c1 : c ≥ 48 <;> by_cases c2 : c ≤ 57 <;> by_cases c3 : c ≥ 97 <;> by_cases c4 : c ≤ 122 <;> by_cases c5 : c ≥ 65 <;> by_cases c6 : c ≤ 90 <;> first | (exfalso; omega) | (simp [name_sign.j0, name_sign.j1, c1, c2, c3, c4, c5, c6])
theorem bits_and_ (a b : Int) (ha : a = 0 ∨ a = 1 ∨ a = 2 ∨ a = 3) (hb : b = 0 ∨ b = 1 ∨ b = 2) : (Go.bits .and .i64 a b = 0) ↔ (b = 0 ∨ (b = 1 ∧ (a = 0 ∨ a = 2)) ∨ (b = 2 ∧ (a = 0 ∨ a = 1))) := by
 rcases ha with rfl | rfl | rfl | rfl <;> rcases hb with rfl | rfl | rfl <;> decide
def goesB (s : ByteArray) (b : Int) (i : Int) : Bool := decide (¬ (Go.bits .and .i64 (signS (bt s i)).2 b = 0))
theorem kind_loop (s : ByteArray) (b : Int) (hs : s.size ≤ 8) : ∀ (d : Nat) (k : Nat) (i : Int), 0 ≤ i → (s.size : Int) - i = d → d + 2 < k →
 name_Kind.l0 k s b (s.size : Int) i = some (if allN (goesB s b) d i = true then b else 0)
 | 0, k, i, h0, hd, hk => by
  obtain ⟨k, rfl⟩ : ∃ m, k = m + 1 := ⟨k - 1, by omega⟩
  simp only [name_Kind.l0]
  rw [if_neg (by omega)]
  simp [allN]
 | d + 1, k, i, h0, hd, hk => by
  obtain ⟨k, rfl⟩ : ∃ m, k = m + 1 := ⟨k - 1, by omega⟩
  simp only [name_Kind.l0]
  rw [if_pos (by omega), if_pos h0, if_pos (by omega), sign_at _ _ (by omega)]
  simp only [Option.bind_some]
  by_cases hg : Go.bits .and .i64 (signS (bt s i)).2 b = 0
  ·
   rw [if_pos hg]
   simp [allN, goesB, hg]
  ·
   rw [if_neg hg, wrap_up h0 (by omega), kind_loop s b hs d k (i + 1) (by omega) (by omega) (by omega)]
   simp [allN, goesB, hg]
theorem signS_two (c : Int) : (signS c).2 = 0 ∨ (signS c).2 = 1 ∨ (signS c).2 = 2 ∨ (signS c).2 = 3 := by
 unfold signS
 repeat' split
 all_goals simp
theorem goes_one (s : ByteArray) (i : Int) (hi : 0 < i) : goesB s 1 i = lowB s i := by
 have h := bits_and_ (signS (bt s i)).2 1 (signS_two _) (by simp)
 unfold goesB lowB
 rw [Bool.eq_iff_iff]
 simp only [decide_eq_true_eq, h, Bool.or_eq_true, Bool.and_eq_true]
 unfold signS
 repeat' split
 all_goals simp
 all_goals omega
theorem goes_two (s : ByteArray) (i : Int) (hi : 0 < i) : goesB s 2 i = upB s i := by
 have h := bits_and_ (signS (bt s i)).2 2 (signS_two _) (by simp)
 unfold goesB upB
 rw [Bool.eq_iff_iff]
 simp only [decide_eq_true_eq, h, Bool.or_eq_true, Bool.and_eq_true]
 unfold signS
 repeat' split
 all_goals simp
 all_goals omega
theorem kind_eq (s : ByteArray) (h1 : 1 ≤ s.size) (h8 : s.size ≤ 8) : (if allN (goesB s (signS (bt s 0)).1) s.size 0 = true then (signS (bt s 0)).1 else 0) = kindS s := by
 rw [kindS_good h1 h8]
 obtain ⟨n, hn⟩ : ∃ n, s.size = n + 1 := ⟨s.size - 1, by omega⟩
 have e1 : allN (goesB s 1) n (0 + 1) = allN (lowB s) n (0 + 1) := allN_congr _ _ (fun j h1 _ => goes_one s j (by omega))
 have e2 : allN (goesB s 2) n (0 + 1) = allN (upB s) n (0 + 1) := allN_congr _ _ (fun j h1 _ => goes_two s j (by omega))
 by_cases hl : 97 ≤ bt s 0 ∧ bt s 0 ≤ 122
 ·
  have hs : signS (bt s 0) = (1, 1) := by unfold signS; rw [if_pos hl]
  have g0 : goesB s 1 0 = true := by unfold goesB; rw [hs]; decide
  have l0 : lowB s 0 = true := by unfold lowB; simp [hl]
  have u0 : upB s 0 = false := by unfold upB; simp; omega
  simp only [hn, hs, allN, e1, g0, l0, u0, Bool.true_and, Bool.false_and]
  split <;> simp
 ·
  by_cases hu : 65 ≤ bt s 0 ∧ bt s 0 ≤ 90
  ·
   have hs : signS (bt s 0) = (2, 2) := by unfold signS; rw [if_neg hl, if_pos hu]
   have g0 : goesB s 2 0 = true := by unfold goesB; rw [hs]; decide
   have l0 : lowB s 0 = false := by unfold lowB; simp; omega
   have u0 : upB s 0 = true := by unfold upB; simp [hu]
   simp only [hn, hs, allN, e2, g0, l0, u0, Bool.true_and, Bool.false_and]
   simp
  ·
   have hs : (signS (bt s 0)).1 = 0 := by unfold signS; rw [if_neg hl, if_neg hu]; split <;> rfl
   have l0 : lowB s 0 = false := by unfold lowB; simp; omega
   have u0 : upB s 0 = false := by unfold upB; simp; omega
   simp only [hn, hs, allN, l0, u0, Bool.true_and, Bool.false_and]
   simp
theorem toList_nil (s : ByteArray) : s.toList = ([] : List UInt8) ↔ s.size = 0 := by
 rw [ByteArray.toList_eq]
 constructor
 ·
  intro h
  have := congrArg List.length h
  simpa [data_length] using this
 ·
  intro h
  apply List.eq_nil_of_length_eq_zero
  rw [data_length]
  exact h
theorem ev_kind (s : ByteArray) : Ev (fun k => name_Kind.f k s) (kindS s) := by
 refine ⟨16, fun k hk => ?_⟩
 show name_Kind.f k s = _
 unfold name_Kind.f
 obtain ⟨k, rfl⟩ : ∃ m, k = m + 1 := ⟨k - 1, by omega⟩
 by_cases h1 : s.toList = ([] : List UInt8)
 ·
  rw [if_pos h1]
  have := (toList_nil s).1 h1
  simp [name_Kind.j0, kindS_bad (s := s) (.inl (by omega))]
 ·
  have h1' : s.size ≠ 0 := fun h => h1 ((toList_nil s).2 h)
  rw [if_neg h1]
  simp only [name_Kind.j0]
  by_cases h2 : (s.size : Int) > 8
  ·
   rw [if_pos (by simpa using h2), kindS_bad (s := s) (.inr (by omega))]
  ·
   rw [if_neg (by simpa using h2), if_pos (by omega), sign_at _ _ (by omega)]
   simp only [Option.bind_some]
   rw [kind_loop s _ (by omega) s.size k 0 (by omega) (by omega) (by omega), kind_eq s (by omega) (by omega)]
end Go.Proofs.Ytdlkhpfgkghhmaa.P

-- ==== PLb
/- Plain laws, part b: a list of cells as terms one behind the other; whether it is a term (both ways come to one function). -/
namespace Go.Proofs.Ytdlkhpfgkghhmaa.P
open Go.RowKit Go.Proofs.YtdlkhpfgkghhmaaW.PrintWords

abbrev Cel := S54
instance celEq : DecidableEq Cel := fun a b =>
 if h : a.f0 = b.f0 ∧ a.f1 = b.f1 then isTrue (by cases a; cases b; simp only at h; rw [h.1, h.2]) else isFalse (fun e => h (by rw [e]; exact ⟨rfl, rfl⟩))
theorem drop_cons {α : Type} {t : List α} {n : Nat} {c : α} {s : List α} (h : t.drop n = c :: s) : n < t.length ∧ (∀ d, t.getD n d = c) ∧ t.drop (n + 1) = s := by
 have h1 : n < t.length := by
  rcases Nat.lt_or_ge n t.length with h1 | h1
  ·
   exact h1
  ·
   rw [List.drop_eq_nil_of_le h1] at h
   cases h
 rw [List.drop_eq_getElem_cons h1] at h
 injection h with h2 h3
 exact ⟨h1, fun d => by rw [List.getD_eq_getElem?_getD, List.getElem?_eq_getElem h1]; exact h2, h3⟩
theorem drop_nil_len {α : Type} {t : List α} {n : Nat} (hn : n ≤ t.length) (h : t.drop n = []) : n = t.length := by
 have := congrArg List.length h
 simp at this
 omega
theorem rd_cel {t : List Cel} {n : Nat} {c : Cel} {s : List Cel} (h : t.drop n = c :: s) : rd_T54 t (n : Int) = c := by
 unfold rd_T54
 exact (drop_cons h).2.1 _

def ar (c : Cel) : Nat := c.f1.toNat
def cellErr (c : Cel) : Int := if kindS c.f0 = 0 then 4 else if c.f1 < 0 then 5 else if c.f1 > 4 then 5 else if kindS c.f0 = 2 then (if c.f1 > 0 then 5 else 0) else 0
def errs : List Cel → Int
 | [] => 0
 | c :: l => if cellErr c = 0 then errs l else cellErr c
def segN : List Cel → Nat → Option (List Cel)
 | l, 0 => some l
 | [], _ + 1 => none
 | c :: l, n + 1 => segN l (n + ar c)
def checkS (t : List Cel) : Int := if t.length > 64 then 6 else if errs t = 0 then (if segN t 1 = some [] then 0 else 3) else errs t

theorem segN_zero (l : List Cel) : segN l 0 = some l := by cases l <;> rfl
theorem segN_add : ∀ (l : List Cel) (a b : Nat), segN l (a + b) = (segN l a).bind fun r => segN r b
 | l, 0, b => by rw [segN_zero]; simp
 | [], a + 1, b => by rw [show a + 1 + b = (a + b) + 1 by omega]; rfl
 | c :: l, a + 1, b => by
  rw [show a + 1 + b = (a + b) + 1 by omega]
  show segN l (a + b + ar c) = (segN l (a + ar c)).bind _
  rw [show a + b + ar c = (a + ar c) + b by omega]
  exact segN_add l (a + ar c) b
theorem segN_len : ∀ {l r : List Cel} {n : Nat}, segN l n = some r → r.length ≤ l.length ∧ (0 < n → r.length < l.length)
 | l, r, 0, h => by
  rw [segN_zero] at h
  injection h with h
  subst h
  exact ⟨Nat.le_refl _, fun h => absurd h (by omega)⟩
 | [], r, n + 1, h => by cases h
 | c :: l, r, n + 1, h => by
  have := (segN_len (l := l) (r := r) (n := n + ar c) h).1
  simp only [List.length_cons]
  exact ⟨by omega, fun _ => by omega⟩
theorem segN_suffix : ∀ {l r : List Cel} {n : Nat}, segN l n = some r → ∃ m, m ≤ l.length ∧ l.drop m = r
 | l, r, 0, h => by
  rw [segN_zero] at h
  injection h with h
  exact ⟨0, by omega, h⟩
 | [], r, n + 1, h => by cases h
 | c :: l, r, n + 1, h => by
  obtain ⟨m, h1, h2⟩ := segN_suffix (l := l) (r := r) (n := n + ar c) h
  exact ⟨m + 1, by simp; omega, h2⟩

structure Okc (c : Cel) : Prop where
 kind : kindS c.f0 ≠ 0
 lo : 0 ≤ c.f1
 hi : c.f1 ≤ 4
 var : kindS c.f0 = 2 → c.f1 = 0
theorem okc_of {c : Cel} (h : cellErr c = 0) : Okc c := by
 unfold cellErr at h
 by_cases h1 : kindS c.f0 = 0
 ·
  rw [if_pos h1] at h; cases h
 ·
  rw [if_neg h1] at h
  by_cases h2 : c.f1 < 0
  ·
   rw [if_pos h2] at h; cases h
  ·
   rw [if_neg h2] at h
   by_cases h3 : c.f1 > 4
   ·
    rw [if_pos h3] at h; cases h
   ·
    rw [if_neg h3] at h
    refine ⟨h1, by omega, by omega, fun hk => ?_⟩
    rw [if_pos hk] at h
    by_cases h4 : c.f1 > 0
    ·
     rw [if_pos h4] at h; cases h
    ·
     omega
theorem errs_ok : ∀ {l : List Cel}, errs l = 0 → ∀ c ∈ l, Okc c
 | [], _, _, h => by cases h
 | a :: l, h, c, hc => by
  unfold errs at h
  by_cases h1 : cellErr a = 0
  ·
   rw [if_pos h1] at h
   rcases List.mem_cons.1 hc with rfl | hc
   ·
    exact okc_of h1
   ·
    exact errs_ok h c hc
  ·
   rw [if_neg h1] at h
   exact absurd h h1
theorem ev_cell (c : Cel) : Ev (fun k => term_cell.f k c.f0 c.f1) (cellErr c) := by
 unfold term_cell.f
 refine Ev.bind (ev_kind c.f0) ?_
 refine Ev.congr (f := fun _ => some (cellErr c)) (fun k => ?_) (Ev.now _)
 unfold cellErr
 simp only [apply_ite some]
def behS (t : List Cel) (a n : Nat) : Int := match segN (t.drop a) n with
 | none => -1
 | some r => ((t.length - r.length : Nat) : Int)
theorem ev_behind_loop (t : List Cel) (ht : t.length ≤ 64) (hok : ∀ c ∈ t, Okc c) : ∀ (s : List Cel) (a n : Nat), a ≤ t.length → t.drop a = s → n ≤ 1 + 4 * a →
 Ev (fun k => term_behind.l0 k t (a : Int) (n : Int)) (behS t a n)
 | s, a, 0, ha, hs, hn => by
  refine Ev.step (f := fun _ => some (a : Int)) (fun k => by simp only [term_behind.l0]; rw [if_neg (by omega)]) ?_
  have : behS t a 0 = (a : Int) := by
   unfold behS
   rw [segN_zero]
   simp only [List.length_drop]
   omega
  rw [this]
  exact Ev.now _
 | [], a, n + 1, ha, hs, hn => by
  have hl := drop_nil_len ha hs
  refine Ev.step (f := fun _ => some (-1 : Int)) (fun k => by simp only [term_behind.l0]; rw [if_pos (by omega), if_pos (by omega)]) ?_
  have : behS t a (n + 1) = -1 := by
   unfold behS
   rw [hs]
   rfl
  rw [this]
  exact Ev.now _
 | c :: s, a, n + 1, ha, hs, hn => by
  obtain ⟨h1, h2, h3⟩ := drop_cons hs
  have hc : Okc c := hok c (List.mem_of_mem_drop (hs ▸ List.mem_cons_self ..))
  have har : (ar c : Int) = c.f1 := by unfold ar; have := hc.lo; omega
  have hh := hc.hi
  have hl0 := hc.lo
  refine Ev.step (f := fun k => term_behind.l0 k t ((a + 1 : Nat) : Int) ((n + ar c : Nat) : Int)) (fun k => ?_) ?_
  ·
   simp only [term_behind.l0]
   rw [if_pos (by omega), if_neg (by omega), if_pos (by omega), if_pos (by omega), rd_cel hs, wrap_up (by omega) (by omega)]
   have e : wrap64 (((n + 1 : Nat) : Int) + wrap64 (c.f1 - 1)) = ((n + ar c : Nat) : Int) := by
    rw [wrap_id (i := c.f1 - 1) (by omega) (by omega), wrap_id (by omega) (by omega)]
    omega
   rw [e]
   rfl
  ·
   have : behS t a (n + 1) = behS t (a + 1) (n + ar c) := by
    unfold behS
    rw [hs, h3]
    rfl
   rw [this]
   exact ev_behind_loop t ht hok s (a + 1) (n + ar c) (by omega) h3 (by omega)
theorem ev_behind (t : List Cel) (ht : t.length ≤ 64) (hok : ∀ c ∈ t, Okc c) (a : Nat) (ha : a ≤ t.length) : Ev (fun k => term_behind.f k t (a : Int)) (behS t a 1) := by
 unfold term_behind.f
 exact ev_behind_loop t ht hok _ a 1 ha rfl (by omega)
theorem behS_whole (t : List Cel) : (behS t 0 1 = (t.length : Int)) ↔ segN t 1 = some [] := by
 unfold behS
 rw [List.drop_zero]
 cases h : segN t 1 with
 | none => simp
 | some r =>
  have := segN_len h
  simp only [Option.some.injEq]
  constructor
  ·
   intro h1
   apply List.eq_nil_of_length_eq_zero
   omega
  ·
   rintro rfl
   simp
theorem ev_check_loop (t : List Cel) (ht : t.length ≤ 64) : ∀ (s : List Cel) (a : Nat), a ≤ t.length → t.drop a = s → (∀ c ∈ t.take a, Okc c) →
 Ev (fun k => term_Check.l0 k t t (t.length : Int) (a : Int)) (if errs s = 0 then (if segN t 1 = some [] then 0 else 3) else errs s)
 | [], a, ha, hs, hok => by
  have hl := drop_nil_len ha hs
  rw [hl, List.take_length] at hok
  refine Ev.step (f := fun k => (term_behind.f k t 0).bind fun r => (if r = (t.length : Int) then (some 0) else (some 3))) (fun k => by simp only [term_Check.l0]; rw [if_neg (by omega)]) ?_
  refine Ev.bind (ev_behind t ht hok 0 (by omega)) ?_
  refine Ev.congr (f := fun _ => some (if segN t 1 = some [] then 0 else 3)) (fun k => ?_) (Ev.now _)
  by_cases h : segN t 1 = some []
  ·
   rw [if_pos ((behS_whole t).2 h), if_pos h]
  ·
   rw [if_neg (fun h' => h ((behS_whole t).1 h')), if_neg h]
 | c :: s, a, ha, hs, hok => by
  obtain ⟨h1, h2, h3⟩ := drop_cons hs
  refine Ev.step (f := fun k => (term_cell.f k c.f0 c.f1).bind fun e => (if e = 0 then (term_Check.l0 k t t (t.length : Int) ((a + 1 : Nat) : Int)) else (some e))) (fun k => ?_) ?_
  ·
   simp only [term_Check.l0]
   rw [if_pos (by omega), if_pos (by omega), if_pos (by omega), rd_cel hs, wrap_up (by omega) (by omega)]
   rfl
  ·
   refine Ev.bind (ev_cell c) ?_
   by_cases he : cellErr c = 0
   ·
    refine Ev.congr (f := fun k => term_Check.l0 k t t (t.length : Int) ((a + 1 : Nat) : Int)) (fun k => by rw [if_pos he]) ?_
    have : errs (c :: s) = errs s := by simp only [errs]; rw [if_pos he]
    rw [this]
    refine ev_check_loop t ht s (a + 1) (by omega) h3 (fun x hx => ?_)
    rw [List.take_succ_eq_append_getElem h1] at hx
    rcases List.mem_append.1 hx with hx | hx
    ·
     exact hok x hx
    ·
     have hce : t[a] = c := by have := h2 c; rw [List.getD_eq_getElem?_getD, List.getElem?_eq_getElem h1] at this; exact this
     rw [List.mem_singleton.1 hx, hce]
     exact okc_of he
   ·
    refine Ev.congr (f := fun _ => some (cellErr c)) (fun k => by rw [if_neg he]) ?_
    have : errs (c :: s) = cellErr c := by simp only [errs]; rw [if_neg he]
    rw [this, if_neg he]
    exact Ev.now _
theorem ev_check (t : List Cel) : Ev (fun k => term_Check.f k t) (checkS t) := by
 unfold term_Check.f checkS
 by_cases h : t.length > 64
 ·
  rw [if_pos h]
  exact Ev.congr (f := fun _ => some 6) (fun k => if_pos (by omega)) (Ev.now _)
 ·
  rw [if_neg h]
  exact Ev.congr (f := fun k => term_Check.l0 k t t (t.length : Int) ((0 : Nat) : Int)) (fun k => if_neg (by omega)) (ev_check_loop t (by omega) t 0 (by omega) rfl (by simp))

theorem ev_refBehind_at : ∀ (d : Nat) (t : List Cel) (ht : t.length ≤ 64) (hok : ∀ c ∈ t, Okc c) (a : Nat), t.length - a = d → a ≤ t.length → Ev (fun k => aumbryref04_Behind.f k t (a : Int)) (behS t a 1) := by
 intro d
 induction d using Nat.strongRecOn with
 | _ d ih =>
 intro t ht hok a hd ha
 rcases hs : t.drop a with _ | ⟨c, s⟩
 ·
  have hl := drop_nil_len ha hs
  refine Ev.step (f := fun k => aumbryref04_Behind.j0 k t (a : Int) true) (fun k => by simp only [aumbryref04_Behind.f]; rw [if_neg (by omega)]; congr 1; simp; omega) ?_
  refine Ev.step (f := fun k => some (-1)) (fun k => by simp only [aumbryref04_Behind.j0]; rfl) ?_
  have : behS t a 1 = -1 := by
   unfold behS
   rw [hs]
   rfl
  rw [this]
  exact Ev.now _
 ·
  obtain ⟨h1, h2, h3⟩ := drop_cons hs
  have hc : Okc c := hok c (List.mem_of_mem_drop (hs ▸ List.mem_cons_self ..))
  have har : (ar c : Int) = c.f1 := by unfold ar; have := hc.lo; omega
  have hh := hc.hi
  have hl0 := hc.lo
  refine Ev.step (f := fun k => aumbryref04_Behind.j0 k t (a : Int) false) (fun k => by simp only [aumbryref04_Behind.f]; rw [if_neg (by omega)]; congr 1; simp; omega) ?_
  refine Ev.step (f := fun k => aumbryref04_Behind.l0 k t ((a + 1 : Nat) : Int) (ar c : Int) 0) (fun k => by
   simp only [aumbryref04_Behind.j0]
   rw [if_neg (by simp), if_pos (by omega), if_pos (by omega), rd_cel hs, wrap_up (by omega) (by omega), har]
   rfl) ?_
  have loop : ∀ (m : Nat) (b i : Nat), t.length - b < d → b ≤ t.length → i + m = ar c → Ev (fun k => aumbryref04_Behind.l0 k t (b : Int) (ar c : Int) (i : Int)) (behS t b m) := by
   intro m
   induction m with
   | zero =>
    intro b i hb hbl hi
    refine Ev.step (f := fun _ => some (b : Int)) (fun k => by simp only [aumbryref04_Behind.l0]; rw [if_neg (by omega)]) ?_
    have : behS t b 0 = (b : Int) := by
     unfold behS
     rw [segN_zero]
     simp only [List.length_drop]
     omega
    rw [this]
    exact Ev.now _
   | succ m ihm =>
    intro b i hb hbl hi
    refine Ev.step (f := fun k => (aumbryref04_Behind.f k t (b : Int)).bind fun r => aumbryref04_Behind.l0 k t r (ar c : Int) ((i + 1 : Nat) : Int)) (fun k => by
     simp only [aumbryref04_Behind.l0]
     rw [if_pos (by omega), if_pos (by omega), wrap_up (by omega) (by omega)]
     rfl) ?_
    refine Ev.bind (ih _ hb t ht hok b rfl hbl) ?_
    have hadd : segN (t.drop b) (m + 1) = (segN (t.drop b) 1).bind fun r => segN r m := by rw [show m + 1 = 1 + m by omega]; exact segN_add _ _ _
    cases hr : segN (t.drop b) 1 with
    | none =>
     have e1 : behS t b 1 = -1 := by unfold behS; rw [hr]
     have e2 : behS t b (m + 1) = -1 := by unfold behS; rw [hadd, hr]; rfl
     rw [e1, e2]
     refine Ev.step (f := fun _ => some (-1 : Int)) (fun k => ?_) (Ev.now _)
     simp only [aumbryref04_Behind.l0]
     split <;> simp
    | some r =>
     obtain ⟨q, hq1, hq2⟩ := segN_suffix hr
     rw [List.drop_drop] at hq2
     have hlen := segN_len hr
     simp only [List.length_drop] at hlen hq1
     have hrl : r.length = t.length - (b + q) := by rw [← hq2, List.length_drop]
     have e1 : behS t b 1 = ((b + q : Nat) : Int) := by unfold behS; rw [hr]; simp only; omega
     have e2 : behS t b (m + 1) = behS t (b + q) m := by unfold behS; rw [hadd, hr, hq2]; rfl
     rw [e1, e2]
     exact ihm (b + q) (i + 1) (by omega) (by omega) (by omega)
  have : behS t a 1 = behS t (a + 1) (ar c) := by
   unfold behS
   rw [hs, h3]
   show (match segN s (0 + ar c) with | none => (-1 : Int) | some r => _) = _
   rw [Nat.zero_add]
  rw [this]
  exact loop (ar c) (a + 1) 0 (by omega) (by omega) (by omega)
theorem ev_refBehind (t : List Cel) (ht : t.length ≤ 64) (hok : ∀ c ∈ t, Okc c) (a : Nat) (ha : a ≤ t.length) : Ev (fun k => aumbryref04_Behind.f k t (a : Int)) (behS t a 1) := ev_refBehind_at _ t ht hok a rfl ha
theorem ev_refCheck_loop (t : List Cel) (ht : t.length ≤ 64) : ∀ (s : List Cel) (a : Nat), a ≤ t.length → t.drop a = s → (∀ c ∈ t.take a, Okc c) →
 Ev (fun k => aumbryref04_Check.l0 k t (t.length : Int) (a : Int)) (if errs s = 0 then (if segN t 1 = some [] then 0 else 3) else errs s)
 | [], a, ha, hs, hok => by
  have hl := drop_nil_len ha hs
  rw [hl, List.take_length] at hok
  refine Ev.step (f := fun k => (aumbryref04_Behind.f k t 0).bind fun r => (if r = (t.length : Int) then (some 0) else (some 3))) (fun k => by simp only [aumbryref04_Check.l0]; rw [if_neg (by omega)]) ?_
  refine Ev.bind (ev_refBehind t ht hok 0 (by omega)) ?_
  refine Ev.congr (f := fun _ => some (if segN t 1 = some [] then 0 else 3)) (fun k => ?_) (Ev.now _)
  by_cases h : segN t 1 = some []
  ·
   rw [if_pos ((behS_whole t).2 h), if_pos h]
  ·
   rw [if_neg (fun h' => h ((behS_whole t).1 h')), if_neg h]
 | c :: s, a, ha, hs, hok => by
  obtain ⟨h1, h2, h3⟩ := drop_cons hs
  refine Ev.step (f := fun k => (aumbryref03_Kind.f k c.f0).bind fun e => (if e = 0 then (some 4) else (if c.f1 < 0 then (some 5) else (if c.f1 > 4 then (some 5) else (if e = 2 then (if c.f1 = 0 then (aumbryref04_Check.l0 k t (t.length : Int) ((a + 1 : Nat) : Int)) else (some 5)) else (aumbryref04_Check.l0 k t (t.length : Int) ((a + 1 : Nat) : Int))))))) (fun k => ?_) ?_
  ·
   simp only [aumbryref04_Check.l0]
   rw [if_pos (by omega), if_pos (by omega), if_pos (by omega), rd_cel hs, wrap_up (by omega) (by omega)]
   rfl
  ·
   refine Ev.bind (ev_refKind c.f0) ?_
   by_cases he : cellErr c = 0
   ·
    have ho := okc_of he
    have h4 := ho.hi
    have h0 := ho.lo
    refine Ev.congr (f := fun k => aumbryref04_Check.l0 k t (t.length : Int) ((a + 1 : Nat) : Int)) (fun k => ?_) ?_
    ·
     rw [if_neg ho.kind, if_neg (by omega), if_neg (by omega)]
     by_cases hv : kindS c.f0 = 2
     ·
      rw [if_pos hv, if_pos (ho.var hv)]
     ·
      rw [if_neg hv]
    have : errs (c :: s) = errs s := by simp only [errs]; rw [if_pos he]
    rw [this]
    refine ev_refCheck_loop t ht s (a + 1) (by omega) h3 (fun x hx => ?_)
    rw [List.take_succ_eq_append_getElem h1] at hx
    rcases List.mem_append.1 hx with hx | hx
    ·
     exact hok x hx
    ·
     have hce : t[a] = c := by have := h2 c; rw [List.getD_eq_getElem?_getD, List.getElem?_eq_getElem h1] at this; exact this
     rw [List.mem_singleton.1 hx, hce]
     exact ho
   ·
    refine Ev.congr (f := fun _ => some (cellErr c)) (fun k => ?_) ?_
    ·
     unfold cellErr at he ⊢
     by_cases e1 : kindS c.f0 = 0
     ·
      rw [if_pos e1, if_pos e1]
     ·
      rw [if_neg e1] at he
      rw [if_neg e1, if_neg e1]
      by_cases e2 : c.f1 < 0
      ·
       rw [if_pos e2, if_pos e2]
      ·
       rw [if_neg e2] at he
       rw [if_neg e2, if_neg e2]
       by_cases e3 : c.f1 > 4
       ·
        rw [if_pos e3, if_pos e3]
       ·
        rw [if_neg e3] at he
        rw [if_neg e3, if_neg e3]
        by_cases e4 : kindS c.f0 = 2
        ·
         rw [if_pos e4] at he
         rw [if_pos e4, if_pos e4]
         by_cases e5 : c.f1 > 0
         ·
          rw [if_pos e5, if_neg (by omega)]
         ·
          rw [if_neg e5] at he
          exact absurd rfl he
        ·
         rw [if_neg e4] at he
         exact absurd rfl he
    ·
     have : errs (c :: s) = cellErr c := by simp only [errs]; rw [if_neg he]
     rw [this, if_neg he]
     exact Ev.now _
theorem ev_refCheck (t : List Cel) : Ev (fun k => aumbryref04_Check.f k t) (checkS t) := by
 unfold aumbryref04_Check.f checkS
 by_cases h : t.length > 64
 ·
  rw [if_pos h]
  exact Ev.congr (f := fun _ => some 6) (fun k => if_pos (by omega)) (Ev.now _)
 ·
  rw [if_neg h]
  exact Ev.congr (f := fun k => aumbryref04_Check.l0 k t (t.length : Int) ((0 : Nat) : Int)) (fun k => if_neg (by omega)) (ev_refCheck_loop t (by omega) t 0 (by omega) rfl (by simp))
end Go.Proofs.Ytdlkhpfgkghhmaa.P

-- ==== PLs
/- Plain laws: lists of cells as terms, taken apart (for chapters without match). -/
namespace Go.Proofs.Ytdlkhpfgkghhmaa.P
open Go.RowKit Go.Proofs.YtdlkhpfgkghhmaaW.PrintWords

def fstT (t r : List Cel) : List Cel := t.take (t.length - r.length)
theorem segN_append : ∀ {l r : List Cel} {n : Nat} (q : List Cel), segN l n = some r → segN (l ++ q) n = some (r ++ q)
 | l, r, 0, q, h => by
  rw [segN_zero] at h ⊢
  injection h with h
  rw [h]
 | [], r, n + 1, q, h => by cases h
 | c :: l, r, n + 1, q, h => segN_append (l := l) (r := r) (n := n + ar c) q h
theorem segN_split {t : List Cel} {n : Nat} (h : segN t (n + 1) = some []) : ∃ r, segN t 1 = some r ∧ segN r n = some [] := by
 rw [show n + 1 = 1 + n by omega, segN_add] at h
 cases hr : segN t 1 with
 | none => rw [hr] at h; cases h
 | some r => rw [hr] at h; exact ⟨r, rfl, h⟩
theorem segN_fst {t r : List Cel} {n : Nat} (h : segN t n = some r) : t = fstT t r ++ r ∧ segN (fstT t r) n = some [] := by
 obtain ⟨m, hm, hd⟩ := segN_suffix h
 have hl : r.length = t.length - m := by rw [← hd, List.length_drop]
 have he : fstT t r = t.take m := by unfold fstT; rw [show t.length - r.length = m by omega]
 rw [he]
 refine ⟨by rw [← hd]; exact (List.take_append_drop m t).symm, ?_⟩
 have : ∀ (l : List Cel) (n m : Nat), m ≤ l.length → segN l n = some (l.drop m) → segN (l.take m) n = some [] := by
  intro l
  induction l with
  | nil =>
   intro n m hm h
   have hm0 : m = 0 := by simpa using hm
   subst hm0
   simpa using h
  | cons c l ih =>
   intro n m hm h
   cases n with
   | zero =>
    rw [segN_zero] at h ⊢
    injection h with h
    have := congrArg List.length h
    simp only [List.length_cons, List.length_drop] at this
    have hm0 : m = 0 := by simp at hm; omega
    rw [hm0]
    rfl
   | succ n =>
    cases m with
    | zero =>
     have := segN_len h
     simp at this
    | succ m =>
     simp only [List.drop_succ_cons] at h
     exact ih (n + ar c) m (by simpa using hm) h
 rw [← hd] at h
 exact this t n m hm h

theorem bytes_eq (a b : ByteArray) : a.toList = b.toList ↔ a = b := by
 rw [ByteArray.toList_eq, ByteArray.toList_eq]
 constructor
 ·
  intro h
  cases a; cases b
  simp only [ByteArray.mk.injEq]
  exact Array.toList_inj.1 h
 ·
  intro h
  rw [h]
theorem cel_ne (c d : Cel) : ((!((c.f0.toList) == (d.f0.toList)) || (!(c.f1 == d.f1))) = true) ↔ c ≠ d := by
 cases c with | mk a b => cases d with | mk a' b' =>
 simp only [Bool.or_eq_true, Bool.not_eq_true', beq_eq_false_iff_ne, ne_eq, bytes_eq, S54.mk.injEq]
 by_cases h : a = a' <;> simp [h]
theorem ev_cels_loop (F : Nat → List Cel → List Cel → Int → Int → Option Bool)
 (hF : ∀ k x y n i, F (k + 1) x y n i = if i < n then (if 0 ≤ i then (if i < (x.length : Int) then (if i < (y.length : Int) then (if (!((((rd_T54 x i).f0).toList) == (((rd_T54 y i).f0).toList)) || (!(((rd_T54 x i).f1) == ((rd_T54 y i).f1)))) = true then (some false) else (F k x y n (wrap64 (i + 1)))) else (none)) else (none)) else (none)) else (some true))
 (x y : List Cel) (hl : x.length = y.length) (hb : x.length ≤ 9223372036854775806) : ∀ (s u : List Cel) (a : Nat), a ≤ x.length → x.drop a = s → y.drop a = u → Ev (fun k => F k x y (x.length : Int) (a : Int)) (decide (s = u))
 | [], u, a, ha, hs, hu => by
  have h1 := drop_nil_len ha hs
  have h2 : u = [] := by rw [← hu]; exact List.drop_eq_nil_of_le (by omega)
  refine Ev.step (f := fun _ => some true) (fun k => by rw [hF, if_neg (by omega)]) ?_
  rw [h2]
  exact Ev.now _
 | c :: s, u, a, ha, hs, hu => by
  obtain ⟨h1, _, h3⟩ := drop_cons hs
  rcases u with _ | ⟨d, u⟩
  ·
   have := drop_nil_len (by omega) hu
   omega
  obtain ⟨_, _, h4⟩ := drop_cons hu
  by_cases hcd : c = d
  ·
   refine Ev.step (f := fun k => F k x y (x.length : Int) ((a + 1 : Nat) : Int)) (fun k => by
    rw [hF, if_pos (by omega), if_pos (by omega), if_pos (by omega), if_pos (by omega), rd_cel hs, rd_cel hu, if_neg (fun h => (cel_ne c d).1 h hcd), wrap_up (by omega) (by omega)]
    rfl) ?_
   have : decide (c :: s = d :: u) = decide (s = u) := by subst hcd; simp
   rw [this]
   exact ev_cels_loop F hF x y hl hb s u (a + 1) (by omega) h3 h4
  ·
   refine Ev.step (f := fun _ => some false) (fun k => by
    rw [hF, if_pos (by omega), if_pos (by omega), if_pos (by omega), if_pos (by omega), rd_cel hs, rd_cel hu, if_pos ((cel_ne c d).2 hcd)]) ?_
   have : decide (c :: s = d :: u) = false := by simp [hcd]
   rw [this]
   exact Ev.now _
theorem ev_refSame4 (x y : List Cel) (hb : x.length ≤ 9223372036854775806 ∨ y.length ≤ 9223372036854775806) : Ev (fun k => aumbryref04_Same.f k x y) (decide (x = y)) := by
 unfold aumbryref04_Same.f
 by_cases h : (x.length : Int) = (y.length : Int)
 ·
  exact Ev.congr (f := fun k => aumbryref04_Same.l0 k x y (x.length : Int) ((0 : Nat) : Int)) (fun k => by rw [if_pos h]; rfl) (ev_cels_loop _ (fun k x y n i => rfl) x y (by omega) (by omega) x y 0 (by omega) rfl rfl)
 ·
  refine Ev.congr (f := fun _ => some (decide (x = y))) (fun k => ?_) (Ev.now _)
  rw [if_neg h]
  congr 1
  rw [Eq.comm, decide_eq_false_iff_not]
  rintro rfl
  exact h rfl
theorem clone_at (x : List Cel) (h : x.length < 5864062014805) : api_Cell_71.f x = some x := by
 unfold api_Cell_71.f
 rw [if_pos (by simpa using h)]
 rfl
theorem copy_at (x : List Cel) (h : x.length < 5864062014805) : aumbryref04_Copy.f x = some x := by
 unfold aumbryref04_Copy.f
 rw [if_pos (by simpa using h)]
 rfl

theorem checkS_ok {t : List Cel} (h : checkS t = 0) : t.length ≤ 64 ∧ (∀ c ∈ t, Okc c) ∧ segN t 1 = some [] := by
 unfold checkS at h
 by_cases h1 : t.length > 64
 ·
  rw [if_pos h1] at h
  cases h
 ·
  rw [if_neg h1] at h
  by_cases h2 : errs t = 0
  ·
   rw [if_pos h2] at h
   by_cases h3 : segN t 1 = some []
   ·
    exact ⟨by omega, errs_ok h2, h3⟩
   ·
    rw [if_neg h3] at h
    cases h
  ·
   rw [if_neg h2] at h
   exact absurd h h2
def splitT : Nat → List Cel → List (List Cel)
 | 0, _ => []
 | n + 1, l => match segN l 1 with
  | none => []
  | some r => fstT l r :: splitT n r
def kidsS : List Cel → List (List Cel)
 | [] => []
 | c :: l => splitT (ar c) l
theorem splitT_spec : ∀ (n : Nat) (l : List Cel), segN l n = some [] → (splitT n l).flatten = l ∧ (splitT n l).length = n ∧ ∀ a ∈ splitT n l, segN a 1 = some []
 | 0, l, h => by
  rw [segN_zero] at h
  injection h with h
  subst h
  exact ⟨rfl, rfl, fun a ha => by cases ha⟩
 | n + 1, l, h => by
  obtain ⟨r, h1, h2⟩ := segN_split h
  obtain ⟨g1, g2, g3⟩ := splitT_spec n r h2
  have hf := segN_fst h1
  simp only [splitT, h1, List.flatten_cons, List.length_cons, List.mem_cons]
  refine ⟨by rw [g1]; exact hf.1.symm, by omega, fun a ha => ?_⟩
  rcases ha with rfl | ha
  ·
   exact hf.2
  ·
   exact g3 a ha
theorem cellErr_okc {c : Cel} (h : Okc c) : cellErr c = 0 := by
 unfold cellErr
 have h1 := h.lo
 have h2 := h.hi
 rw [if_neg h.kind, if_neg (by omega), if_neg (by omega)]
 by_cases hk : kindS c.f0 = 2
 ·
  rw [if_pos hk, if_neg (by have := h.var hk; omega)]
 ·
  rw [if_neg hk]
theorem ok_errs : ∀ {l : List Cel}, (∀ c ∈ l, Okc c) → errs l = 0
 | [], _ => rfl
 | a :: l, h => by
  unfold errs
  rw [if_pos (cellErr_okc (h a (List.mem_cons_self ..)))]
  exact ok_errs fun c hc => h c (List.mem_cons_of_mem _ hc)
theorem checkS_of {t : List Cel} (h1 : t.length ≤ 64) (h2 : ∀ c ∈ t, Okc c) (h3 : segN t 1 = some []) : checkS t = 0 := by
 unfold checkS
 rw [if_neg (by omega), if_pos (ok_errs h2), if_pos h3]
theorem mem_fstT {t r : List Cel} {c : Cel} (h : c ∈ fstT t r) : c ∈ t := List.mem_of_mem_take h
theorem seg_at : ∀ (t : List Cel) (n a : Nat), segN t n = some [] → a < t.length → ∃ m, segN (t.drop a) (m + 1) = some []
 | [], _, a, _, ha => by simp at ha
 | c :: l, 0, a, h, ha => by rw [segN_zero] at h; injection h with h; cases h
 | c :: l, n + 1, 0, h, ha => ⟨n, h⟩
 | c :: l, n + 1, a + 1, h, ha => by
  have h' : segN l (n + ar c) = some [] := h
  exact seg_at l (n + ar c) a h' (by simpa using ha)
theorem seg_one {t : List Cel} {n a : Nat} (h : segN t n = some []) (ha : a < t.length) : ∃ r, segN (t.drop a) 1 = some r := by
 obtain ⟨m, hm⟩ := seg_at t n a h ha
 obtain ⟨r, hr, _⟩ := segN_split hm
 exact ⟨r, hr⟩
end Go.Proofs.Ytdlkhpfgkghhmaa.P

-- ==== PF92
namespace Go.Proofs.Ytdlkhpfgkghhmaa.P
open Go.RowKit Go.Proofs.YtdlkhpfgkghhmaaW.PrintWords Go.Proofs.YtdlkhpfgkghhmaaW.PrintLast Go.Proofs.YtdlkhpfgkghhmaaW.PrintMore
attribute [local go_sem] max2_int min2_int max_two min_two max_three min_three max_four min_four

attribute [local go_sem high] eqA54
def match_Match.l0 : Nat → List (S54) → List (S104) → List (S54) → Int → List (S54) → Int → Int → Option ((List (S104)) × Bool × Int)
 | 0, _, _, _, _, _, _, _ => none
 | k + 1, x1, x10, x11, x12, x33, x34, x35 => if x35 < x34 then (if 0 ≤ x35 then (if x35 < (x33.length : Int) then ((match_variable.f k ((rd_T54 x33 x35).f0) ((rd_T54 x33 x35).f1)).bind fun t106 => (if t106 = true then ((match_end.f k x1 x12).bind fun t108 => (if 0 ≤ x12 then (if x12 ≤ t108 then (if t108 ≤ (x1.length : Int) then ((some ((x1.take (t108 : Int).toNat).drop (x12 : Int).toNat : List (S54))).bind fun y109 => (if ((rd_T54 x33 x35).f0).size ≤ 9223372036854775807 then (if (mapHas x11 ((rd_T54 x33 x35).f0) = true) then (if 0 ≤ (mapAt x11 ((rd_T54 x33 x35).f0)) then (if (mapAt x11 ((rd_T54 x33 x35).f0)) < (x10.length : Int) then ((api_Cell_104.f k ((rd_T104 x10 (mapAt x11 ((rd_T54 x33 x35).f0))).f1) y109).bind fun t114 => (if t114 = true then (match_Match.l0 k x1 x10 x11 (wrap64 (x12 + (y109.length : Int))) x33 x34 (wrap64 (x35 + 1))) else (some (([] : List (S104)), false, 0)))) else (none)) else (none)) else (if x11.length < 9223372036854775807 ∧ ((rd_T54 x33 x35).f0).size ≤ 9223372036854775807 ∧ 0 ≤ (x10.length : Int) ∧ (x10.length : Int) ≤ 9223372036854775807 then ((api_Cell_71.f y109).bind fun t118 => (if x10.length < 3518437208883 then (match_Match.l0 k x1 (x10 ++ [(⟨(rd_T54 x33 x35).f0, t118⟩ : S104)]) (mapPut x11 ((rd_T54 x33 x35).f0) (x10.length : Int)) (wrap64 (x12 + (y109.length : Int))) x33 x34 (wrap64 (x35 + 1))) else (none))) else (none))) else (none))) else (none)) else (none)) else (none))) else (if 0 ≤ x12 then (if x12 < (x1.length : Int) then (if (!((((rd_T54 x1 x12).f0).toList) == (((rd_T54 x33 x35).f0).toList)) || (!(((rd_T54 x1 x12).f1) == ((rd_T54 x33 x35).f1)))) = true then (some (([] : List (S104)), false, 0)) else (match_Match.l0 k x1 x10 x11 (wrap64 (x12 + 1)) x33 x34 (wrap64 (x35 + 1)))) else (none)) else (none)))) else (none)) else (none)) else (some (x10, true, 0))
def match_Match.g (k : Nat) (l0 : List (S54)) (l1 : List (S54)) : Option ((List (S104)) × Bool × Int) := match_Match.l0 k l1 ([] : List (S104)) (([] : List (S54))) 0 l0 (l0.length : Int) 0
def match_Match.f (k : Nat) (l0 : List (S54)) (l1 : List (S54)) : Option ((List (S104)) × Bool × Int) := (term_Check.f k l0).bind fun ta => (if ta = 0 then ((term_Check.f k l1).bind fun tb => (if tb = 0 then (match_Match.g k l0 l1) else (some (([] : List (S104)), false, tb)))) else (some (([] : List (S104)), false, ta)))
theorem match_Match.mono_l : ∀ k, (∀ y0 y1 y2 y3 y4 y5 y6, LeO (match_Match.l0 k y0 y1 y2 y3 y4 y5 y6) (match_Match.l0 (k + 1) y0 y1 y2 y3 y4 y5 y6))
 | 0 => fun _ _ _ _ _ _ _ r h => by simp [match_Match.l0] at h
 | k + 1 => by
  have ih0 := match_Match.mono_l k
  ·
   intro y0 y1 y2 y3 y4 y5 y6
   unfold match_Match.l0
   repeat' first
   | (with_reducible exact ih0 _ _ _ _ _ _ _)
   | (with_reducible exact api_Cell_104.mono _ _ _)
   | (with_reducible exact match_end.mono _ _ _)
   | (with_reducible exact match_variable.mono _ _ _)
   | (with_reducible exact LeO.refl _)
   | (with_reducible exact LeO.none _)
   | (with_reducible refine LeO.ite ?_ ?_)
   | (with_reducible refine LeO.bind ?_ (fun _ => ?_))
theorem match_Match.mono_g : ∀ a0 a1 k, LeO (match_Match.g k a0 a1) (match_Match.g (k + 1) a0 a1) := by
 intro a0 a1 k
 have ih0 := match_Match.mono_l k
 unfold match_Match.g
 repeat' first
  | (with_reducible exact ih0 _ _ _ _ _ _ _)
  | (with_reducible exact api_Cell_104.mono _ _ _)
  | (with_reducible exact match_end.mono _ _ _)
  | (with_reducible exact match_variable.mono _ _ _)
  | (with_reducible exact LeO.refl _)
  | (with_reducible exact LeO.none _)
  | (with_reducible refine LeO.ite ?_ ?_)
  | (with_reducible refine LeO.bind ?_ (fun _ => ?_))
theorem match_Match.mono : ∀ a0 a1 k, LeO (match_Match.f k a0 a1) (match_Match.f (k + 1) a0 a1) := by
 intro a0 a1 k
 unfold match_Match.f
 refine LeO.bind (term_Check.mono _ _) (fun _ => LeO.ite (LeO.bind (term_Check.mono _ _) (fun _ => LeO.ite (match_Match.mono_g _ _ _) (LeO.refl _))) (LeO.refl _))
def match_Match.T23 : Bool × List (List Nat × List Nat) := (true, [([], []), ([], []), ([1], [1]), ([], []), ([3], [3]), ([2, 4], [2, 4]), ([5], [5]), ([0, 6, 4], [0, 6]), ([7, 7, 0, 1, 2, 3, 4, 5, 6, 7], [0, 7])])
def match_Match.B23 : List Nat := [0, 0, 2, 0, 8, 30, 62, 127, 255]
theorem match_Match.tab23 : rtab .any (opsOf Try.f92 23) = match_Match.T23 := by kernel_rfl
theorem match_Match.bits23 : waitsOk match_Match.T23.2 match_Match.B23 = true := by kernel_rfl
theorem match_Match.calls (k : Nat) (A0 : Option Addr) (c0 : Nat) (l0 : List (S54)) (A1 : Option Addr) (c1 : Nat) (l1 : List (S54)) (r1 : List (S104)) (r2 : Bool) (r3 : Int) (w : World) (hr0 : Kd.C k54 w A0 l0.length l0) (hc0 : l0.length ≤ c0) (hr1 : Kd.C k54 w A1 l1.length l1) (hc1 : l1.length ≤ c1) (h : match_Match.f k l0 l1 = some (r1, r2, r3)) :
 Calls Try.prog 92 #[.slice A0 l0.length c0, .slice A1 l1.length c1] w fun e w' => ∃ v0_ : Value, e = .returned (.tuple #[v0_, .bool r2, .int .i64 r3]) ∧ Kd.S k104 104 w' w.heap.size (fun _ => True) v0_ r1 ∧ Below w.heap.size w w' := by
 have hu54 := Try.underlying54
 have hu104 := Try.underlying104
 have HR0 := zM hr0
 have HC0 := zM hc0
 clear hr0 hc0
 have HR1 := zM hr1
 have HC1 := zM hc1
 clear hr1 hc1
 have HB := zM (Below.refl w.heap.size w)
 have h0 : ((term_Check.f k l0).bind fun ta => (if ta = 0 then ((term_Check.f k l1).bind fun tb => (if tb = 0 then (match_Match.g k l0 l1) else (some (([] : List (S104)), false, tb)))) else (some (([] : List (S104)), false, ta)))) = some (r1, r2, r3) := h
 clear h
 replace h0 := zB h0
 obtain ⟨ta, Aa0, h0⟩ := h0
 have Aa := zM Aa0
 clear Aa0
 by_cases cta : ta = 0
 case neg =>
  have h1 : (some (([] : List (S104)), false, ta)) = some (r1, r2, r3) := by first | (rw [if_neg cta] at h0; exact h0) | exact (if_neg cta).symm.trans h0
  clear h0
  simp only [Option.some.injEq, Prod.mk.injEq] at h1
  obtain ⟨rfl, rfl, rfl⟩ := h1
  have ctab0 : (ta == 0) = false := zE cta
  have ctab1 : (ta != 0) = true := zF cta
  clear cta
  go_enter Try.func92, Try.ntmps92
  go_wp2
  refine wp_loop_rounds 1 ?_
  rw [rounds_succ]
  go_wp2_with (first | ((with_reducible refine gate_callee (f := 30) rfl ?_); refine goesL_ (some 27) rfl rfl Try.func30 (by kernel_rfl) rfl #[.slice A0 l0.length c0] rfl zl ?_; (with_reducible refine (term_Check.calls k _ _ l0 ta _ ?side1 ?side2 Aa.out).mono ?_); (case side1 => exact Kd.C_below HR0.out zg); (case side2 => exact HC0.out); rintro e w5 ⟨rfl, hb⟩; have hz1 : w5.cell? ⟨w.heap.size, 1, none⟩ = some (.slice A1 l1.length c1) := (hb.cell (p := ⟨w.heap.size, 1, none⟩) (by simp)).trans ((cell_of_row _ _ 1 _ _ (0, 0) (heap_alloc_new w _)).trans rfl); replace HB := zM (below_step (zA HB.out _) hb); refine ⟨_, rfl, ?_⟩))
  go_ret3
  exact ⟨_, zw, Kd.S_nil _ _ _ _ _, zb⟩
 case pos =>
 replace h0 : ((term_Check.f k l1).bind fun tb => (if tb = 0 then (match_Match.g k l0 l1) else (some (([] : List (S104)), false, tb)))) = some (r1, r2, r3) := (if_pos cta).symm.trans h0
 replace h0 := zB h0
 obtain ⟨tb, Ab0, h0⟩ := h0
 have Ab := zM Ab0
 clear Ab0
 have ctab0 : (ta == 0) = true := zG cta
 have ctab1 : (ta != 0) = false := zH cta
 clear cta
 by_cases ctb : tb = 0
 case neg =>
  have h1 : (some (([] : List (S104)), false, tb)) = some (r1, r2, r3) := by first | (rw [if_neg ctb] at h0; exact h0) | exact (if_neg ctb).symm.trans h0
  clear h0
  simp only [Option.some.injEq, Prod.mk.injEq] at h1
  obtain ⟨rfl, rfl, rfl⟩ := h1
  have ctbb0 : (tb == 0) = false := zE ctb
  have ctbb1 : (tb != 0) = true := zF ctb
  clear ctb
  go_enter Try.func92, Try.ntmps92
  go_wp2
  refine wp_loop_rounds 2 ?_
  rw [rounds_succ]
  go_wp2_with (first | ((with_reducible refine gate_callee (f := 30) rfl ?_); refine goesL_ (some 27) rfl rfl Try.func30 (by kernel_rfl) rfl #[.slice A0 l0.length c0] rfl zl ?_; (with_reducible refine (term_Check.calls k _ _ l0 ta _ ?side1 ?side2 Aa.out).mono ?_); (case side1 => exact Kd.C_below HR0.out zg); (case side2 => exact HC0.out); rintro e w5 ⟨rfl, hb⟩; have hz1 : w5.cell? ⟨w.heap.size, 1, none⟩ = some (.slice A1 l1.length c1) := (hb.cell (p := ⟨w.heap.size, 1, none⟩) (by simp)).trans ((cell_of_row _ _ 1 _ _ (0, 0) (heap_alloc_new w _)).trans rfl); replace HB := zM (below_step (zA HB.out _) hb); refine ⟨_, rfl, ?_⟩))
  rw [rounds_succ]
  go_wp2_with (first | ((with_reducible refine gate_callee (f := 30) rfl ?_); refine goesL_ (some 27) rfl rfl Try.func30 (by kernel_rfl) rfl #[.slice A1 l1.length c1] rfl zl ?_; (with_reducible refine (term_Check.calls k _ _ l1 tb _ ?side1 ?side2 Ab.out).mono ?_); (case side1 => exact Kd.C_below HR1.out HB.out); (case side2 => exact HC1.out); rintro e w6 ⟨rfl, hb⟩; replace HB := zM (below_step HB.out hb); refine ⟨_, rfl, ?_⟩))
  go_ret3
  exact ⟨_, zw, Kd.S_nil _ _ _ _ _, zb⟩
 case pos =>
 have h : match_Match.g k l0 l1 = some (r1, r2, r3) := (if_pos ctb).symm.trans h0
 clear h0
 have ctbb0 : (tb == 0) = true := zG ctb
 have ctbb1 : (tb != 0) = false := zH ctb
 clear ctb
 have H : (match_Match.l0 k l1 ([] : List (S104)) (([] : List (S54))) 0 l0 (l0.length : Int) 0) = some (r1, r2, r3) := h
 clear h
 obtain ⟨y101, hy101⟩ : ∃ y_ : List (S54), y_ = (([] : List (S54))) := ⟨_, rfl⟩
 replace H : (match_Match.l0 k l1 ([] : List (S104)) y101 0 l0 (l0.length : Int) 0) = some (r1, r2, r3) := by first | (rw [hy101]; with_reducible exact H) | (have H2_ := (Option.bind_some _ _).symm.trans H; rw [hy101]; with_reducible exact H2_) | (have H2_ := (Option.bind_some _ _).symm.trans H; with_reducible exact H2_) | with_reducible exact H | (rw [hy101]; exact H) | exact H
 have Ny101 := zM hy101
 clear hy101
 have H' := zM H
 clear H
 go_enter Try.func92, Try.ntmps92
 go_wp2
 refine wp_loop_rounds 3 ?_
 rw [rounds_succ]
 go_wp2_with (first | ((with_reducible refine gate_callee (f := 30) rfl ?_); refine goesL_ (some 27) rfl rfl Try.func30 (by kernel_rfl) rfl #[.slice A0 l0.length c0] rfl zl ?_; (with_reducible refine (term_Check.calls k _ _ l0 ta _ ?side1 ?side2 Aa.out).mono ?_); (case side1 => exact Kd.C_below HR0.out zg); (case side2 => exact HC0.out); rintro e w5 ⟨rfl, hb⟩; have hz1 : w5.cell? ⟨w.heap.size, 1, none⟩ = some (.slice A1 l1.length c1) := (hb.cell (p := ⟨w.heap.size, 1, none⟩) (by simp)).trans ((cell_of_row _ _ 1 _ _ (0, 0) (heap_alloc_new w _)).trans rfl); replace HB := zM (below_step (zA HB.out _) hb); refine ⟨_, rfl, ?_⟩))
 rw [rounds_succ]
 go_wp2_with (first | ((with_reducible refine gate_callee (f := 30) rfl ?_); refine goesL_ (some 27) rfl rfl Try.func30 (by kernel_rfl) rfl #[.slice A1 l1.length c1] rfl zl ?_; (with_reducible refine (term_Check.calls k _ _ l1 tb _ ?side1 ?side2 Ab.out).mono ?_); (case side1 => exact Kd.C_below HR1.out HB.out); (case side2 => exact HC1.out); rintro e w6 ⟨rfl, hb⟩; replace HB := zM (below_step HB.out hb); refine ⟨_, rfl, ?_⟩))
 rw [rounds_succ]
 go_wp2_with (first | ((with_reducible refine gate_dst (N := 32) rfl ?_); refine Kd.P_make k54 (N := 32) rfl rfl rfl ?_; intro v102 w3 ho4 hb; rw [← Ny101.out] at ho4; have HO103 := zM (Kd.P_lower ho4 (below_size zb)); replace HB := zM (below_step zb hb); clear hb ho4))
 go_loopg [10, 12, 35] k (fun kq v10 v12 v35 w' => ∃ (x10_1 : List (S104)) (x11_1 : List (S54)) (x12_1 : Int) (x35_1 : Int), v12 = .int .i64 x12_1 ∧ v35 = .int .i64 x35_1 ∧ Aside0 (match_Match.l0 kq l1 x10_1 x11_1 x12_1 l0 (l0.length : Int) x35_1 = some (r1, r2, r3)) ∧ Aside0 (kq ≤ k) ∧ Aside0 (Kd.S k104 104 w' w.heap.size (fun _ => True) v10 x10_1) ∧ Aside0 (Kd.P k54 150 w' w.heap.size (fun _ => True) v102 x11_1) ∧ Aside0 (Below w.heap.size w w'))
 case atStart => exact ⟨(([] : List (S104))), (y101), (0), (0), zy, zy, H', ⟨Nat.le_refl _⟩, ⟨by first | exact Kd.S_nil _ _ _ _ _ | exact Kd.N_nil _ _ _ _ _ | exact Kd.V_nil _ _ _ _ _ | exact Kd.Q_nil _ _ _ _ _ | exact Kd.R_nil _ _ _ _ _⟩, ⟨Kd.P_below HO103.out zg⟩, ⟨zb⟩⟩
 case round =>
  clear H'
  try clear c1
  try clear p2
  obtain ⟨x10_1, x11_1, x12_1, x35_1, rfl, rfl, HA, HK1, HO_10, HO_11, HB⟩ := hrel
  cases gk with
  | zero => exact absurd HA.out (by simp [match_Match.l0])
  | succ k1 =>
   have H := HA.out
   clear HA
   simp only [match_Match.l0] at H
   by_cases c5 : x35_1 < (l0.length : Int)
   ·
    rw [if_pos c5] at H
    have c5b0 : decide (x35_1 < (l0.length : Int)) = true := zQ c5
    clear c5
    by_cases c6 : 0 ≤ x35_1
    ·
     rw [if_pos c6] at H
     have c6b0 : decide (0 ≤ x35_1) = true := zQ c6
     clear c6
     by_cases c7 : x35_1 < (l0.length : Int)
     ·
      rw [if_pos c7] at H
      have c7b0 : decide (x35_1 < (l0.length : Int)) = true := zQ c7
      clear c7
      replace H := zB H
      obtain ⟨t106, A80, H⟩ := H
      try dsimp only at H
      have A8 := zM A80
      clear A80
      by_cases c9 : t106 = true
      ·
       subst c9
       rw [if_pos rfl] at H
       replace H := zB H
       obtain ⟨t108, A100, H⟩ := H
       try dsimp only at H
       have A10 := zM A100
       clear A100
       by_cases c11 : 0 ≤ x12_1
       ·
        rw [if_pos c11] at H
        have c11b0 := eq_true c11
        have c11b1 : decide (0 ≤ x12_1) = true := zQ c11
        clear c11
        by_cases c12 : x12_1 ≤ t108
        ·
         rw [if_pos c12] at H
         have c12b0 := eq_true c12
         have c12b1 : decide (x12_1 ≤ t108) = true := zQ c12
         clear c12
         by_cases c13 : t108 ≤ (l1.length : Int)
         ·
          rw [if_pos c13] at H
          have c13b0 := eq_true c13
          have c13b1 : decide (t108 ≤ (l1.length : Int)) = true := zQ c13
          clear c13
          obtain ⟨y109, hy109⟩ : ∃ y_ : List (S54), y_ = ((l1.take (t108 : Int).toNat).drop (x12_1 : Int).toNat) := ⟨_, rfl⟩
          replace H : (if ((rd_T54 l0 x35_1).f0).size ≤ 9223372036854775807 then (if (mapHas x11_1 ((rd_T54 l0 x35_1).f0) = true) then (if 0 ≤ (mapAt x11_1 ((rd_T54 l0 x35_1).f0)) then (if (mapAt x11_1 ((rd_T54 l0 x35_1).f0)) < (x10_1.length : Int) then ((api_Cell_104.f k1 ((rd_T104 x10_1 (mapAt x11_1 ((rd_T54 l0 x35_1).f0))).f1) y109).bind fun t114 => (if t114 = true then (match_Match.l0 k1 l1 x10_1 x11_1 (wrap64 (x12_1 + (y109.length : Int))) l0 (l0.length : Int) (wrap64 (x35_1 + 1))) else (some (([] : List (S104)), false, 0)))) else (none)) else (none)) else (if x11_1.length < 9223372036854775807 ∧ ((rd_T54 l0 x35_1).f0).size ≤ 9223372036854775807 ∧ 0 ≤ (x10_1.length : Int) ∧ (x10_1.length : Int) ≤ 9223372036854775807 then ((api_Cell_71.f y109).bind fun t118 => (if x10_1.length < 3518437208883 then (match_Match.l0 k1 l1 (x10_1 ++ [(⟨(rd_T54 l0 x35_1).f0, t118⟩ : S104)]) (mapPut x11_1 ((rd_T54 l0 x35_1).f0) (x10_1.length : Int)) (wrap64 (x12_1 + (y109.length : Int))) l0 (l0.length : Int) (wrap64 (x35_1 + 1))) else (none))) else (none))) else (none)) = some (r1, r2, r3) := by first | (rw [hy109]; with_reducible exact H) | (have H2_ := (Option.bind_some _ _).symm.trans H; rw [hy109]; with_reducible exact H2_) | (have H2_ := (Option.bind_some _ _).symm.trans H; with_reducible exact H2_) | with_reducible exact H | (rw [hy109]; exact H) | exact H
          have Ny109 := zM hy109
          clear hy109
          by_cases c14 : ((rd_T54 l0 x35_1).f0).size ≤ 9223372036854775807
          ·
           rw [if_pos c14] at H
           have LMc14 := zM c14
           clear c14
           by_cases c15 : (mapHas x11_1 ((rd_T54 l0 x35_1).f0) = true)
           ·
            rw [if_pos c15] at H
            have c15b0 : mapHas x11_1 ((rd_T54 l0 x35_1).f0) = true := c15
            clear c15
            by_cases c16 : 0 ≤ (mapAt x11_1 ((rd_T54 l0 x35_1).f0))
            ·
             rw [if_pos c16] at H
             have c16b0 : decide (0 ≤ (mapAt x11_1 ((rd_T54 l0 x35_1).f0))) = true := zQ c16
             clear c16
             by_cases c17 : (mapAt x11_1 ((rd_T54 l0 x35_1).f0)) < (x10_1.length : Int)
             ·
              rw [if_pos c17] at H
              have c17b0 : decide ((mapAt x11_1 ((rd_T54 l0 x35_1).f0)) < (x10_1.length : Int)) = true := zQ c17
              clear c17
              replace H := zB H
              obtain ⟨t114, A180, H⟩ := H
              try dsimp only at H
              have A18 := zM A180
              clear A180
              by_cases c19 : t114 = true
              ·
               subst c19
               rw [if_pos rfl] at H
               have H' := zM H
               clear H
               have p104 : 0 ≤ (x35_1 : Int) := zT zv
               have q104 : x35_1 < (l0.length : Int) := zT zv
               obtain ⟨ad104, e104, hx104_0, hx104_1⟩ := at_T54 HR0.out x35_1 p104 q104
               cases e104
               replace hx104_0 := (HB.out.cell (World.block_lt_of_cell? w _ hx104_0)).trans hx104_0
               replace hx104_1 := (HB.out.cell (World.block_lt_of_cell? w _ hx104_1)).trans hx104_1
               replace p104 := eq_true p104
               replace q104 := eq_true q104
               go_wp2_with (first | ((with_reducible refine gate_dst (N := 14) rfl ?_); refine box_event ?hg (N := 14) ?hd (cs := #[.string (⟨#[]⟩ : ByteArray), .int .i64 0]) (t := 54) ?hr ?_; (case hd => rfl); (case hg => rfl); (case hr => first | (go_simp; done) | (go_simp; rfl)); intro gb105 hg w20 hbox hb; replace HO_10 := zM (Kd.S_below (Kd.S_elderB (Kd.S_below HO_10.out zg) gb105 (Nat.le_of_eq hg.symm)) hb); replace HO_11 := zM (Kd.P_below (Kd.P_below HO_11.out zg) hb); have BK105 := zM (hbox); have GW105 := zM (zh hg : w.heap.size ≤ gb105); have GE105 := zM (zh hg : w.heap.size ≤ gb105); replace HB := zM (below_step zb hb); clear hb hbox hg; have hcz21_0 : w20.cell? ⟨gb105, 0, none⟩ = some (.string (⟨#[]⟩ : ByteArray)) := (zX BK105.out 0).trans rfl; have hcz21_1 : w20.cell? ⟨gb105, 1, none⟩ = some (.int .i64 0) := (zX BK105.out 1).trans rfl; have hfz21_0 := zY BK105.out 0; have hfz21_1 := zY BK105.out 1) | ((with_reducible refine gate_callee (f := 102) rfl ?_); refine goesL_ (some 40) rfl rfl Try.func102 (by kernel_rfl) rfl #[.agg #[.string ((rd_T54 l0 x35_1).f0), .int .i64 ((rd_T54 l0 x35_1).f1)]] rfl zl ?_; (with_reducible refine (match_variable.calls k1 ((rd_T54 l0 x35_1).f0) ((rd_T54 l0 x35_1).f1) true _ A8.out).mono ?_); rintro e w22 ⟨rfl, hb⟩; refine ⟨_, rfl, ?_⟩; replace HO_10 := zM (Kd.S_below (by (with_reducible repeat (first | apply Kd.S_alloc | apply Kd.S_drewN | apply Kd.S_drew)); exact (Kd.S_mono (Kd.S_far (p := ⟨gb105, 1, none⟩) (Kd.S_far (p := ⟨gb105, 0, none⟩) (Kd.S_mono HO_10.out (fun k_ hk => (⟨hk, hk.2⟩ : _ ∧ k_ ≠ gb105))) (fun _ hk => hk.2) (.string ((rd_T54 l0 x35_1).f0))) (fun _ hk => hk.2) (.int .i64 ((rd_T54 l0 x35_1).f1))) (fun _ h_ => h_.1))) hb); replace HO_11 := zM (Kd.P_below (by (with_reducible repeat (first | apply Kd.P_alloc | apply Kd.P_drewN | apply Kd.P_drew)); exact (Kd.P_mono (Kd.P_far (p := ⟨gb105, 1, none⟩) (Kd.P_far (p := ⟨gb105, 0, none⟩) (Kd.P_types HO_11.out BK105.out (by decide)) (fun _ hk => hk.2) (.string ((rd_T54 l0 x35_1).f0))) (fun _ hk => hk.2) (.int .i64 ((rd_T54 l0 x35_1).f1))) (fun _ h_ => h_.1))) hb); replace BK105 := zM (blk_below (g := gb105) (o := .cells #[.string ((rd_T54 l0 x35_1).f0), .int .i64 ((rd_T54 l0 x35_1).f1)] 54 (0, 0)) (by refine zk ?_; refine blk_put (cs := #[.string ((rd_T54 l0 x35_1).f0), .int .i64 0]) ?_ 1 _ rfl; refine zk ?_; refine blk_put (cs := #[.string (⟨#[]⟩ : ByteArray), .int .i64 0]) ?_ 0 _ rfl; refine zk ?_; exact BK105.out) hb); replace HB := zM (below_step zb hb); (try clear hb)) | ((with_reducible refine gate_callee (f := 103) rfl ?_); refine goesL_ (some 54) rfl rfl Try.func103 (by kernel_rfl) rfl #[.slice A1 l1.length c1, .int .i64 x12_1] rfl zl ?_; (with_reducible refine (match_end.calls k1 _ _ l1 x12_1 t108 _ ?side1 ?side2 A10.out).mono ?_); (case side1 => exact Kd.C_below HR1.out zb); (case side2 => exact HC1.out); rintro e w' ⟨rfl, ⟨nd, rfl⟩⟩; refine ⟨_, rfl, ?_⟩; have q23 : (t108 : Int) ≤ ((l1.length : Int) : Int) := zT zv; obtain ⟨i023, hi023, _, hsz23, _⟩ := info_parts info54; have hroom23 : l1.length ≤ c1 := HC1.out; have hC23 : Kd.C k54 _ A1 l1.length l1 := HR1.out; have ql23 : (x12_1 : Int) ≤ (t108 : Int) := zT zv; have q023 : (0 : Int) ≤ (x12_1 : Int) := zT zv; have hcut23 := cut_mid (P := Try.prog) 23 54 .i64 .i64 Try.underlying23 hi023 2 hsz23 A1 l1.length c1 x12_1 t108 q023 ql23 q23 hroom23; have hr23 := Kd.C_mid (lo := (x12_1 : Int).toNat) (hi := (t108 : Int).toNat) (c := c1) hC23 (by omega) (by omega) hroom23; obtain ⟨A23, hA23⟩ : ∃ Aq_, Aq_ = (if c1 = (x12_1 : Int).toNat then A1 else (A1 : Option Addr).map (·.add ((x12_1 : Int).toNat * 2))) := ⟨_, rfl⟩; obtain ⟨c23, hc23⟩ : ∃ cq_, cq_ = c1 - (x12_1 : Int).toNat := ⟨_, rfl⟩; have hy23 : y109.length = (t108 : Int).toNat - (x12_1 : Int).toNat := (by rw [Ny109.out, List.length_drop, List.length_take] <;> omega); rw [show ((l1).take (t108 : Int).toNat).drop (x12_1 : Int).toNat = y109 from Ny109.out.symm] at hr23; replace hr23 : Kd.C k54 _ A23 y109.length y109 := (by rw [hA23]; exact hr23); rw [← hy23, ← hA23, ← hc23] at hcut23; have HR112 := zM hr23; have HC112 := zM (show y109.length ≤ c23 from by rw [hy23, hc23]; exact Nat.sub_le_sub_right (Nat.le_trans (by omega) hroom23) _); clear hr23 hC23 hroom23 hi023 hsz23 hc23; have KY23 := zM hy23; have KA23 := zM hA23; clear hy23 hA23; replace q23 := eq_true q23; have hcz24_0 : w22.cell? ⟨gb105, 0, none⟩ = some (.string ((rd_T54 l0 x35_1).f0)) := (zX BK105.out 0).trans rfl; have hcz24_1 : w22.cell? ⟨gb105, 1, none⟩ = some (.int .i64 ((rd_T54 l0 x35_1).f1)) := (zX BK105.out 1).trans rfl; have hfz24_0 := zY BK105.out 0; have hfz24_1 := zY BK105.out 1; obtain ⟨Ao25, co25, eo25⟩ := Kd.S_slice HO_10.out; subst eo25; have p113 : 0 ≤ ((mapAt x11_1 ((rd_T54 l0 x35_1).f0)) : Int) := zT zv; have q113 : (mapAt x11_1 ((rd_T54 l0 x35_1).f0)) < (x10_1.length : Int) := zT zv; obtain ⟨ad113, A113_1, c113_1, e113, hx113_0, hx113_1, hl113_1, hi113_1⟩ := at_T104 (Kd.S_reads' HO_10.out).2.2 (mapAt x11_1 ((rd_T54 l0 x35_1).f0)) p113 q113; cases e113; obtain ⟨ce113, hce113, hMe113, hcc113⟩ := Kd.S_get HO_10.out z104 (mapAt x11_1 ((rd_T54 l0 x35_1).f0)) p113 (by first | exact q113 | exact zT zv | (have e_ := (Kd.S_reads' HO_10.out).1; omega)); obtain ⟨ve113_1, rfl, ge113_1⟩ := k104_openM hMe113; have hv113_1 := hcc113 1 _ rfl; rw [add_field _ _ 1 (by omega)] at hv113_1; replace hv113_1 := zS (hv113_1.symm.trans hx113_1); rw [hv113_1] at ge113_1; have HL113_1 := zM (show Kd.R k54 54 _ _ _ _ ((rd_T104 x10_1 (mapAt x11_1 ((rd_T54 l0 x35_1).f0))).f1) from ge113_1); clear hv113_1 ge113_1; clear hcc113 hce113; have HR113_1 := zM hi113_1; have HC113_1 := zM hl113_1; clear hi113_1 hl113_1; replace p113 := eq_true p113; replace q113 := eq_true q113) | ((with_reducible refine gate_dst (N := 64) rfl ?_); refine Kd.P_look (v := v102) (m := x11_1) (s := ((rd_T54 l0 x35_1).f0)) rfl rfl rfl rfl LMc14.out (Kd.P_below HO_11.out zg) ?_) | ((with_reducible refine gate_callee (f := 104) rfl ?_); refine goesL_ (some 90) rfl rfl Try.func104 (by kernel_rfl) rfl #[.slice A113_1 ((rd_T104 x10_1 (mapAt x11_1 ((rd_T54 l0 x35_1).f0))).f1).length c113_1, .slice A23 y109.length c23] rfl zl ?_; (with_reducible refine (api_Cell_104.calls k1 _ _ ((rd_T104 x10_1 (mapAt x11_1 ((rd_T54 l0 x35_1).f0))).f1) _ _ y109 true _ ?side1 ?side2 ?side3 ?side4 A18.out).mono ?_); (case side1 => repeat (first | exact (by repeat (first | (with_reducible exact HR113_1.out) | (with_reducible first | refine Kd.C_alloc ?_ _ | refine Kd.C_drewN ?_ _ | refine Kd.C_drew ?_) | exact HR113_1.out)) | (with_reducible first | refine Kd.C_alloc ?_ _ | refine Kd.C_drewN ?_ _ | refine Kd.C_drew ?_))); (case side2 => exact HC113_1.out); (case side3 => exact Kd.C_below (Kd.C_below HR112.out zb) zg); (case side4 => exact HC112.out); rintro e w' ⟨rfl, ⟨nd, rfl⟩⟩; refine ⟨_, rfl, ?_⟩))
               go_roundg k1
               case measure => have := HK1.out; omega
               case rel => exact ⟨(x10_1), (x11_1), (wrap64 (x12_1 + (y109.length : Int))), (wrap64 (x35_1 + 1)), zy, zy, H', ⟨by have := HK1.out; omega⟩, ⟨by (with_reducible repeat (first | apply Kd.S_alloc | apply Kd.S_drewN | apply Kd.S_drew)); exact Kd.S_mono HO_10.out (fun _ hk => trivial)⟩, ⟨Kd.P_below HO_11.out zg⟩, ⟨zb⟩⟩
              ·
               replace c19 := zI c19
               subst c19
               rw [if_neg (show ¬ (false = true) by decide)] at H
               simp only [Option.some.injEq, Prod.mk.injEq] at H
               obtain ⟨rfl, rfl, rfl⟩ := H
               have p104 : 0 ≤ (x35_1 : Int) := zT zv
               have q104 : x35_1 < (l0.length : Int) := zT zv
               obtain ⟨ad104, e104, hx104_0, hx104_1⟩ := at_T54 HR0.out x35_1 p104 q104
               cases e104
               replace hx104_0 := (HB.out.cell (World.block_lt_of_cell? w _ hx104_0)).trans hx104_0
               replace hx104_1 := (HB.out.cell (World.block_lt_of_cell? w _ hx104_1)).trans hx104_1
               replace p104 := eq_true p104
               replace q104 := eq_true q104
               go_wp2_with (first | ((with_reducible refine gate_dst (N := 14) rfl ?_); refine box_event ?hg (N := 14) ?hd (cs := #[.string (⟨#[]⟩ : ByteArray), .int .i64 0]) (t := 54) ?hr ?_; (case hd => rfl); (case hg => rfl); (case hr => first | (go_simp; done) | (go_simp; rfl)); intro gb105 hg w26 hbox hb; replace HO_10 := zM (Kd.S_below (Kd.S_elderB (Kd.S_below HO_10.out zg) gb105 (Nat.le_of_eq hg.symm)) hb); replace HO_11 := zM (Kd.P_below (Kd.P_below HO_11.out zg) hb); have BK105 := zM (hbox); have GW105 := zM (zh hg : w.heap.size ≤ gb105); have GE105 := zM (zh hg : w.heap.size ≤ gb105); replace HB := zM (below_step zb hb); clear hb hbox hg; have hcz27_0 : w26.cell? ⟨gb105, 0, none⟩ = some (.string (⟨#[]⟩ : ByteArray)) := (zX BK105.out 0).trans rfl; have hcz27_1 : w26.cell? ⟨gb105, 1, none⟩ = some (.int .i64 0) := (zX BK105.out 1).trans rfl; have hfz27_0 := zY BK105.out 0; have hfz27_1 := zY BK105.out 1) | ((with_reducible refine gate_callee (f := 102) rfl ?_); refine goesL_ (some 40) rfl rfl Try.func102 (by kernel_rfl) rfl #[.agg #[.string ((rd_T54 l0 x35_1).f0), .int .i64 ((rd_T54 l0 x35_1).f1)]] rfl zl ?_; (with_reducible refine (match_variable.calls k1 ((rd_T54 l0 x35_1).f0) ((rd_T54 l0 x35_1).f1) true _ A8.out).mono ?_); rintro e w28 ⟨rfl, hb⟩; refine ⟨_, rfl, ?_⟩; replace HO_10 := zM (Kd.S_below (by (with_reducible repeat (first | apply Kd.S_alloc | apply Kd.S_drewN | apply Kd.S_drew)); exact (Kd.S_mono (Kd.S_far (p := ⟨gb105, 1, none⟩) (Kd.S_far (p := ⟨gb105, 0, none⟩) (Kd.S_mono HO_10.out (fun k_ hk => (⟨hk, hk.2⟩ : _ ∧ k_ ≠ gb105))) (fun _ hk => hk.2) (.string ((rd_T54 l0 x35_1).f0))) (fun _ hk => hk.2) (.int .i64 ((rd_T54 l0 x35_1).f1))) (fun _ h_ => h_.1))) hb); replace HO_11 := zM (Kd.P_below (by (with_reducible repeat (first | apply Kd.P_alloc | apply Kd.P_drewN | apply Kd.P_drew)); exact (Kd.P_mono (Kd.P_far (p := ⟨gb105, 1, none⟩) (Kd.P_far (p := ⟨gb105, 0, none⟩) (Kd.P_types HO_11.out BK105.out (by decide)) (fun _ hk => hk.2) (.string ((rd_T54 l0 x35_1).f0))) (fun _ hk => hk.2) (.int .i64 ((rd_T54 l0 x35_1).f1))) (fun _ h_ => h_.1))) hb); replace BK105 := zM (blk_below (g := gb105) (o := .cells #[.string ((rd_T54 l0 x35_1).f0), .int .i64 ((rd_T54 l0 x35_1).f1)] 54 (0, 0)) (by refine zk ?_; refine blk_put (cs := #[.string ((rd_T54 l0 x35_1).f0), .int .i64 0]) ?_ 1 _ rfl; refine zk ?_; refine blk_put (cs := #[.string (⟨#[]⟩ : ByteArray), .int .i64 0]) ?_ 0 _ rfl; refine zk ?_; exact BK105.out) hb); replace HB := zM (below_step zb hb); (try clear hb)) | ((with_reducible refine gate_callee (f := 103) rfl ?_); refine goesL_ (some 54) rfl rfl Try.func103 (by kernel_rfl) rfl #[.slice A1 l1.length c1, .int .i64 x12_1] rfl zl ?_; (with_reducible refine (match_end.calls k1 _ _ l1 x12_1 t108 _ ?side1 ?side2 A10.out).mono ?_); (case side1 => exact Kd.C_below HR1.out zb); (case side2 => exact HC1.out); rintro e w' ⟨rfl, ⟨nd, rfl⟩⟩; refine ⟨_, rfl, ?_⟩; have q29 : (t108 : Int) ≤ ((l1.length : Int) : Int) := zT zv; obtain ⟨i029, hi029, _, hsz29, _⟩ := info_parts info54; have hroom29 : l1.length ≤ c1 := HC1.out; have hC29 : Kd.C k54 _ A1 l1.length l1 := HR1.out; have ql29 : (x12_1 : Int) ≤ (t108 : Int) := zT zv; have q029 : (0 : Int) ≤ (x12_1 : Int) := zT zv; have hcut29 := cut_mid (P := Try.prog) 23 54 .i64 .i64 Try.underlying23 hi029 2 hsz29 A1 l1.length c1 x12_1 t108 q029 ql29 q29 hroom29; have hr29 := Kd.C_mid (lo := (x12_1 : Int).toNat) (hi := (t108 : Int).toNat) (c := c1) hC29 (by omega) (by omega) hroom29; obtain ⟨A29, hA29⟩ : ∃ Aq_, Aq_ = (if c1 = (x12_1 : Int).toNat then A1 else (A1 : Option Addr).map (·.add ((x12_1 : Int).toNat * 2))) := ⟨_, rfl⟩; obtain ⟨c29, hc29⟩ : ∃ cq_, cq_ = c1 - (x12_1 : Int).toNat := ⟨_, rfl⟩; have hy29 : y109.length = (t108 : Int).toNat - (x12_1 : Int).toNat := (by rw [Ny109.out, List.length_drop, List.length_take] <;> omega); rw [show ((l1).take (t108 : Int).toNat).drop (x12_1 : Int).toNat = y109 from Ny109.out.symm] at hr29; replace hr29 : Kd.C k54 _ A29 y109.length y109 := (by rw [hA29]; exact hr29); rw [← hy29, ← hA29, ← hc29] at hcut29; have HR112 := zM hr29; have HC112 := zM (show y109.length ≤ c29 from by rw [hy29, hc29]; exact Nat.sub_le_sub_right (Nat.le_trans (by omega) hroom29) _); clear hr29 hC29 hroom29 hi029 hsz29 hc29; have KY29 := zM hy29; have KA29 := zM hA29; clear hy29 hA29; replace q29 := eq_true q29; have hcz30_0 : w28.cell? ⟨gb105, 0, none⟩ = some (.string ((rd_T54 l0 x35_1).f0)) := (zX BK105.out 0).trans rfl; have hcz30_1 : w28.cell? ⟨gb105, 1, none⟩ = some (.int .i64 ((rd_T54 l0 x35_1).f1)) := (zX BK105.out 1).trans rfl; have hfz30_0 := zY BK105.out 0; have hfz30_1 := zY BK105.out 1; obtain ⟨Ao31, co31, eo31⟩ := Kd.S_slice HO_10.out; subst eo31; have p113 : 0 ≤ ((mapAt x11_1 ((rd_T54 l0 x35_1).f0)) : Int) := zT zv; have q113 : (mapAt x11_1 ((rd_T54 l0 x35_1).f0)) < (x10_1.length : Int) := zT zv; obtain ⟨ad113, A113_1, c113_1, e113, hx113_0, hx113_1, hl113_1, hi113_1⟩ := at_T104 (Kd.S_reads' HO_10.out).2.2 (mapAt x11_1 ((rd_T54 l0 x35_1).f0)) p113 q113; cases e113; obtain ⟨ce113, hce113, hMe113, hcc113⟩ := Kd.S_get HO_10.out z104 (mapAt x11_1 ((rd_T54 l0 x35_1).f0)) p113 (by first | exact q113 | exact zT zv | (have e_ := (Kd.S_reads' HO_10.out).1; omega)); obtain ⟨ve113_1, rfl, ge113_1⟩ := k104_openM hMe113; have hv113_1 := hcc113 1 _ rfl; rw [add_field _ _ 1 (by omega)] at hv113_1; replace hv113_1 := zS (hv113_1.symm.trans hx113_1); rw [hv113_1] at ge113_1; have HL113_1 := zM (show Kd.R k54 54 _ _ _ _ ((rd_T104 x10_1 (mapAt x11_1 ((rd_T54 l0 x35_1).f0))).f1) from ge113_1); clear hv113_1 ge113_1; clear hcc113 hce113; have HR113_1 := zM hi113_1; have HC113_1 := zM hl113_1; clear hi113_1 hl113_1; replace p113 := eq_true p113; replace q113 := eq_true q113) | ((with_reducible refine gate_dst (N := 64) rfl ?_); refine Kd.P_look (v := v102) (m := x11_1) (s := ((rd_T54 l0 x35_1).f0)) rfl rfl rfl rfl LMc14.out (Kd.P_below HO_11.out zg) ?_) | ((with_reducible refine gate_callee (f := 104) rfl ?_); refine goesL_ (some 90) rfl rfl Try.func104 (by kernel_rfl) rfl #[.slice A113_1 ((rd_T104 x10_1 (mapAt x11_1 ((rd_T54 l0 x35_1).f0))).f1).length c113_1, .slice A29 y109.length c29] rfl zl ?_; (with_reducible refine (api_Cell_104.calls k1 _ _ ((rd_T104 x10_1 (mapAt x11_1 ((rd_T54 l0 x35_1).f0))).f1) _ _ y109 false _ ?side1 ?side2 ?side3 ?side4 A18.out).mono ?_); (case side1 => repeat (first | exact (by repeat (first | (with_reducible exact HR113_1.out) | (with_reducible first | refine Kd.C_alloc ?_ _ | refine Kd.C_drewN ?_ _ | refine Kd.C_drew ?_) | exact HR113_1.out)) | (with_reducible first | refine Kd.C_alloc ?_ _ | refine Kd.C_drewN ?_ _ | refine Kd.C_drew ?_))); (case side2 => exact HC113_1.out); (case side3 => exact Kd.C_below (Kd.C_below HR112.out zb) zg); (case side4 => exact HC112.out); rintro e w' ⟨rfl, ⟨nd, rfl⟩⟩; refine ⟨_, rfl, ?_⟩))
               go_ret3
               exact ⟨_, zw, by first | exact Kd.S_nil _ _ _ _ _ | exact Kd.N_nil _ _ _ _ _ | exact Kd.V_nil _ _ _ _ _ | exact Kd.Q_nil _ _ _ _ _ | exact Kd.R_nil _ _ _ _ _, zb⟩
             ·
              rw [if_neg c17] at H
              exact absurd H (by simp)
            ·
             rw [if_neg c16] at H
             exact absurd H (by simp)
           ·
            rw [if_neg c15] at H
            have c15b0 : mapHas x11_1 ((rd_T54 l0 x35_1).f0) = false := by simpa using c15
            clear c15
            by_cases c32 : x11_1.length < 9223372036854775807 ∧ ((rd_T54 l0 x35_1).f0).size ≤ 9223372036854775807 ∧ 0 ≤ (x10_1.length : Int) ∧ (x10_1.length : Int) ≤ 9223372036854775807
            ·
             rw [if_pos c32] at H
             have LMc32 := zM c32
             clear c32
             obtain ⟨y115, hy115⟩ : ∃ y_ : List (S54), y_ = (mapPut x11_1 ((rd_T54 l0 x35_1).f0) (x10_1.length : Int)) := ⟨_, rfl⟩
             replace H : ((api_Cell_71.f y109).bind fun t118 => (if x10_1.length < 3518437208883 then (match_Match.l0 k1 l1 (x10_1 ++ [(⟨(rd_T54 l0 x35_1).f0, t118⟩ : S104)]) y115 (wrap64 (x12_1 + (y109.length : Int))) l0 (l0.length : Int) (wrap64 (x35_1 + 1))) else (none))) = some (r1, r2, r3) := by first | (rw [hy115]; with_reducible exact H) | (have H2_ := (Option.bind_some _ _).symm.trans H; rw [hy115]; with_reducible exact H2_) | (have H2_ := (Option.bind_some _ _).symm.trans H; with_reducible exact H2_) | with_reducible exact H | (rw [hy115]; exact H) | exact H
             have Ny115 := zM hy115
             clear hy115
             replace H := zB H
             obtain ⟨t118, A330, H⟩ := H
             try dsimp only at H
             have A33 := zM A330
             clear A330
             by_cases c34 : x10_1.length < 3518437208883
             ·
              rw [if_pos c34] at H
              have LMc34 := zM c34
              clear c34
              obtain ⟨y121, hy121⟩ : ∃ y_ : List (S104), y_ = (x10_1 ++ [(⟨(rd_T54 l0 x35_1).f0, t118⟩ : S104)]) := ⟨_, rfl⟩
              replace H : (match_Match.l0 k1 l1 y121 y115 (wrap64 (x12_1 + (y109.length : Int))) l0 (l0.length : Int) (wrap64 (x35_1 + 1))) = some (r1, r2, r3) := by first | (rw [hy121]; with_reducible exact H) | (have H2_ := (Option.bind_some _ _).symm.trans H; rw [hy121]; with_reducible exact H2_) | (have H2_ := (Option.bind_some _ _).symm.trans H; with_reducible exact H2_) | with_reducible exact H | (rw [hy121]; exact H) | exact H
              have Ny121 := zM hy121
              clear hy121
              have H' := zM H
              clear H
              have p104 : 0 ≤ (x35_1 : Int) := zT zv
              have q104 : x35_1 < (l0.length : Int) := zT zv
              obtain ⟨ad104, e104, hx104_0, hx104_1⟩ := at_T54 HR0.out x35_1 p104 q104
              cases e104
              replace hx104_0 := (HB.out.cell (World.block_lt_of_cell? w _ hx104_0)).trans hx104_0
              replace hx104_1 := (HB.out.cell (World.block_lt_of_cell? w _ hx104_1)).trans hx104_1
              replace p104 := eq_true p104
              replace q104 := eq_true q104
              try go_wp2_with (first | ((with_reducible refine gate_dst (N := 14) rfl ?_); refine box_event ?hg (N := 14) ?hd (cs := #[.string (⟨#[]⟩ : ByteArray), .int .i64 0]) (t := 54) ?hr ?_; (case hd => rfl); (case hg => rfl); (case hr => first | (go_simp; done) | (go_simp; rfl)); intro gb105 hg w35 hbox hb; replace HO_10 := zM (Kd.S_below (Kd.S_elderB (Kd.S_below HO_10.out zg) gb105 (Nat.le_of_eq hg.symm)) hb); replace HO_11 := zM (Kd.P_below (Kd.P_below HO_11.out zg) hb); have BK105 := zM (hbox); have GW105 := zM (zh hg : w.heap.size ≤ gb105); have GE105 := zM (zh hg : w.heap.size ≤ gb105); replace HB := zM (below_step zb hb); clear hb hbox hg; have hcz36_0 : w35.cell? ⟨gb105, 0, none⟩ = some (.string (⟨#[]⟩ : ByteArray)) := (zX BK105.out 0).trans rfl; have hcz36_1 : w35.cell? ⟨gb105, 1, none⟩ = some (.int .i64 0) := (zX BK105.out 1).trans rfl; have hfz36_0 := zY BK105.out 0; have hfz36_1 := zY BK105.out 1) | ((with_reducible refine gate_callee (f := 102) rfl ?_); refine goesL_ (some 40) rfl rfl Try.func102 (by kernel_rfl) rfl #[.agg #[.string ((rd_T54 l0 x35_1).f0), .int .i64 ((rd_T54 l0 x35_1).f1)]] rfl zl ?_; (with_reducible refine (match_variable.calls k1 ((rd_T54 l0 x35_1).f0) ((rd_T54 l0 x35_1).f1) true _ A8.out).mono ?_); rintro e w37 ⟨rfl, hb⟩; refine ⟨_, rfl, ?_⟩; replace HO_10 := zM (Kd.S_below (by (with_reducible repeat (first | apply Kd.S_alloc | apply Kd.S_drewN | apply Kd.S_drew)); exact (Kd.S_mono (Kd.S_far (p := ⟨gb105, 1, none⟩) (Kd.S_far (p := ⟨gb105, 0, none⟩) (Kd.S_mono HO_10.out (fun k_ hk => (⟨hk, hk.2⟩ : _ ∧ k_ ≠ gb105))) (fun _ hk => hk.2) (.string ((rd_T54 l0 x35_1).f0))) (fun _ hk => hk.2) (.int .i64 ((rd_T54 l0 x35_1).f1))) (fun _ h_ => h_.1))) hb); replace HO_11 := zM (Kd.P_below (by (with_reducible repeat (first | apply Kd.P_alloc | apply Kd.P_drewN | apply Kd.P_drew)); exact (Kd.P_mono (Kd.P_far (p := ⟨gb105, 1, none⟩) (Kd.P_far (p := ⟨gb105, 0, none⟩) (Kd.P_types HO_11.out BK105.out (by decide)) (fun _ hk => hk.2) (.string ((rd_T54 l0 x35_1).f0))) (fun _ hk => hk.2) (.int .i64 ((rd_T54 l0 x35_1).f1))) (fun _ h_ => h_.1))) hb); replace BK105 := zM (blk_below (g := gb105) (o := .cells #[.string ((rd_T54 l0 x35_1).f0), .int .i64 ((rd_T54 l0 x35_1).f1)] 54 (0, 0)) (by refine zk ?_; refine blk_put (cs := #[.string ((rd_T54 l0 x35_1).f0), .int .i64 0]) ?_ 1 _ rfl; refine zk ?_; refine blk_put (cs := #[.string (⟨#[]⟩ : ByteArray), .int .i64 0]) ?_ 0 _ rfl; refine zk ?_; exact BK105.out) hb); replace HB := zM (below_step zb hb); (try clear hb)) | ((with_reducible refine gate_callee (f := 103) rfl ?_); refine goesL_ (some 54) rfl rfl Try.func103 (by kernel_rfl) rfl #[.slice A1 l1.length c1, .int .i64 x12_1] rfl zl ?_; (with_reducible refine (match_end.calls k1 _ _ l1 x12_1 t108 _ ?side1 ?side2 A10.out).mono ?_); (case side1 => exact Kd.C_below HR1.out zb); (case side2 => exact HC1.out); rintro e w' ⟨rfl, ⟨nd, rfl⟩⟩; refine ⟨_, rfl, ?_⟩; have q38 : (t108 : Int) ≤ ((l1.length : Int) : Int) := zT zv; obtain ⟨i038, hi038, _, hsz38, _⟩ := info_parts info54; have hroom38 : l1.length ≤ c1 := HC1.out; have hC38 : Kd.C k54 _ A1 l1.length l1 := HR1.out; have ql38 : (x12_1 : Int) ≤ (t108 : Int) := zT zv; have q038 : (0 : Int) ≤ (x12_1 : Int) := zT zv; have hcut38 := cut_mid (P := Try.prog) 23 54 .i64 .i64 Try.underlying23 hi038 2 hsz38 A1 l1.length c1 x12_1 t108 q038 ql38 q38 hroom38; have hr38 := Kd.C_mid (lo := (x12_1 : Int).toNat) (hi := (t108 : Int).toNat) (c := c1) hC38 (by omega) (by omega) hroom38; obtain ⟨A38, hA38⟩ : ∃ Aq_, Aq_ = (if c1 = (x12_1 : Int).toNat then A1 else (A1 : Option Addr).map (·.add ((x12_1 : Int).toNat * 2))) := ⟨_, rfl⟩; obtain ⟨c38, hc38⟩ : ∃ cq_, cq_ = c1 - (x12_1 : Int).toNat := ⟨_, rfl⟩; have hy38 : y109.length = (t108 : Int).toNat - (x12_1 : Int).toNat := (by rw [Ny109.out, List.length_drop, List.length_take] <;> omega); rw [show ((l1).take (t108 : Int).toNat).drop (x12_1 : Int).toNat = y109 from Ny109.out.symm] at hr38; replace hr38 : Kd.C k54 _ A38 y109.length y109 := (by rw [hA38]; exact hr38); rw [← hy38, ← hA38, ← hc38] at hcut38; have HR112 := zM hr38; have HC112 := zM (show y109.length ≤ c38 from by rw [hy38, hc38]; exact Nat.sub_le_sub_right (Nat.le_trans (by omega) hroom38) _); clear hr38 hC38 hroom38 hi038 hsz38 hc38; have KY38 := zM hy38; have KA38 := zM hA38; clear hy38 hA38; replace q38 := eq_true q38; have hcz39_0 : w37.cell? ⟨gb105, 0, none⟩ = some (.string ((rd_T54 l0 x35_1).f0)) := (zX BK105.out 0).trans rfl; have hcz39_1 : w37.cell? ⟨gb105, 1, none⟩ = some (.int .i64 ((rd_T54 l0 x35_1).f1)) := (zX BK105.out 1).trans rfl; have hfz39_0 := zY BK105.out 0; have hfz39_1 := zY BK105.out 1; obtain ⟨Ao40, co40, eo40⟩ := Kd.S_slice HO_10.out; subst eo40) | ((with_reducible refine gate_dst (N := 64) rfl ?_); refine Kd.P_look (v := v102) (m := x11_1) (s := ((rd_T54 l0 x35_1).f0)) rfl rfl rfl rfl LMc14.out (Kd.P_below HO_11.out zg) ?_) | (at_mapUpdate; refine Kd.P_put (v := v102) (m := x11_1) (s := ((rd_T54 l0 x35_1).f0)) (n := (x10_1.length : Int)) rfl rfl rfl rfl rfl LMc32.out (Kd.P_below HO_11.out zg) ?_; intro w41 ho hm; rw [← Ny115.out] at ho; replace HO_10 := zM (Kd.S_mapped (Kd.S_below HO_10.out zg) hm); replace BK105 := zM (blk_mapped (g := gb105) (o := .cells #[.string ((rd_T54 l0 x35_1).f0), .int .i64 ((rd_T54 l0 x35_1).f1)] 54 (0, 0)) (zk BK105.out) hm); replace HB := zM (below_mapped zb hm); replace HO_11 := zM (ho); clear ho hm))
              have n0_ := zM (Kd.S_drew HO_10.out)
              have n1_ := zM (Kd.P_drew HO_11.out)
              have n2_ := zM (blk_drew BK105.out)
              have n3_ := zM (zD HB.out)
              clear HO_10
              clear HO_11
              clear BK105
              clear HB
              have HO_10 := n0_
              have HO_11 := n1_
              have BK105 := n2_
              have HB := n3_
              clear n0_ n1_ n2_ n3_
              refine start_ (n := 9) (S := fun w' => w'.cell? ⟨gb105, 0, none⟩ = some (.string ((rd_T54 l0 x35_1).f0)) ∧ w'.cell? ⟨gb105, 1, none⟩ = some (.int .i64 ((rd_T54 l0 x35_1).f1))) (ds := []) #[false, false, false, false, false, false, false, false, false] (by kernel_rfl) rfl rfl ⟨(zX BK105.out 0).trans rfl, (zX BK105.out 1).trans rfl⟩ (fun hHeld => ?_); refine with_tabW match_Match.tab23 match_Match.bits23 (fun HT_ HW_ => ?_)
              generalize w41.drew = w42 at HO_10 HO_11 BK105 HB hHeld ⊢
              refine pure_ (i := 0) (N := some 75) (v := ?_) (a' := ?_) #[true, false, false, false, false, false, false, false, false] rfl rfl (any_of HT_.out (by kernel_rfl)) (fun _ _ _ h => h) (Or.inl ⟨by rfl, ?_⟩) ?_ ?_
              rotate_left
              ·
               intro w'
               go_simp
               with_reducible rfl
              rotate_left
              ·
               simp only [Act.put, zp1, zp2, zp3, i64_w, i32_w]
               rfl
              refine pure_ (i := 1) (N := some 76) (v := ?_) (a' := ?_) #[true, true, false, false, false, false, false, false, false] rfl rfl (any_of HT_.out (by kernel_rfl)) (fun _ _ _ h => h) (Or.inl ⟨by rfl, ?_⟩) ?_ ?_
              rotate_left
              ·
               intro w'
               go_simp
               with_reducible rfl
              rotate_left
              ·
               simp only [Act.put, zp1, zp2, zp3, i64_w, i32_w]
               rfl
              refine pure_ (i := 3) (N := some 78) (v := ?_) (a' := ?_) #[true, true, false, true, false, false, false, false, false] rfl rfl (any_of HT_.out (by kernel_rfl)) (fun _ _ _ h => h) (Or.inl ⟨by rfl, ?_⟩) ?_ ?_
              rotate_left
              ·
               intro w'
               go_simp
               with_reducible rfl
              rotate_left
              ·
               simp only [Act.put, zp1, zp2, zp3, i64_w, i32_w]
               rfl
              refine take_ (i := 2) (N := some 77) (v := ?_) (a' := ?_) #[true, true, true, true, false, false, false, false, false] rfl rfl (take_ofW HT_.out HW_.out (by kernel_rfl)) (fun _ _ _ h => h) (Or.inl ⟨by rfl, ?_⟩) hHeld ?_ ?_
              rotate_left
              ·
               rintro w' ⟨s0, s1⟩
               go_simp
               with_reducible rfl
              rotate_left
              ·
               simp only [Act.put, zp1, zp2, zp3, i64_w, i32_w]
               rfl
              refine one_ (i := 4) (N := some 79) #[true, true, true, true, true, false, false, false, false] rfl rfl (one_of HT_.out (by kernel_rfl)) (by decide) (fun K hK => ?_)
              refine goes_ Try.func71 (by kernel_rfl) rfl #[.slice A38 y109.length c38] (by rfl) rfl rfl zl ?_
              with_reducible refine (api_Cell_71.calls _ _ y109 t118 _ ?side1 ?side2 A33.out).mono ?_
              (case side1 => exact Kd.C_below HR112.out zb)
              (case side2 => exact HC112.out)
              rintro e w43 ⟨v119, rfl, ho0, hb⟩
              refine ⟨_, rfl, ?_⟩
              have n0_ := zM (Kd.S_elder' (Kd.S_below HO_10.out zg) (Kd.R_base ho0) hb)
              have n1_ := zM (Kd.P_below (Kd.P_below HO_11.out zg) hb)
              have n2_ := zM (Kd.R_lower (Kd.R_newB ho0 (g := gb105) (o := .cells #[.string ((rd_T54 l0 x35_1).f0), .int .i64 ((rd_T54 l0 x35_1).f1)] 54 (0, 0)) (zk BK105.out)) (below_size zb))
              have n3_ := zM (blk_below (g := gb105) (o := .cells #[.string ((rd_T54 l0 x35_1).f0), .int .i64 ((rd_T54 l0 x35_1).f1)] 54 (0, 0)) (zk BK105.out) hb)
              have n4_ := zM (below_step zb hb)
              clear HO_10
              clear HO_11
              clear BK105
              clear HB
              have HO_10 := n0_
              have HO_11 := n1_
              have HO120 := n2_
              have BK105 := n3_
              have HB := n4_
              clear n0_ n1_ n2_ n3_ n4_
              (try clear hb)
              (try clear hb2)
              (try clear hk)
              (try clear hi)
              (try clear ho0)
              obtain ⟨Ao44, co44, eo44⟩ := Kd.R_slice HO120.out
              (first | subst eo44 | (injection eo44 with f1_ f2_ f3_; have f4_ := f1_.symm; have f5_ := f3_.symm; clear f1_ f2_ f3_; subst f4_; subst f5_))
              refine hK.out _ _ ⟨(zX BK105.out 0).trans rfl, (zX BK105.out 1).trans rfl⟩ (fun hHeld => ?_)
              clear hK K
              refine norm_ (a' := ?_) ?_ ?_
              rotate_left
              ·
               show Act.put _ (some 79) _ = _
               simp only [Act.put, zp1, zp2, zp3, i64_w, i32_w]
               rfl
              refine pure_ (i := 5) (N := some 80) (v := ?_) (a' := ?_) #[true, true, true, true, true, true, false, false, false] rfl rfl (any_of HT_.out (by kernel_rfl)) (fun _ _ _ h => h) (Or.inl ⟨by rfl, ?_⟩) ?_ ?_
              rotate_left
              ·
               intro w'
               go_simp
               with_reducible rfl
              rotate_left
              ·
               simp only [Act.put, zp1, zp2, zp3, i64_w, i32_w]
               rfl
              refine one_ (i := 6) (N := some 81) #[true, true, true, true, true, true, true, false, false] rfl rfl (one_of HT_.out (by kernel_rfl)) (by decide) (fun K hK => ?_)
              refine value_ (w1 := ?_) (v := ?_) (by rfl) rfl ?_ ?_
              rotate_left 2
              ·
               go_simp
               constructor
               ·
                rfl
               ·
                rfl
              refine hK.out _ _ ⟨(zX (blk_alloc BK105.out _) 0).trans rfl, (zX (blk_alloc BK105.out _) 1).trans rfl⟩ (fun hHeld => ?_)
              clear hK K
              refine norm_ (a' := ?_) ?_ ?_
              rotate_left
              ·
               show Act.put _ (some 81) _ = _
               simp only [Act.put, zp1, zp2, zp3, i64_w, i32_w]
               rfl
              refine one_ (i := 7) (N := some 82) #[true, true, true, true, true, true, true, true, false] rfl rfl (one_of HT_.out (by kernel_rfl)) (by decide) (fun K hK => ?_)
              refine Kd.S_append_step k104 (w0 := w) w.heap.size (by rfl) (.tmp 75) (.tmp 81) 100 104 (.agg #[(.string ⟨#[]⟩), (.slice none 0 0)]) 40 rfl Try.underlying100 info104 rfl (by decide) (by omega) (.slice Ao40 x10_1.length co40) x10_1 (⟨(rd_T54 l0 x35_1).f0, t118⟩ : S104) [.string ((rd_T54 l0 x35_1).f0), .slice Ao44 t118.length co44] (fun k_ => k_ ≠ gb105) (fun k_ => some k_ = (.slice Ao44 t118.length co44 : Value).ownBlock) rfl rfl ?aP (fun k_ hk_ => ((Kd.R_mono (ok' := fun k_ => ((fun k_ => k_ ≠ gb105)) k_ ∧ some k_ ≠ (.slice Ao40 x10_1.length co40 : Value).ownBlock) (Kd.R_apart' (HO120.out) (Kd.S_typed HO_10.out) (by decide)) (fun k_ hk => ⟨hk.1.2, hk.2⟩))).1 k_ hk_.symm) ?aF ?aO ?aB ?aS ?aL ?_
              (case aP => exact k104_mkM _ _ _ (⟨(rd_T54 l0 x35_1).f0, t118⟩ : S104) (Kd.R_mono (Kd.R_tight rfl (Kd.R_mono (ok' := fun k_ => ((fun k_ => k_ ≠ gb105)) k_ ∧ some k_ ≠ (.slice Ao40 x10_1.length co40 : Value).ownBlock) (Kd.R_apart' (HO120.out) (Kd.S_typed HO_10.out) (by decide)) (fun k_ hk => ⟨hk.1.2, hk.2⟩))) (fun _ h_ => h_)))
              (case aB => exact zb)
              (case aF => exact (fun k_ hk => Kd.freshB (g := gb105) (o := .cells #[.string ((rd_T54 l0 x35_1).f0), .int .i64 ((rd_T54 l0 x35_1).f1)] 54 (0, 0)) (zk BK105.out) k_ hk))
              (case aO => exact (by (with_reducible repeat (first | apply Kd.S_alloc | apply Kd.S_drewN | apply Kd.S_drew)); exact Kd.S_mono HO_10.out (fun k_ hk => ⟨hk.1.2, fun e_ => hk.2 e_⟩)))
              (case aS => exact (below_size zb))
              (case aL => have := LMc34.out; omega)
              intro v122 w45 ho hb hg hat
              rw [← Ny121.out] at ho
              have n0_ := zM (blk_grown (g := gb105) (o := .cells #[.string ((rd_T54 l0 x35_1).f0), .int .i64 ((rd_T54 l0 x35_1).f1)] 54 (0, 0)) (zk BK105.out) hg (Kd.S_ne HO_10.out BK105.out (by decide)))
              have n1_ := zM (Kd.P_over' (Kd.P_below HO_11.out zg) (Kd.S_typed (Kd.S_below HO_10.out zg)) (by decide) hg)
              have n2_ := zM (hb)
              have n3_ := zM (ho)
              clear BK105
              clear HO_11
              clear HB
              clear HO_10
              clear HO120
              have BK105 := n0_
              have HO_11 := n1_
              have HB := n2_
              have HO123 := n3_
              clear n0_ n1_ n2_ n3_
              clear ho hb hg hat
              refine hK.out _ _ ⟨(zX BK105.out 0).trans rfl, (zX BK105.out 1).trans rfl⟩ (fun hHeld => ?_)
              clear hK K
              refine norm_ (a' := ?_) ?_ ?_
              rotate_left
              ·
               show Act.put _ (some 82) _ = _
               simp only [Act.put, zp1, zp2, zp3, i64_w, i32_w]
               rfl
              refine pure_ (i := 8) (N := some 10) (v := ?_) (a' := ?_) #[true, true, true, true, true, true, true, true, true] rfl rfl (any_of HT_.out (by kernel_rfl)) (fun _ _ _ h => h) (Or.inl ⟨by rfl, ?_⟩) ?_ ?_
              rotate_left
              ·
               intro w'
               go_simp
               with_reducible rfl
              rotate_left
              ·
               simp only [Act.put, zp1, zp2, zp3, i64_w, i32_w]
               rfl
              refine done_ (done_of HT_.out (by kernel_rfl)) ?_
              try go_wp2
              go_roundg k1
              case measure => have := HK1.out; omega
              case rel => exact ⟨(y121), (y115), (wrap64 (x12_1 + (y109.length : Int))), (wrap64 (x35_1 + 1)), zy, zy, H', ⟨by have := HK1.out; omega⟩, ⟨by (with_reducible repeat (first | apply Kd.S_alloc | apply Kd.S_drewN | apply Kd.S_drew)); exact Kd.S_mono HO123.out (fun _ hk => trivial)⟩, ⟨Kd.P_below HO_11.out zg⟩, ⟨zb⟩⟩
             ·
              rw [if_neg c34] at H
              exact absurd H (by simp)
            ·
             rw [if_neg c32] at H
             exact absurd H (by simp)
          ·
           rw [if_neg c14] at H
           exact absurd H (by simp)
         ·
          rw [if_neg c13] at H
          exact absurd H (by simp)
        ·
         rw [if_neg c12] at H
         exact absurd H (by simp)
       ·
        rw [if_neg c11] at H
        exact absurd H (by simp)
      ·
       replace c9 := zI c9
       subst c9
       rw [if_neg (show ¬ (false = true) by decide)] at H
       by_cases c46 : 0 ≤ x12_1
       ·
        rw [if_pos c46] at H
        have c46b0 : decide (0 ≤ x12_1) = true := zQ c46
        clear c46
        by_cases c47 : x12_1 < (l1.length : Int)
        ·
         rw [if_pos c47] at H
         have c47b0 : decide (x12_1 < (l1.length : Int)) = true := zQ c47
         clear c47
         by_cases c48 : (!((((rd_T54 l1 x12_1).f0).toList) == (((rd_T54 l0 x35_1).f0).toList)) || (!(((rd_T54 l1 x12_1).f1) == ((rd_T54 l0 x35_1).f1)))) = true
         ·
          rw [if_pos c48] at H
          have c48b0 : (!((((rd_T54 l1 x12_1).f0).toList) == (((rd_T54 l0 x35_1).f0).toList)) || (!(((rd_T54 l1 x12_1).f1) == ((rd_T54 l0 x35_1).f1)))) = true := c48
          clear c48
          simp only [Option.some.injEq, Prod.mk.injEq] at H
          obtain ⟨rfl, rfl, rfl⟩ := H
          have p104 : 0 ≤ (x35_1 : Int) := zT zv
          have q104 : x35_1 < (l0.length : Int) := zT zv
          obtain ⟨ad104, e104, hx104_0, hx104_1⟩ := at_T54 HR0.out x35_1 p104 q104
          cases e104
          replace hx104_0 := (HB.out.cell (World.block_lt_of_cell? w _ hx104_0)).trans hx104_0
          replace hx104_1 := (HB.out.cell (World.block_lt_of_cell? w _ hx104_1)).trans hx104_1
          replace p104 := eq_true p104
          replace q104 := eq_true q104
          try go_wp2_with (first | ((with_reducible refine gate_dst (N := 14) rfl ?_); refine box_event ?hg (N := 14) ?hd (cs := #[.string (⟨#[]⟩ : ByteArray), .int .i64 0]) (t := 54) ?hr ?_; (case hd => rfl); (case hg => rfl); (case hr => first | (go_simp; done) | (go_simp; rfl)); intro gb105 hg w49 hbox hb; replace HO_10 := zM (Kd.S_below (Kd.S_elderB (Kd.S_below HO_10.out zg) gb105 (Nat.le_of_eq hg.symm)) hb); replace HO_11 := zM (Kd.P_below (Kd.P_below HO_11.out zg) hb); have BK105 := zM (hbox); have GW105 := zM (zh hg : w.heap.size ≤ gb105); have GE105 := zM (zh hg : w.heap.size ≤ gb105); replace HB := zM (below_step zb hb); clear hb hbox hg; have hcz50_0 : w49.cell? ⟨gb105, 0, none⟩ = some (.string (⟨#[]⟩ : ByteArray)) := (zX BK105.out 0).trans rfl; have hcz50_1 : w49.cell? ⟨gb105, 1, none⟩ = some (.int .i64 0) := (zX BK105.out 1).trans rfl; have hfz50_0 := zY BK105.out 0; have hfz50_1 := zY BK105.out 1) | ((with_reducible refine gate_callee (f := 102) rfl ?_); refine goesL_ (some 40) rfl rfl Try.func102 (by kernel_rfl) rfl #[.agg #[.string ((rd_T54 l0 x35_1).f0), .int .i64 ((rd_T54 l0 x35_1).f1)]] rfl zl ?_; (with_reducible refine (match_variable.calls k1 ((rd_T54 l0 x35_1).f0) ((rd_T54 l0 x35_1).f1) false _ A8.out).mono ?_); rintro e w51 ⟨rfl, hb⟩; refine ⟨_, rfl, ?_⟩; replace HO_10 := zM (Kd.S_below (by (with_reducible repeat (first | apply Kd.S_alloc | apply Kd.S_drewN | apply Kd.S_drew)); exact (Kd.S_mono (Kd.S_far (p := ⟨gb105, 1, none⟩) (Kd.S_far (p := ⟨gb105, 0, none⟩) (Kd.S_mono HO_10.out (fun k_ hk => (⟨hk, hk.2⟩ : _ ∧ k_ ≠ gb105))) (fun _ hk => hk.2) (.string ((rd_T54 l0 x35_1).f0))) (fun _ hk => hk.2) (.int .i64 ((rd_T54 l0 x35_1).f1))) (fun _ h_ => h_.1))) hb); replace HO_11 := zM (Kd.P_below (by (with_reducible repeat (first | apply Kd.P_alloc | apply Kd.P_drewN | apply Kd.P_drew)); exact (Kd.P_mono (Kd.P_far (p := ⟨gb105, 1, none⟩) (Kd.P_far (p := ⟨gb105, 0, none⟩) (Kd.P_types HO_11.out BK105.out (by decide)) (fun _ hk => hk.2) (.string ((rd_T54 l0 x35_1).f0))) (fun _ hk => hk.2) (.int .i64 ((rd_T54 l0 x35_1).f1))) (fun _ h_ => h_.1))) hb); replace BK105 := zM (blk_below (g := gb105) (o := .cells #[.string ((rd_T54 l0 x35_1).f0), .int .i64 ((rd_T54 l0 x35_1).f1)] 54 (0, 0)) (by refine zk ?_; refine blk_put (cs := #[.string ((rd_T54 l0 x35_1).f0), .int .i64 0]) ?_ 1 _ rfl; refine zk ?_; refine blk_put (cs := #[.string (⟨#[]⟩ : ByteArray), .int .i64 0]) ?_ 0 _ rfl; refine zk ?_; exact BK105.out) hb); replace HB := zM (below_step zb hb); (try clear hb)))
          have n0_ := zM (Kd.S_drew HO_10.out)
          have n1_ := zM (Kd.P_drew HO_11.out)
          have n2_ := zM (blk_drew BK105.out)
          have n3_ := zM (zD HB.out)
          clear HO_10
          clear HO_11
          clear BK105
          clear HB
          have HO_10 := n0_
          have HO_11 := n1_
          have BK105 := n2_
          have HB := n3_
          clear n0_ n1_ n2_ n3_
          have p107 : 0 ≤ (x12_1 : Int) := zT zv
          have q107 : x12_1 < (l1.length : Int) := zT zv
          obtain ⟨ad107, e107, hx107_0, hx107_1⟩ := at_T54 HR1.out x12_1 p107 q107
          have hw107_1 := hx107_1
          have hw107_0 := hx107_0
          cases e107
          replace hx107_0 := (HB.out.cell (World.block_lt_of_cell? w _ hx107_0)).trans hx107_0
          replace hx107_1 := (HB.out.cell (World.block_lt_of_cell? w _ hx107_1)).trans hx107_1
          replace p107 := eq_true p107
          replace q107 := eq_true q107
          refine start_ (n := 6) (S := fun w' => w'.cell? ⟨gb105, 0, none⟩ = some (.string ((rd_T54 l0 x35_1).f0)) ∧ w'.cell? ⟨gb105, 1, none⟩ = some (.int .i64 ((rd_T54 l0 x35_1).f1)) ∧ w'.cell? (ad107.add ((x12_1).toNat * 2)) = some (.string ((rd_T54 l1 x12_1).f0)) ∧ w'.cell? ⟨(ad107.add ((x12_1).toNat * 2)).block, (ad107.add ((x12_1).toNat * 2)).off + 1, none⟩ = some (.int .i64 ((rd_T54 l1 x12_1).f1))) (ds := []) #[false, false, false, false, false, false] (by kernel_rfl) rfl rfl ⟨(zX BK105.out 0).trans rfl, (zX BK105.out 1).trans rfl, ((HB.out.cell (World.block_lt_of_cell? w _ hw107_0)).trans hw107_0), ((HB.out.cell (World.block_lt_of_cell? w _ hw107_1)).trans hw107_1)⟩ (fun hHeld => ?_)
          generalize w51.drew = w52 at HO_10 HO_11 BK105 HB hx107_0 hx107_1 hHeld ⊢
          refine pure_ (i := 0) (N := some 42) (v := ?_) (a' := ?_) #[true, false, false, false, false, false] rfl rfl (by kernel_rfl) (fun _ _ _ h => h) (Or.inl ⟨by rfl, ?_⟩) ?_ ?_
          rotate_left
          ·
           intro w'
           go_simp
           with_reducible rfl
          rotate_left
          ·
           simp only [Act.put, zp1, zp2, zp3, i64_w, i32_w]
           rfl
          refine pure_ (i := 1) (N := some 43) (v := ?_) (a' := ?_) #[true, true, false, false, false, false] rfl rfl (by kernel_rfl) (fun _ _ _ h => h) (Or.inl ⟨by rfl, ?_⟩) ?_ ?_
          rotate_left
          ·
           intro w'
           go_simp
           with_reducible rfl
          rotate_left
          ·
           simp only [Act.put, zp1, zp2, zp3, i64_w, i32_w]
           rfl
          refine pure_ (i := 2) (N := some 44) (v := ?_) (a' := ?_) #[true, true, true, false, false, false] rfl rfl (by kernel_rfl) (fun _ _ _ h => h) (Or.inl ⟨by rfl, ?_⟩) ?_ ?_
          rotate_left
          ·
           intro w'
           go_simp
           with_reducible rfl
          rotate_left
          ·
           simp only [Act.put, zp1, zp2, zp3, i64_w, i32_w]
           rfl
          refine take_ (i := 3) (N := some 45) (v := ?_) (a' := ?_) #[true, true, true, true, false, false] rfl rfl (by kernel_rfl) (fun _ _ _ h => h) (Or.inl ⟨by rfl, ?_⟩) hHeld ?_ ?_
          rotate_left
          ·
           rintro w' ⟨s0, s1, s2, s3⟩
           go_simp
           with_reducible rfl
          rotate_left
          ·
           simp only [Act.put, zp1, zp2, zp3, i64_w, i32_w]
           rfl
          refine take_ (i := 4) (N := some 46) (v := ?_) (a' := ?_) #[true, true, true, true, true, false] rfl rfl (by kernel_rfl) (fun _ _ _ h => h) (Or.inl ⟨by rfl, ?_⟩) hHeld ?_ ?_
          rotate_left
          ·
           rintro w' ⟨s0, s1, s2, s3⟩
           go_simp
           with_reducible rfl
          rotate_left
          ·
           simp only [Act.put, zp1, zp2, zp3, i64_w, i32_w]
           rfl
          refine pure_ (i := 5) (N := some 47) (v := ?_) (a' := ?_) #[true, true, true, true, true, true] rfl rfl (by kernel_rfl) (fun _ _ _ h => h) (Or.inl ⟨by rfl, ?_⟩) ?_ ?_
          rotate_left
          ·
           intro w'
           go_simp
           with_reducible rfl
          rotate_left
          ·
           simp only [Act.put, zp1, zp2, zp3, i64_w, i32_w]
           rfl
          refine done_ (by kernel_rfl) ?_
          try go_wp2
          go_ret3
          exact ⟨_, zw, by first | exact Kd.S_nil _ _ _ _ _ | exact Kd.N_nil _ _ _ _ _ | exact Kd.V_nil _ _ _ _ _ | exact Kd.Q_nil _ _ _ _ _ | exact Kd.R_nil _ _ _ _ _, zb⟩
         ·
          rw [if_neg c48] at H
          have c48b0 : (!((((rd_T54 l1 x12_1).f0).toList) == (((rd_T54 l0 x35_1).f0).toList)) || (!(((rd_T54 l1 x12_1).f1) == ((rd_T54 l0 x35_1).f1)))) = false := by simpa using c48
          clear c48
          have H' := zM H
          clear H
          have p104 : 0 ≤ (x35_1 : Int) := zT zv
          have q104 : x35_1 < (l0.length : Int) := zT zv
          obtain ⟨ad104, e104, hx104_0, hx104_1⟩ := at_T54 HR0.out x35_1 p104 q104
          cases e104
          replace hx104_0 := (HB.out.cell (World.block_lt_of_cell? w _ hx104_0)).trans hx104_0
          replace hx104_1 := (HB.out.cell (World.block_lt_of_cell? w _ hx104_1)).trans hx104_1
          replace p104 := eq_true p104
          replace q104 := eq_true q104
          try go_wp2_with (first | ((with_reducible refine gate_dst (N := 14) rfl ?_); refine box_event ?hg (N := 14) ?hd (cs := #[.string (⟨#[]⟩ : ByteArray), .int .i64 0]) (t := 54) ?hr ?_; (case hd => rfl); (case hg => rfl); (case hr => first | (go_simp; done) | (go_simp; rfl)); intro gb105 hg w53 hbox hb; replace HO_10 := zM (Kd.S_below (Kd.S_elderB (Kd.S_below HO_10.out zg) gb105 (Nat.le_of_eq hg.symm)) hb); replace HO_11 := zM (Kd.P_below (Kd.P_below HO_11.out zg) hb); have BK105 := zM (hbox); have GW105 := zM (zh hg : w.heap.size ≤ gb105); have GE105 := zM (zh hg : w.heap.size ≤ gb105); replace HB := zM (below_step zb hb); clear hb hbox hg; have hcz54_0 : w53.cell? ⟨gb105, 0, none⟩ = some (.string (⟨#[]⟩ : ByteArray)) := (zX BK105.out 0).trans rfl; have hcz54_1 : w53.cell? ⟨gb105, 1, none⟩ = some (.int .i64 0) := (zX BK105.out 1).trans rfl; have hfz54_0 := zY BK105.out 0; have hfz54_1 := zY BK105.out 1) | ((with_reducible refine gate_callee (f := 102) rfl ?_); refine goesL_ (some 40) rfl rfl Try.func102 (by kernel_rfl) rfl #[.agg #[.string ((rd_T54 l0 x35_1).f0), .int .i64 ((rd_T54 l0 x35_1).f1)]] rfl zl ?_; (with_reducible refine (match_variable.calls k1 ((rd_T54 l0 x35_1).f0) ((rd_T54 l0 x35_1).f1) false _ A8.out).mono ?_); rintro e w55 ⟨rfl, hb⟩; refine ⟨_, rfl, ?_⟩; replace HO_10 := zM (Kd.S_below (by (with_reducible repeat (first | apply Kd.S_alloc | apply Kd.S_drewN | apply Kd.S_drew)); exact (Kd.S_mono (Kd.S_far (p := ⟨gb105, 1, none⟩) (Kd.S_far (p := ⟨gb105, 0, none⟩) (Kd.S_mono HO_10.out (fun k_ hk => (⟨hk, hk.2⟩ : _ ∧ k_ ≠ gb105))) (fun _ hk => hk.2) (.string ((rd_T54 l0 x35_1).f0))) (fun _ hk => hk.2) (.int .i64 ((rd_T54 l0 x35_1).f1))) (fun _ h_ => h_.1))) hb); replace HO_11 := zM (Kd.P_below (by (with_reducible repeat (first | apply Kd.P_alloc | apply Kd.P_drewN | apply Kd.P_drew)); exact (Kd.P_mono (Kd.P_far (p := ⟨gb105, 1, none⟩) (Kd.P_far (p := ⟨gb105, 0, none⟩) (Kd.P_types HO_11.out BK105.out (by decide)) (fun _ hk => hk.2) (.string ((rd_T54 l0 x35_1).f0))) (fun _ hk => hk.2) (.int .i64 ((rd_T54 l0 x35_1).f1))) (fun _ h_ => h_.1))) hb); replace BK105 := zM (blk_below (g := gb105) (o := .cells #[.string ((rd_T54 l0 x35_1).f0), .int .i64 ((rd_T54 l0 x35_1).f1)] 54 (0, 0)) (by refine zk ?_; refine blk_put (cs := #[.string ((rd_T54 l0 x35_1).f0), .int .i64 0]) ?_ 1 _ rfl; refine zk ?_; refine blk_put (cs := #[.string (⟨#[]⟩ : ByteArray), .int .i64 0]) ?_ 0 _ rfl; refine zk ?_; exact BK105.out) hb); replace HB := zM (below_step zb hb); (try clear hb)))
          have n0_ := zM (Kd.S_drew HO_10.out)
          have n1_ := zM (Kd.P_drew HO_11.out)
          have n2_ := zM (blk_drew BK105.out)
          have n3_ := zM (zD HB.out)
          clear HO_10
          clear HO_11
          clear BK105
          clear HB
          have HO_10 := n0_
          have HO_11 := n1_
          have BK105 := n2_
          have HB := n3_
          clear n0_ n1_ n2_ n3_
          have p107 : 0 ≤ (x12_1 : Int) := zT zv
          have q107 : x12_1 < (l1.length : Int) := zT zv
          obtain ⟨ad107, e107, hx107_0, hx107_1⟩ := at_T54 HR1.out x12_1 p107 q107
          have hw107_1 := hx107_1
          have hw107_0 := hx107_0
          cases e107
          replace hx107_0 := (HB.out.cell (World.block_lt_of_cell? w _ hx107_0)).trans hx107_0
          replace hx107_1 := (HB.out.cell (World.block_lt_of_cell? w _ hx107_1)).trans hx107_1
          replace p107 := eq_true p107
          replace q107 := eq_true q107
          refine start_ (n := 6) (S := fun w' => w'.cell? ⟨gb105, 0, none⟩ = some (.string ((rd_T54 l0 x35_1).f0)) ∧ w'.cell? ⟨gb105, 1, none⟩ = some (.int .i64 ((rd_T54 l0 x35_1).f1)) ∧ w'.cell? (ad107.add ((x12_1).toNat * 2)) = some (.string ((rd_T54 l1 x12_1).f0)) ∧ w'.cell? ⟨(ad107.add ((x12_1).toNat * 2)).block, (ad107.add ((x12_1).toNat * 2)).off + 1, none⟩ = some (.int .i64 ((rd_T54 l1 x12_1).f1))) (ds := []) #[false, false, false, false, false, false] (by kernel_rfl) rfl rfl ⟨(zX BK105.out 0).trans rfl, (zX BK105.out 1).trans rfl, ((HB.out.cell (World.block_lt_of_cell? w _ hw107_0)).trans hw107_0), ((HB.out.cell (World.block_lt_of_cell? w _ hw107_1)).trans hw107_1)⟩ (fun hHeld => ?_)
          generalize w55.drew = w56 at HO_10 HO_11 BK105 HB hx107_0 hx107_1 hHeld ⊢
          refine pure_ (i := 0) (N := some 42) (v := ?_) (a' := ?_) #[true, false, false, false, false, false] rfl rfl (by kernel_rfl) (fun _ _ _ h => h) (Or.inl ⟨by rfl, ?_⟩) ?_ ?_
          rotate_left
          ·
           intro w'
           go_simp
           with_reducible rfl
          rotate_left
          ·
           simp only [Act.put, zp1, zp2, zp3, i64_w, i32_w]
           rfl
          refine pure_ (i := 1) (N := some 43) (v := ?_) (a' := ?_) #[true, true, false, false, false, false] rfl rfl (by kernel_rfl) (fun _ _ _ h => h) (Or.inl ⟨by rfl, ?_⟩) ?_ ?_
          rotate_left
          ·
           intro w'
           go_simp
           with_reducible rfl
          rotate_left
          ·
           simp only [Act.put, zp1, zp2, zp3, i64_w, i32_w]
           rfl
          refine pure_ (i := 2) (N := some 44) (v := ?_) (a' := ?_) #[true, true, true, false, false, false] rfl rfl (by kernel_rfl) (fun _ _ _ h => h) (Or.inl ⟨by rfl, ?_⟩) ?_ ?_
          rotate_left
          ·
           intro w'
           go_simp
           with_reducible rfl
          rotate_left
          ·
           simp only [Act.put, zp1, zp2, zp3, i64_w, i32_w]
           rfl
          refine take_ (i := 3) (N := some 45) (v := ?_) (a' := ?_) #[true, true, true, true, false, false] rfl rfl (by kernel_rfl) (fun _ _ _ h => h) (Or.inl ⟨by rfl, ?_⟩) hHeld ?_ ?_
          rotate_left
          ·
           rintro w' ⟨s0, s1, s2, s3⟩
           go_simp
           with_reducible rfl
          rotate_left
          ·
           simp only [Act.put, zp1, zp2, zp3, i64_w, i32_w]
           rfl
          refine take_ (i := 4) (N := some 46) (v := ?_) (a' := ?_) #[true, true, true, true, true, false] rfl rfl (by kernel_rfl) (fun _ _ _ h => h) (Or.inl ⟨by rfl, ?_⟩) hHeld ?_ ?_
          rotate_left
          ·
           rintro w' ⟨s0, s1, s2, s3⟩
           go_simp
           with_reducible rfl
          rotate_left
          ·
           simp only [Act.put, zp1, zp2, zp3, i64_w, i32_w]
           rfl
          refine pure_ (i := 5) (N := some 47) (v := ?_) (a' := ?_) #[true, true, true, true, true, true] rfl rfl (by kernel_rfl) (fun _ _ _ h => h) (Or.inl ⟨by rfl, ?_⟩) ?_ ?_
          rotate_left
          ·
           intro w'
           go_simp
           with_reducible rfl
          rotate_left
          ·
           simp only [Act.put, zp1, zp2, zp3, i64_w, i32_w]
           rfl
          refine done_ (by kernel_rfl) ?_
          try go_wp2
          go_roundg k1
          case measure => have := HK1.out; omega
          case rel => exact ⟨(x10_1), (x11_1), (wrap64 (x12_1 + 1)), (wrap64 (x35_1 + 1)), zy, zy, H', ⟨by have := HK1.out; omega⟩, ⟨by (with_reducible repeat (first | apply Kd.S_alloc | apply Kd.S_drewN | apply Kd.S_drew)); exact Kd.S_mono HO_10.out (fun _ hk => trivial)⟩, ⟨Kd.P_below HO_11.out zg⟩, ⟨zb⟩⟩
        ·
         rw [if_neg c47] at H
         exact absurd H (by simp)
       ·
        rw [if_neg c46] at H
        exact absurd H (by simp)
     ·
      rw [if_neg c7] at H
      exact absurd H (by simp)
    ·
     rw [if_neg c6] at H
     exact absurd H (by simp)
   ·
    rw [if_neg c5] at H
    have c5b0 : decide (x35_1 < (l0.length : Int)) = false := zR c5
    clear c5
    simp only [Option.some.injEq, Prod.mk.injEq] at H
    obtain ⟨rfl, rfl, rfl⟩ := H
    go_wp2
    go_ret3
    exact ⟨_, zw, Kd.S_below HO_10.out zg, zb⟩

end Go.Proofs.Ytdlkhpfgkghhmaa.P

-- ==== Rw9
namespace Go.Proofs.Ytdlkhpfgkghhmaa.P
open Go.RowKit Go.Proofs.YtdlkhpfgkghhmaaW.PrintWords Go.Proofs.YtdlkhpfgkghhmaaW.PrintLast Go.Proofs.YtdlkhpfgkghhmaaW.PrintMore
attribute [local go_sem high] eqA54
def sameCell (a b : S54) : Bool := a.f0.toList == b.f0.toList && (a.f1 == b.f1)
def fitsF (k : Nat) (node : List S54) : List S73 → Option (Option (S73 × List S104))
 | [] => some none
 | r :: u => if 0 < r.f1.length then (if sameCell (rd_T54 r.f1 0) (rd_T54 node 0) = true then ((match_Match.f k r.f1 node).bind fun m => if m.2.1 = true ∧ m.2.2 = 0 then some (some (r, m.1)) else fitsF k node u) else fitsF k node u) else none
def FitEnd (res : Option (S73 × List S104)) (w0 w : World) (e : Ending) (w' : World) : Prop :=
 match res with
 | none => e = .returned (.tuple #[.agg #[.int .i64 0, .slice none 0 0, .slice none 0 0], .slice none 0 0, .bool false])
 | some x => ∃ (A1 A2 : Option Addr) (c1 c2 : Nat) (vb : Value), e = .returned (.tuple #[.agg #[.int .i64 x.1.f0, .slice A1 x.1.f1.length c1, .slice A2 x.1.f2.length c2], vb, .bool true]) ∧ x.1.f2.length ≤ c2 ∧ Kd.C k54 w0 A2 x.1.f2.length x.1.f2 ∧ Kd.R k104 104 w' w.heap.size (fun _ => True) vb x.2
theorem set3_blk {W : World} {b t : Nat} {a1 a2 a3 : Value} (h : W.heap[b]? = some (.cells #[a1, a2, a3] t (0, 0))) (b1 b2 b3 : Value) :
 (((W.setCell ⟨b, 0, none⟩ b1).setCell ⟨b, 1, none⟩ b2).setCell ⟨b, 2, none⟩ b3).heap[b]? = some (.cells #[b1, b2, b3] t (0, 0)) := by
 refine blk_put (cs := #[b1, b2, a3]) ?_ 2 _ rfl
 refine blk_put (cs := #[b1, a2, a3]) ?_ 1 _ rfl
 exact blk_put (cs := #[a1, a2, a3]) h 0 _ rfl
theorem set3_below {B b : Nat} {w W : World} (h : Below B w W) (hb : B ≤ b) (b1 b2 b3 : Value) : Below B w (((W.setCell ⟨b, 0, none⟩ b1).setCell ⟨b, 1, none⟩ b2).setCell ⟨b, 2, none⟩ b3) :=
 ((h.setCell (p := ⟨b, 0, none⟩) hb _).setCell (p := ⟨b, 1, none⟩) hb _).setCell (p := ⟨b, 2, none⟩) hb _
theorem set3_R {α : Type} {d : Kd α} {e B b t : Nat} {ok : Nat → Prop} {W : World} {v : Value} {xs : List α} {cs : Array Value} (h : d.R e W B ok v xs) (hb : W.heap[b]? = some (.cells cs t (0, 0))) (ht : ∀ q, q ∈ e :: d.E → q ≠ t) (b1 b2 b3 : Value) :
 d.R e (((W.setCell ⟨b, 0, none⟩ b1).setCell ⟨b, 1, none⟩ b2).setCell ⟨b, 2, none⟩ b3) B ok v xs :=
 Kd.R_mono (Kd.R_far (p := ⟨b, 2, none⟩) (Kd.R_far (p := ⟨b, 1, none⟩) (Kd.R_far (p := ⟨b, 0, none⟩) (Kd.R_types h hb ht) (fun _ hk => hk.2) _) (fun _ hk => hk.2) _) (fun _ hk => hk.2) _) (fun _ hk => hk.1)
theorem fits_calls {g k cr cn : Nat} {w0 w : World} {vo vv vh tv : Value} {st fu : Int} {Ar An : Option Addr} {rules : List S73} {node : List S54} {res : Option (S73 × List S104)}
 (hb : w.heap[g]? = some (.cells #[vo, vv, .int .i64 st, vh, .slice Ar rules.length cr, tv, .int .i64 fu] 94 (0, 0))) (hr : Kd.C k73 w0 Ar rules.length rules) (hb0 : Below w0.heap.size w0 w) (hn : Kd.C k54 w An node.length node) (hn' : node.length ≤ cn) (hp : 0 < node.length) (hf : fitsF k node rules = some res) :
 Calls Try.prog 74 #[.pointer (some ⟨g, 0, none⟩), .slice An node.length cn] w fun e w' => FitEnd res w0 w e w' ∧ Below w.heap.size w w' := by
 have HR := Aside0.mk hr
 have HB0 := Aside0.mk hb0
 have HN := Aside0.mk hn
 have HF := Aside0.mk hf
 have HM := Aside0.mk (show (rules.length : Int) ≤ 9223372036854775807 by have := hr.2.1; omega)
 have hz1 := below_alloc (Below.refl w.heap.size w) (.cells #[.int .i64 0, .slice none 0 0, .slice none 0 0] 73)
 have hzb := heap_alloc_new w (.cells #[.int .i64 0, .slice none 0 0, .slice none 0 0] 73)
 have hm4 : (w.alloc (.cells #[.int .i64 0, .slice none 0 0, .slice none 0 0] 73)).cell? ⟨g, 4, none⟩ = some (.slice Ar rules.length cr) := pw_cell_below hz1 ((blk_cell hb 4).trans rfl)
 have HB := Aside0.mk hz1
 have HZ := Aside0.mk hzb
 clear hr hn hf hz1 hzb hb hb0
 go_enter Try.func74, Try.ntmps74
 go_wp2
 clear hm4
 go_loopg [17] rules.length (fun kq v17 w' => ∃ x : Int, v17 = .int .i64 x ∧ Aside0 (0 ≤ x ∧ x + kq = (rules.length : Int)) ∧ Aside0 (fitsF k node (rules.drop x.toNat) = some res) ∧ Aside0 (w'.heap[w.heap.size]? = some (.cells #[.int .i64 0, .slice none 0 0, .slice none 0 0] 73 (0, 0))) ∧ Aside0 (Below w.heap.size w w'))
 case atStart => exact ⟨0, rfl, ⟨by omega⟩, HF, HZ, HB⟩
 case round =>
  clear HF HZ HB
  obtain ⟨x, rfl, HX, HF, HZ, HB⟩ := hrel
  cases gk with
  | succ k1 =>
   have hi : 0 ≤ x ∧ x < (rules.length : Int) := by have := HX.out; omega
   obtain ⟨ad, A1, c1, A2, c2, rfl, hx0, hx1, hx2, l1, g1, l2, g2⟩ := at_T73 (Kd.C_below HR.out (below_step HB0.out HB.out)) x hi.1 hi.2
   have g2w : Kd.C k54 w0 A2 (rd_T73 rules x).f2.length (rd_T73 rules x).f2 := by
    obtain ⟨ad', A1', c1', A2', c2', he, y0, y1, y2, _, _, _, g2'⟩ := at_T73 HR.out x hi.1 hi.2
    injection he with he
    subst he
    have := pw_cell_below (below_step HB0.out HB.out) y2
    rw [hx2] at this
    injection this with this
    injection this with this _ _
    rw [this]
    exact g2'
   have hdr : rules.drop x.toNat = rd_T73 rules x :: rules.drop (x.toNat + 1) := by
    rw [List.drop_eq_getElem_cons (show x.toNat < rules.length by omega)]
    congr 1
    simp [rd_T73, List.getD_eq_getElem?_getD, show x.toNat < rules.length by omega]
   have hf := HF.out
   rw [hdr, fitsF] at hf
   generalize rd_T73 rules x = r at hx0 hx1 hx2 l1 g1 l2 g2 g2w hf
   by_cases h0 : 0 < r.f1.length
   case neg => rw [if_neg h0] at hf; cases hf
   rw [if_pos h0] at hf
   have hb0 : decide (x < (rules.length : Int)) = true := decide_eq_true hi.2
   have hpp := eq_true hi.1
   have hqq := eq_true hi.2
   have HXI := Aside0.mk hi
   obtain ⟨al, rfl, hl0, hl1⟩ := at_T54 g1 0 (by omega) (by omega)
   obtain ⟨an, rfl, hn0, hn1⟩ := at_T54 (Kd.C_below HN.out HB.out) 0 (by omega) (by omega)
   rw [show ((0 : Int)).toNat * 2 = 0 from rfl, Addr.add_zero'] at hl0 hl1 hn0 hn1
   have HG1 := Aside0.mk (And.intro l1 g1)
   have HG2 := Aside0.mk (And.intro l2 g2w)
   have HHF := Aside0.mk hf
   have HN2 := Aside0.mk (show Kd.C k54 wr (some an) node.length node from Kd.C_below HN.out HB.out)
   have hp0 := eq_true h0
   have hp1 := eq_true hp
   have hp2 : (0 < (r.f1.length : Int)) = True := eq_true (by omega)
   have hp3 : (0 < (node.length : Int)) = True := eq_true (by omega)
   have hbw := below_alloc (Below.refl wr.heap.size wr) (.cells #[.int .i64 r.f0, .slice (some al) r.f1.length c1, .slice A2 r.f2.length c2] 73)
   have hlw := pw_cell_below hbw hl0
   have hlw1 := pw_cell_below hbw hl1
   have hnw := pw_cell_below hbw hn0
   have hnw1 := pw_cell_below hbw hn1
   have hk := heap_alloc_new wr (.cells #[.int .i64 r.f0, .slice (some al) r.f1.length c1, .slice A2 r.f2.length c2] 73)
   have hr1 := (blk_cell hk 1).trans rfl
   have HBW := Aside0.mk (Below.refl wr.heap.size wr)
   clear hdr hf hi h0 l1 g1 l2 g2 g2w hl0 hl1 hn0 hn1 hbw hk
   by_cases hs : sameCell (rd_T54 r.f1 0) (rd_T54 node 0) = true
   ·
    have hs2 : ((rd_T54 r.f1 0).f0.toList == (rd_T54 node 0).f0.toList && (rd_T54 r.f1 0).f1 == (rd_T54 node 0).f1) = true := hs
    generalize rd_T54 r.f1 0 = ca at hlw hlw1 hs hs2 HHF
    generalize rd_T54 node 0 = cb at hnw hnw1 hs hs2 HHF
    have hf := HHF.out
    rw [if_pos hs] at hf
    obtain ⟨⟨m1, m2, m3⟩, hmm, hf⟩ := Option.bind_eq_some_iff.mp hf
    simp only at hf
    have M1 := fun (W : World) (hW : Below wr.heap.size wr W) => match_Match.calls k (some al) c1 r.f1 (some an) cn node m1 m2 m3 W (Kd.C_below HG1.out.2 hW) HG1.out.1 (Kd.C_below HN2.out hW) hn' hmm
    clear hmm hs
    by_cases hm : m2 = true ∧ m3 = 0
    ·
     rw [if_pos hm] at hf
     obtain ⟨rfl, rfl⟩ := hm
     obtain rfl := Option.some.inj hf
     clear hf HHF HF
     go_upto_region 4 with fail
     go_region
     go_wp2_with (first | (go_at_call 92; (with_reducible refine (M1 _ ?side1).mono ?_); (case side1 => exact (zq HBW.out)); rintro e w2 ⟨vb, rfl, hS, hb⟩; obtain ⟨Ab, cb_, rfl⟩ := Kd.S_slice hS; have HS := Aside0.mk (Kd.S_R hS); have HBW2 := Aside0.mk (below_step (zq HBW.out) hb); have hq := (hb.block wr.heap.size (by simp)).trans (heap_alloc_new wr (.cells #[.int .i64 r.f0, .slice (some al) r.f1.length c1, .slice A2 r.f2.length c2] 73)); have q0 := (blk_cell hq 0).trans rfl; have q1 := (blk_cell hq 1).trans rfl; have q2 := (blk_cell hq 2).trans rfl; have hz := (HBW2.out.block w.heap.size (blk_lt HZ.out)).trans HZ.out; have HZ2 := Aside0.mk hz; have z0 := (blk_cell hz 0).trans rfl; have z1 := (blk_cell hz 1).trans rfl; have z2 := (blk_cell hz 2).trans rfl; have y0 := blk_frozen hz 0; have y1 := blk_frozen hz 1; have y2 := blk_frozen hz 2; clear hS hb hq hz))
     refine bodyPost_ret (results_ctt rfl _ _ w.heap.size 73 _ (0, 0) _ rfl (set3_blk HZ2.out _ _ _) Try.underlying73 rfl (by kernel_rfl)) rfl ?_
     exact ⟨⟨_, _, _, _, _, rfl, HG2.out.1, HG2.out.2, set3_R (Kd.R_lower HS.out (Nat.le_trans HB.out.size (Below.size (zq HBW.out)))) HZ2.out (by decide) _ _ _⟩, set3_below (below_step HB.out HBW2.out) (Nat.le_refl _) _ _ _⟩
    ·
     rw [if_neg hm] at hf
     have HF2 := Aside0.mk hf
     clear hf HHF HF
     have hmb : m2 = true → (m3 == 0) = false := fun h1 => beq_eq_false_iff_ne.mpr (fun h2 => hm ⟨h1, h2⟩)
     cases m2 with
     | true =>
      have hm3 := hmb rfl
      clear hmb hm
      go_upto_region 4 with fail
      go_region
      go_wp2_with (first | (go_at_call 92; (with_reducible refine (M1 _ ?side2).mono ?_); (case side2 => exact (zq HBW.out)); rintro e w2 ⟨vb, rfl, hS, hb⟩; obtain ⟨Ab, cb_, rfl⟩ := Kd.S_slice hS; have HS := Aside0.mk (Kd.S_R hS); have HBW2 := Aside0.mk (below_step (zq HBW.out) hb); have hq := (hb.block wr.heap.size (by simp)).trans (heap_alloc_new wr (.cells #[.int .i64 r.f0, .slice (some al) r.f1.length c1, .slice A2 r.f2.length c2] 73)); have q0 := (blk_cell hq 0).trans rfl; have q1 := (blk_cell hq 1).trans rfl; have q2 := (blk_cell hq 2).trans rfl; have hz := (HBW2.out.block w.heap.size (blk_lt HZ.out)).trans HZ.out; have HZ2 := Aside0.mk hz; have z0 := (blk_cell hz 0).trans rfl; have z1 := (blk_cell hz 1).trans rfl; have z2 := (blk_cell hz 2).trans rfl; have y0 := blk_frozen hz 0; have y1 := blk_frozen hz 1; have y2 := blk_frozen hz 2; clear hS hb hq hz))
      go_roundg k1
      case measure => have := HX.out; omega
      case rel => exact ⟨x + 1, by have e_ : wrap64 (x + 1) = x + 1 := (by have := HXI.out; have := HM.out; unfold wrap64; omega); first | rfl | rw [e_] | (simp [e_]; done), ⟨by have := HX.out; omega⟩, ⟨by rw [show (x + 1).toNat = x.toNat + 1 by have := HXI.out; omega]; exact HF2.out⟩, HZ2, ⟨below_step HB.out HBW2.out⟩⟩
     | false =>
      clear hmb hm
      go_upto_region 4 with fail
      go_region
      go_wp2_with (first | (go_at_call 92; (with_reducible refine (M1 _ ?side3).mono ?_); (case side3 => exact (zq HBW.out)); rintro e w2 ⟨vb, rfl, hS, hb⟩; obtain ⟨Ab, cb_, rfl⟩ := Kd.S_slice hS; have HS := Aside0.mk (Kd.S_R hS); have HBW2 := Aside0.mk (below_step (zq HBW.out) hb); have hq := (hb.block wr.heap.size (by simp)).trans (heap_alloc_new wr (.cells #[.int .i64 r.f0, .slice (some al) r.f1.length c1, .slice A2 r.f2.length c2] 73)); have q0 := (blk_cell hq 0).trans rfl; have q1 := (blk_cell hq 1).trans rfl; have q2 := (blk_cell hq 2).trans rfl; have hz := (HBW2.out.block w.heap.size (blk_lt HZ.out)).trans HZ.out; have HZ2 := Aside0.mk hz; have z0 := (blk_cell hz 0).trans rfl; have z1 := (blk_cell hz 1).trans rfl; have z2 := (blk_cell hz 2).trans rfl; have y0 := blk_frozen hz 0; have y1 := blk_frozen hz 1; have y2 := blk_frozen hz 2; clear hS hb hq hz))
      go_roundg k1
      case measure => have := HX.out; omega
      case rel => exact ⟨x + 1, by have e_ : wrap64 (x + 1) = x + 1 := (by have := HXI.out; have := HM.out; unfold wrap64; omega); first | rfl | rw [e_] | (simp [e_]; done), ⟨by have := HX.out; omega⟩, ⟨by rw [show (x + 1).toNat = x.toNat + 1 by have := HXI.out; omega]; exact HF2.out⟩, HZ2, ⟨below_step HB.out HBW2.out⟩⟩
   ·
    have hs2 : ((rd_T54 r.f1 0).f0.toList == (rd_T54 node 0).f0.toList && (rd_T54 r.f1 0).f1 == (rd_T54 node 0).f1) = false := by simpa [sameCell] using hs
    generalize rd_T54 r.f1 0 = ca at hlw hlw1 hs hs2 HHF
    generalize rd_T54 node 0 = cb at hnw hnw1 hs hs2 HHF
    have hf := HHF.out
    rw [if_neg hs] at hf
    have HF2 := Aside0.mk hf
    clear hf HHF HF hs
    go_upto_region 4 with fail
    go_region
    go_wp2
    go_roundg k1
    case measure => have := HX.out; omega
    case rel => exact ⟨x + 1, by have e_ : wrap64 (x + 1) = x + 1 := (by have := HXI.out; have := HM.out; unfold wrap64; omega); first | rfl | rw [e_] | (simp [e_]; done), ⟨by have := HX.out; omega⟩, ⟨by rw [show (x + 1).toNat = x.toNat + 1 by have := HXI.out; omega]; exact HF2.out⟩, ⟨(((by repeat (first | exact HBW.out | apply pw_below_drewN | apply below_drew1 | apply below_alloc) : Below wr.heap.size wr _)).block _ (blk_lt HZ.out)).trans HZ.out⟩, ⟨below_step HB.out (zq HBW.out)⟩⟩
  | zero =>
   have hb0 : decide (x < (rules.length : Int)) = false := decide_eq_false (by have := HX.out; omega)
   have hf := HF.out
   rw [List.drop_eq_nil_of_le (by have := HX.out; omega), fitsF] at hf
   obtain rfl := Option.some.inj hf
   have q0 := (blk_cell HZ.out 0).trans rfl
   have q1 := (blk_cell HZ.out 1).trans rfl
   have q2 := (blk_cell HZ.out 2).trans rfl
   have f0 := blk_frozen HZ.out 0
   have f1 := blk_frozen HZ.out 1
   have f2 := blk_frozen HZ.out 2
   clear hf HF
   go_wp2
   refine bodyPost_ret (results_ctt rfl _ _ w.heap.size 73 _ (0, 0) _ rfl (set3_blk HZ.out _ _ _) Try.underlying73 rfl (by kernel_rfl)) rfl ?_
   exact ⟨rfl, set3_below HB.out (Nat.le_refl _) _ _ _⟩

-- ==== Rw10
def bindL : List S104 → ByteArray → List S54
 | [], _ => []
 | b :: u, v => if (b.f0.toList == v.toList) = true then b.f1 else bindL u v
theorem mk1_calls {p cb : Nat} {w : World} {Ab : Option Addr} {binds : List S104} (hp : w.heap[p]? = some (.cells #[.slice Ab binds.length cb] 100 (0, 0))) (hc : Kd.C k104 w Ab binds.length binds) (hl : ∀ b ∈ binds, b.f1.length ≤ 64) (v : ByteArray) :
 Calls Try.prog 75 #[.string v, .pointer (some ⟨p, 0, none⟩)] w fun e w' => ∃ v0 : Value, e = .returned v0 ∧ Kd.R k54 54 w' w.heap.size (fun _ => True) v0 (bindL binds v) ∧ Below w.heap.size w w' := by
 have HC := Aside0.mk hc
 have HL := Aside0.mk hl
 have HM := Aside0.mk (show (binds.length : Int) ≤ 9223372036854775807 by have := hc.2.1; omega)
 have hp0 : w.cell? ⟨p, 0, none⟩ = some (.slice Ab binds.length cb) := (blk_cell hp 0).trans rfl
 have HB := Aside0.mk (Below.refl w.heap.size w)
 obtain ⟨fin, hfin⟩ : ∃ fin, fin = bindL binds v := ⟨_, rfl⟩
 rw [← hfin]
 have HF := Aside0.mk hfin
 clear hp hc hl hfin
 go_enter Try.func75, Try.ntmps75
 go_wp2
 clear hp0
 go_loopg [8] binds.length (fun kq v8 w' => ∃ x : Int, v8 = .int .i64 x ∧ Aside0 (0 ≤ x ∧ x + kq = (binds.length : Int)) ∧ Aside0 (fin = bindL (binds.drop x.toNat) v) ∧ Aside0 (Below w.heap.size w w'))
 case atStart => exact ⟨0, rfl, ⟨by omega⟩, HF, HB⟩
 case round =>
  clear HF HB
  obtain ⟨x, rfl, HX, HF, HB⟩ := hrel
  cases gk with
  | succ k1 =>
   have hi : 0 ≤ x ∧ x < (binds.length : Int) := by have := HX.out; omega
   obtain ⟨ad, A1, c1, rfl, hx0, hx1, l1, g1⟩ := at_T104 (Kd.C_below HC.out HB.out) x hi.1 hi.2
   have hdr : binds.drop x.toNat = rd_T104 binds x :: binds.drop (x.toNat + 1) := by
    rw [List.drop_eq_getElem_cons (show x.toNat < binds.length by omega)]
    congr 1
    simp [rd_T104, List.getD_eq_getElem?_getD, show x.toNat < binds.length by omega]
   have hle : (rd_T104 binds x).f1.length ≤ 64 := HL.out _ (List.mem_of_mem_drop (i := x.toNat) (by rw [hdr]; exact List.mem_cons_self))
   have hf := HF.out
   rw [hdr, bindL] at hf
   generalize rd_T104 binds x = b at hx0 hx1 l1 g1 hf hle
   have HXI := Aside0.mk hi
   have hb0 : decide (x < (binds.length : Int)) = true := decide_eq_true hi.2
   have hpp := eq_true hi.1
   have hqq := eq_true hi.2
   have HG := Aside0.mk g1
   have HF1 := Aside0.mk hf
   have T1 := fun (W : World) (hW : Below wr.heap.size wr W) => cloneT_calls (w := W) (c := c1) (Kd.C_below HG.out hW) l1 (by omega)
   have HBW := Aside0.mk (Below.refl wr.heap.size wr)
   clear hdr g1 hf hi hle l1 HF
   by_cases hs : (b.f0.toList == v.toList) = true
   ·
    have hf := HF1.out
    rw [if_pos hs] at hf
    subst hf
    have hs1 : decide (b.f0.toList = v.toList) = true := decide_eq_true (by simpa using hs)
    clear HF1
    go_wp2_with (go_at_call 71; (with_reducible refine (T1 _ ?side1).mono ?_); (case side1 => exact (zq HBW.out)); rintro e w2 ⟨A2, c2, rfl, hR, hb⟩; have HR2 := Aside0.mk hR; have HB2 := Aside0.mk (below_step (zq HBW.out) hb); clear hR hb)
    go_ret
    exact ⟨_, rfl, Kd.R_lower HR2.out (Nat.le_trans HB.out.size (by simp)), below_step HB.out HB2.out⟩
   ·
    have hf := HF1.out
    rw [if_neg hs] at hf
    have HF2 := Aside0.mk hf
    have hs0 : (b.f0.toList == v.toList) = false := by simpa using hs
    have hs1 : decide (b.f0.toList = v.toList) = false := decide_eq_false (by simpa using hs)
    clear hf HF1 hs T1
    go_wp2
    go_roundg k1
    case measure => have := HX.out; omega
    case rel => exact ⟨x + 1, by have e_ : wrap64 (x + 1) = x + 1 := (by have := HXI.out; have := HM.out; unfold wrap64; omega); first | rfl | rw [e_] | (simp [e_]; done), ⟨by have := HX.out; omega⟩, ⟨by rw [show (x + 1).toNat = x.toNat + 1 by have := HXI.out; omega]; exact HF2.out⟩, ⟨below_step HB.out (zq HBW.out)⟩⟩
  | zero =>
   have hb0 : decide (x < (binds.length : Int)) = false := decide_eq_false (by have := HX.out; omega)
   have hf := HF.out
   rw [List.drop_eq_nil_of_le (by have := HX.out; omega), bindL] at hf
   subst hf
   clear HF
   go_wp2
   go_ret
   exact ⟨_, rfl, Kd.R_nil _ _ _ _ _, HB.out⟩
end Go.Proofs.Ytdlkhpfgkghhmaa.P
