/- RewriteOwn: the law answers true at every input that the given row speaks of. Conditions: those of the given row, none besides. (Part 2 of 5; written by programs of this session, which drive the kit's print, and by hand.) -/
import Derived.Maps.OwnSet
import Derived.Maps.OwnOps
import Derived.Test.YtdlkhpfgkghhmaaRows
import Derived.Test.YtdlkhpfgkghhmaaZRewriteOwnUWWords
import Derived.Deep.Slices
import Derived.SizedLaws
import Derived.ChangeSame
import Derived.ChangeArms
import Derived.Deep.RegionLaw
import Derived.RegionTactic
import Derived.ChangeAlike
import Derived.BigRegion
import Derived.IntWalk
import Derived.Outline
import Derived.Deep.RegionHeld3
import Derived.Deep.DeepCutAuto
import Derived.Test.YtdlkhpfgkghhmaaZRewriteOwnU0
set_option maxHeartbeats 8000000
set_option maxRecDepth 100000
set_option linter.unusedVariables false
set_option linter.unusedSimpArgs false
-- ==== PF47
namespace Go.Proofs.Ytdlkhpfgkghhmaa.P
open Go.RowKit Go.Proofs.YtdlkhpfgkghhmaaW.PrintWords Go.Proofs.YtdlkhpfgkghhmaaW.PrintLast Go.Proofs.YtdlkhpfgkghhmaaW.PrintMore
attribute [local go_sem] max2_int min2_int max_two min_two max_three min_three max_four min_four

mutual
def rewrite_clone.l0 : Nat → List (S70) → Int → Int → List (S70) → List (List (S54)) → Int → List ByteArray → List (S70) → Int → List ByteArray → Option ((List (S70)) × (List (List (S54))) × Int × List ByteArray)
 | 0, _, _, _, _, _, _, _, _, _, _ => none
 | k + 1, x15, x16, x17, x102000, x102001, x102002, x102003, x107000, x107002, x107003 => if x17 < x16 then (if 0 ≤ x17 then (if x17 < (x15.length : Int) then ((api_Cell_71.f ((rd_T70 x15 x17).f2)).bind fun t109 => (if x107000.length < 2513169434916 then (rewrite_clone.l0 k x15 x16 (wrap64 (x17 + 1)) x102000 x102001 x102002 x102003 (x107000 ++ [(⟨(rd_T70 x15 x17).f0, (⟨(rd_T70 x15 x17).f1.f0, (rd_T70 x15 x17).f1.f1⟩ : S54), t109⟩ : S70)]) x107002 x107003) else (none))) else (none)) else (none)) else (rewrite_clone.l1 k x102001 (x102001.length : Int) 0 x107000 ([] : List (List (S54))) x107002 x107003)
def rewrite_clone.l1 : Nat → List (List (S54)) → Int → Int → List (S70) → List (List (S54)) → Int → List ByteArray → Option ((List (S70)) × (List (List (S54))) × Int × List ByteArray)
 | 0, _, _, _, _, _, _, _ => none
 | k + 1, x33, x34, x35, x107000, x107001, x107002, x107003 => if x35 < x34 then (if 0 ≤ x35 then (if x35 < (x33.length : Int) then ((api_Cell_71.f (rd_L3 x33 x35)).bind fun t116 => (if x107001.length < 5864062014805 then (rewrite_clone.l1 k x33 x34 (wrap64 (x35 + 1)) x107000 (x107001 ++ [t116]) x107002 x107003) else (none))) else (none)) else (none)) else (some (x107000, x107001, x107002, x107003))
end
def rewrite_clone.f (k : Nat) (l0_0 : List (S70)) (l0_1 : List (List (S54))) (a0_2 : Int) (l0_3 : List ByteArray) : Option ((List (S70)) × (List (List (S54))) × Int × List ByteArray) := (slices_Clone_string_string.f l0_3).bind fun t103 => (rewrite_clone.l0 k l0_0 (l0_0.length : Int) 0 l0_0 l0_1 a0_2 l0_3 ([] : List (S70)) a0_2 t103)
theorem rewrite_clone.mono_l : ∀ k, (∀ y0 y1 y2 y3 y4 y5 y6 y7 y8 y9, LeO (rewrite_clone.l0 k y0 y1 y2 y3 y4 y5 y6 y7 y8 y9) (rewrite_clone.l0 (k + 1) y0 y1 y2 y3 y4 y5 y6 y7 y8 y9)) ∧ (∀ y0 y1 y2 y3 y4 y5 y6, LeO (rewrite_clone.l1 k y0 y1 y2 y3 y4 y5 y6) (rewrite_clone.l1 (k + 1) y0 y1 y2 y3 y4 y5 y6))
 | 0 => ⟨fun _ _ _ _ _ _ _ _ _ _ r h => by simp [rewrite_clone.l0] at h, fun _ _ _ _ _ _ _ r h => by simp [rewrite_clone.l1] at h⟩
 | k + 1 => by
  obtain ⟨ih0, ih1⟩ := rewrite_clone.mono_l k
  refine ⟨?_, ?_⟩
  ·
   intro y0 y1 y2 y3 y4 y5 y6 y7 y8 y9
   unfold rewrite_clone.l0
   repeat' first
   | (with_reducible exact ih0 _ _ _ _ _ _ _ _ _ _)
   | (with_reducible exact ih1 _ _ _ _ _ _ _)
   | (with_reducible exact LeO.refl _)
   | (with_reducible exact LeO.none _)
   | (with_reducible refine LeO.ite ?_ ?_)
   | (with_reducible refine LeO.bind ?_ (fun _ => ?_))
  ·
   intro y0 y1 y2 y3 y4 y5 y6
   unfold rewrite_clone.l1
   repeat' first
   | (with_reducible exact ih0 _ _ _ _ _ _ _ _ _ _)
   | (with_reducible exact ih1 _ _ _ _ _ _ _)
   | (with_reducible exact LeO.refl _)
   | (with_reducible exact LeO.none _)
   | (with_reducible refine LeO.ite ?_ ?_)
   | (with_reducible refine LeO.bind ?_ (fun _ => ?_))
theorem rewrite_clone.mono : ∀ a0 a1 a2 a3 k, LeO (rewrite_clone.f k a0 a1 a2 a3) (rewrite_clone.f (k + 1) a0 a1 a2 a3) := by
 intro a0 a1 a2 a3 k
 obtain ⟨ih0, ih1⟩ := rewrite_clone.mono_l k
 unfold rewrite_clone.f
 repeat' first
  | (with_reducible exact ih0 _ _ _ _ _ _ _ _ _ _)
  | (with_reducible exact ih1 _ _ _ _ _ _ _)
  | (with_reducible exact LeO.refl _)
  | (with_reducible exact LeO.none _)
  | (with_reducible refine LeO.ite ?_ ?_)
  | (with_reducible refine LeO.bind ?_ (fun _ => ?_))
def rewrite_clone.T1 : Bool × List (List Nat × List Nat) := (true, [([], []), ([0], [0]), ([], []), ([2], [2]), ([3], [3]), ([1, 4], [1, 4]), ([], []), ([6, 5, 4, 0, 1, 2, 3, 4, 5, 6], [5, 6])])
def rewrite_clone.B1 : List Nat := [0, 1, 0, 4, 12, 31, 0, 127]
theorem rewrite_clone.tab1 : rtab .any (opsOf Try.f47 1) = rewrite_clone.T1 := by kernel_rfl
theorem rewrite_clone.bits1 : waitsOk rewrite_clone.T1.2 rewrite_clone.B1 = true := by kernel_rfl
def rewrite_clone.T11 : Bool × List (List Nat × List Nat) := (true, [([], []), ([0], [0]), ([], []), ([2], [2]), ([3], [3]), ([1, 4, 3], [1, 4]), ([0, 1, 2, 3, 4, 5], []), ([6, 5, 5, 0, 1, 2, 3, 4, 5], [5, 6])])
def rewrite_clone.B11 : List Nat := [0, 1, 0, 4, 12, 31, 63, 127]
theorem rewrite_clone.tab11 : rtab .any (opsOf Try.f47 11) = rewrite_clone.T11 := by kernel_rfl
theorem rewrite_clone.bits11 : waitsOk rewrite_clone.T11.2 rewrite_clone.B11 = true := by kernel_rfl
theorem rewrite_clone.calls (k : Nat) (A0_0 : Option Addr) (c0_0 : Nat) (l0_0 : List (S70)) (A0_1 : Option Addr) (c0_1 : Nat) (l0_1 : List (List (S54))) (a0_2 : Int) (A0_3 : Option Addr) (c0_3 : Nat) (l0_3 : List ByteArray) (r1 : List (S70)) (r2 : List (List (S54))) (r3 : Int) (r4 : List ByteArray) (w : World) (hr0_0 : Kd.C k70 w A0_0 l0_0.length l0_0) (hc0_0 : l0_0.length ≤ c0_0) (hr0_1 : Kd.C (Kd.slice 54 k54) w A0_1 l0_1.length l0_1) (hc0_1 : l0_1.length ≤ c0_1) (hr0_3 : Kd.C Kd.string w A0_3 l0_3.length l0_3) (hc0_3 : l0_3.length ≤ c0_3) (h : rewrite_clone.f k l0_0 l0_1 a0_2 l0_3 = some (r1, r2, r3, r4)) :
 Calls Try.prog 47 #[.agg #[.slice A0_0 l0_0.length c0_0, .slice A0_1 l0_1.length c0_1, .int .i64 a0_2, .slice A0_3 l0_3.length c0_3]] w fun e w' => ∃ v0_ v1_ v3_ : Value, e = .returned (.agg #[v0_, v1_, .int .i64 r3, v3_]) ∧ Kd.S k70 70 w' w.heap.size (fun _ => True) v0_ r1 ∧ Kd.S (Kd.slice 54 k54) 23 w' w.heap.size (fun _ => True) v1_ r2 ∧ Kd.R Kd.string 9 w' w.heap.size (fun _ => True) v3_ r4 ∧ Below w.heap.size w w' := by
 have hu28 := Try.underlying28
 have hu70 := Try.underlying70
 have HR0_0 := zM hr0_0
 have HC0_0 := zM hc0_0
 clear hr0_0 hc0_0
 have HR0_1 := zM hr0_1
 have HC0_1 := zM hc0_1
 clear hr0_1 hc0_1
 have HR0_3 := zM hr0_3
 have HC0_3 := zM hc0_3
 clear hr0_3 hc0_3
 have HB := zM (Below.refl w.heap.size w)
 have H : ((slices_Clone_string_string.f l0_3).bind fun t103 => (rewrite_clone.l0 k l0_0 (l0_0.length : Int) 0 l0_0 l0_1 a0_2 l0_3 ([] : List (S70)) a0_2 t103)) = some (r1, r2, r3, r4) := h
 clear h
 replace H := zB H
 obtain ⟨t103, A20, H⟩ := H
 try dsimp only at H
 have A2 := zM A20
 clear A20
 have H' := zM H
 clear H
 go_enter Try.func47, Try.ntmps47
 try go_wp2_with (first | ((with_reducible refine gate_dst (N := 1) rfl ?_); refine box_event ?hg (N := 1) ?hd (cs := #[.slice A0_0 l0_0.length c0_0, .slice A0_1 l0_1.length c0_1, .int .i64 a0_2, .slice A0_3 l0_3.length c0_3]) (t := 28) ?hr ?_; (case hd => rfl); (case hg => rfl); (case hr => first | (go_simp; done) | (go_simp; rfl)); intro gb101 hg w3 hbox hb; have BK101 := zM (hbox); have GW101 := zM (zh hg : w.heap.size ≤ gb101); have GE101 := zM (zh hg : w.heap.size ≤ gb101); replace HB := zM (below_step zb hb); clear hb hbox hg) | ((with_reducible refine gate_dst (N := 2) rfl ?_); refine box_event ?hg (N := 2) ?hd (cs := #[.slice none 0 0, .slice none 0 0, .int .i64 0, .slice none 0 0]) (t := 28) ?hr ?_; (case hd => rfl); (case hg => rfl); (case hr => first | (go_simp; done) | (go_simp; rfl)); intro gb102 hg w4 hbox hb; have BK102 := zM (hbox); have GW102 := zM (zh hg : w.heap.size ≤ gb102); have GE102 := zM (zh hg : w.heap.size ≤ gb102); replace HB := zM (below_step zb hb); have NB101_102 := zM ((by rw [hg]; exact Nat.ne_of_lt (blk_lt (zk BK101.out)) : gb101 ≠ gb102)); have NB102_101 := zM ((by rw [hg]; exact Nat.ne_of_gt (blk_lt (zk BK101.out)) : gb102 ≠ gb101)); replace BK101 := zM (blk_below (zk BK101.out) hb); clear hb hbox hg))
 have n0_ := zM (blk_drew BK101.out)
 have n1_ := zM (blk_drew BK102.out)
 have n2_ := zM (zD HB.out)
 clear BK101
 clear BK102
 clear HB
 have BK101 := n0_
 have BK102 := n1_
 have HB := n2_
 clear n0_ n1_ n2_
 refine start_ (n := 8) (S := fun w' => w'.cell? ⟨gb101, 0, none⟩ = some (.slice A0_0 l0_0.length c0_0) ∧ w'.cell? ⟨gb101, 1, none⟩ = some (.slice A0_1 l0_1.length c0_1) ∧ w'.cell? ⟨gb101, 2, none⟩ = some (.int .i64 a0_2) ∧ w'.cell? ⟨gb101, 3, none⟩ = some (.slice A0_3 l0_3.length c0_3)) (ds := []) #[false, false, false, false, false, false, false, false] (by kernel_rfl) rfl rfl ⟨(zX BK101.out 0).trans rfl, (zX BK101.out 1).trans rfl, (zX BK101.out 2).trans rfl, (zX BK101.out 3).trans rfl⟩ (fun hHeld => ?_); refine with_tabW rewrite_clone.tab1 rewrite_clone.bits1 (fun HT_ HW_ => ?_)
 generalize w4.drew = w5 at BK101 BK102 HB hHeld ⊢
 refine pure_ (i := 0) (N := some 8) (v := ?_) (a' := ?_) #[true, false, false, false, false, false, false, false] rfl rfl (any_of HT_.out (by kernel_rfl)) (fun _ _ _ h => h) (Or.inl ⟨by rfl, ?_⟩) ?_ ?_
 rotate_left
 ·
  intro w'
  go_simp
  with_reducible rfl
 rotate_left
 ·
  simp only [Act.put, zp1, zp2, zp3, i64_w, i32_w]
  rfl
 refine pure_ (i := 2) (N := some 10) (v := ?_) (a' := ?_) #[true, false, true, false, false, false, false, false] rfl rfl (any_of HT_.out (by kernel_rfl)) (fun _ _ _ h => h) (Or.inl ⟨by rfl, ?_⟩) ?_ ?_
 rotate_left
 ·
  intro w'
  go_simp
  with_reducible rfl
 rotate_left
 ·
  simp only [Act.put, zp1, zp2, zp3, i64_w, i32_w]
  rfl
 refine take_ (i := 1) (N := some 9) (v := ?_) (a' := ?_) #[true, true, true, false, false, false, false, false] rfl rfl (take_ofW HT_.out HW_.out (by kernel_rfl)) (fun _ _ _ h => h) (Or.inl ⟨by rfl, ?_⟩) hHeld ?_ ?_
 rotate_left
 ·
  rintro w' ⟨s0, s1, s2, s3⟩
  go_simp
  with_reducible rfl
 rotate_left
 ·
  simp only [Act.put, zp1, zp2, zp3, i64_w, i32_w]
  rfl
 refine take_ (i := 3) (N := some 11) (v := ?_) (a' := ?_) #[true, true, true, true, false, false, false, false] rfl rfl (take_ofW HT_.out HW_.out (by kernel_rfl)) (fun _ _ _ h => h) (Or.inl ⟨by rfl, ?_⟩) hHeld ?_ ?_
 rotate_left
 ·
  rintro w' ⟨s0, s1, s2, s3⟩
  go_simp
  with_reducible rfl
 rotate_left
 ·
  simp only [Act.put, zp1, zp2, zp3, i64_w, i32_w]
  rfl
 refine join_ (σ := Value × Nat) 1 #[true, true, true, true, true, true, true, false] (fun s_ => [(12, s_.1), (3, .pointer (some ⟨s_.2, 0, none⟩)), (13, .agg #[.slice none 0 0, .slice none 0 0, .int .i64 a0_2, s_.1])]) (fun s_ w' => (w'.cell? ⟨gb101, 0, none⟩ = some (.slice A0_0 l0_0.length c0_0) ∧ w'.cell? ⟨gb101, 1, none⟩ = some (.slice A0_1 l0_1.length c0_1) ∧ w'.cell? ⟨gb101, 2, none⟩ = some (.int .i64 a0_2) ∧ w'.cell? ⟨gb101, 3, none⟩ = some (.slice A0_3 l0_3.length c0_3)) ∧ (Kd.R Kd.string 9 w' w.heap.size (fun _ => True) s_.1 t103) ∧ (w'.heap[gb101]? = some (.cells #[.slice A0_0 l0_0.length c0_0, .slice A0_1 l0_1.length c0_1, .int .i64 a0_2, .slice A0_3 l0_3.length c0_3] 28 (0, 0))) ∧ (w'.heap[gb102]? = some (.cells #[.slice none 0 0, .slice none 0 0, .int .i64 0, .slice none 0 0] 28 (0, 0))) ∧ (w'.heap[s_.2]? = some (.cells #[.slice none 0 0, .slice none 0 0, .int .i64 0, .slice none 0 0] 28 (0, 0))) ∧ (w.heap.size ≤ s_.2) ∧ (w.heap.size ≤ s_.2) ∧ (gb101 ≠ s_.2) ∧ (s_.2 ≠ gb101) ∧ (gb102 ≠ s_.2) ∧ (s_.2 ≠ gb102) ∧ (Below w.heap.size w w')) ?_ ?_
 rotate_left
 ·
  intro hCont
  refine two_ (i := 4) (j := 6) (Ni := some 12) (Nj := some 3) #[true, true, true, true, true, false, false, false] #[true, true, true, true, false, false, true, false] rfl rfl rfl rfl (two_of HT_.out (by kernel_rfl)) (by decide) (by decide) (fun K hK => ?_) (fun K hK => ?_)
  ·
   skip
   refine goes_ Try.func70 (by kernel_rfl) rfl #[.slice A0_3 l0_3.length c0_3] (by rfl) rfl rfl zl ?_
   with_reducible refine (slices_Clone_string_string.calls _ _ l0_3 t103 _ ?side1 ?side2 A2.out).mono ?_
   (case side1 => exact Kd.C_below HR0_3.out zb)
   (case side2 => exact HC0_3.out)
   rintro e w6 ⟨v104, rfl, ho0, hb⟩
   refine ⟨_, rfl, ?_⟩
   have n0_ := zM (Kd.R_lower ho0 (below_size zb))
   have n1_ := zM (blk_below (zk BK101.out) hb)
   have n2_ := zM (blk_below (zk BK102.out) hb)
   have n3_ := zM (below_step zb hb)
   clear BK101
   clear BK102
   clear HB
   have HO105 := n0_
   have BK101 := n1_
   have BK102 := n2_
   have HB := n3_
   clear n0_ n1_ n2_ n3_
   (try clear hb)
   (try clear hb2)
   (try clear hk)
   (try clear hi)
   (try clear ho0)
   obtain ⟨Ao7, co7, eo7⟩ := Kd.R_slice HO105.out
   (first | subst eo7 | (injection eo7 with f1_ f2_ f3_; have f4_ := f1_.symm; have f5_ := f3_.symm; clear f1_ f2_ f3_; subst f4_; subst f5_))
   refine hK.out _ _ ⟨(zX BK101.out 0).trans rfl, (zX BK101.out 1).trans rfl, (zX BK101.out 2).trans rfl, (zX BK101.out 3).trans rfl⟩ (fun hHeld => ?_)
   clear hK K
   refine norm_ (a' := ?_) ?_ ?_
   rotate_left
   ·
    show Act.put _ (some 12) _ = _
    simp only [Act.put, zp1, zp2, zp3, i64_w, i32_w]
    rfl
   refine pure_ (i := 5) (N := some 13) (v := ?_) (a' := ?_) #[true, true, true, true, true, true, false, false] rfl rfl (any_of HT_.out (by kernel_rfl)) (fun _ _ _ h => h) (Or.inl ⟨by rfl, ?_⟩) ?_ ?_
   rotate_left
   ·
    intro w'
    go_simp
    with_reducible rfl
   rotate_left
   ·
    simp only [Act.put, zp1, zp2, zp3, i64_w, i32_w]
    rfl
   refine one_ (i := 6) (N := some 3) #[true, true, true, true, true, true, true, false] rfl rfl (one_of HT_.out (by kernel_rfl)) (by decide) (fun K hK => ?_)
   refine box_step ?hg (N := 3) ?hd (cs := #[.slice none 0 0, .slice none 0 0, .int .i64 0, .slice none 0 0]) (t := 28) ?hr ?_; (case hd => rfl); (case hg => rfl); (case hr => first | (go_simp; done) | (go_simp; rfl))
   intro gb106 hg w8 hbox hb
   have n0_ := zM (Kd.R_below (zr HO105.out) hb)
   have n1_ := zM (blk_below (zk BK101.out) hb)
   have n2_ := zM (blk_below (zk BK102.out) hb)
   have n3_ := zM (below_step zb hb)
   have n4_ := zM (hbox)
   have n5_ := zM (zh hg : w.heap.size ≤ gb106)
   have n6_ := zM (zh hg : w.heap.size ≤ gb106)
   have n7_ := zM ((by rw [hg]; exact Nat.ne_of_lt (blk_lt (zk BK101.out)) : gb101 ≠ gb106))
   have n8_ := zM ((by rw [hg]; exact Nat.ne_of_gt (blk_lt (zk BK101.out)) : gb106 ≠ gb101))
   have n9_ := zM ((by rw [hg]; exact Nat.ne_of_lt (blk_lt (zk BK102.out)) : gb102 ≠ gb106))
   have n10_ := zM ((by rw [hg]; exact Nat.ne_of_gt (blk_lt (zk BK102.out)) : gb106 ≠ gb102))
   clear HO105
   clear BK101
   clear BK102
   clear HB
   have HO105 := n0_
   have BK101 := n1_
   have BK102 := n2_
   have HB := n3_
   have BK106 := n4_
   have GW106 := n5_
   have GE106 := n6_
   have NB101_106 := n7_
   have NB106_101 := n8_
   have NB102_106 := n9_
   have NB106_102 := n10_
   clear n0_ n1_ n2_ n3_ n4_ n5_ n6_ n7_ n8_ n9_ n10_
   clear hb hbox hg
   refine hK.out _ _ ⟨(zX BK101.out 0).trans rfl, (zX BK101.out 1).trans rfl, (zX BK101.out 2).trans rfl, (zX BK101.out 3).trans rfl⟩ (fun hHeld => ?_)
   clear hK K
   refine norm_ (a' := ?_) ?_ ?_
   rotate_left
   ·
    show Act.put _ (some 3) _ = _
    simp only [Act.put, zp1, zp2, zp3, i64_w, i32_w]
    rfl
   exact norm_ (by simp only [putAll, Act.put, List.setIfInBounds_toArray, List.set_cons_zero, List.set_cons_succ]) (hCont (.slice Ao7 t103.length co7, gb106) _ ⟨hHeld, (zr HO105.out), (zk BK101.out), (zk BK102.out), (zk BK106.out), GW106.out, GE106.out, NB101_106.out, NB106_101.out, NB102_106.out, NB106_102.out, zb⟩)
  ·
   skip
   refine box_step ?hg (N := 3) ?hd (cs := #[.slice none 0 0, .slice none 0 0, .int .i64 0, .slice none 0 0]) (t := 28) ?hr ?_; (case hd => rfl); (case hg => rfl); (case hr => first | (go_simp; done) | (go_simp; rfl))
   intro gb106 hg w6 hbox hb
   have n0_ := zM (blk_below (zk BK101.out) hb)
   have n1_ := zM (blk_below (zk BK102.out) hb)
   have n2_ := zM (below_step zb hb)
   have n3_ := zM (hbox)
   have n4_ := zM (zh hg : w.heap.size ≤ gb106)
   have n5_ := zM (zh hg : w.heap.size ≤ gb106)
   have n6_ := zM ((by rw [hg]; exact Nat.ne_of_lt (blk_lt (zk BK101.out)) : gb101 ≠ gb106))
   have n7_ := zM ((by rw [hg]; exact Nat.ne_of_gt (blk_lt (zk BK101.out)) : gb106 ≠ gb101))
   have n8_ := zM ((by rw [hg]; exact Nat.ne_of_lt (blk_lt (zk BK102.out)) : gb102 ≠ gb106))
   have n9_ := zM ((by rw [hg]; exact Nat.ne_of_gt (blk_lt (zk BK102.out)) : gb106 ≠ gb102))
   clear BK101
   clear BK102
   clear HB
   have BK101 := n0_
   have BK102 := n1_
   have HB := n2_
   have BK106 := n3_
   have GW106 := n4_
   have GE106 := n5_
   have NB101_106 := n6_
   have NB106_101 := n7_
   have NB102_106 := n8_
   have NB106_102 := n9_
   clear n0_ n1_ n2_ n3_ n4_ n5_ n6_ n7_ n8_ n9_
   clear hb hbox hg
   refine hK.out _ _ ⟨(zX BK101.out 0).trans rfl, (zX BK101.out 1).trans rfl, (zX BK101.out 2).trans rfl, (zX BK101.out 3).trans rfl⟩ (fun hHeld => ?_)
   clear hK K
   refine norm_ (a' := ?_) ?_ ?_
   rotate_left
   ·
    show Act.put _ (some 3) _ = _
    simp only [Act.put, zp1, zp2, zp3, i64_w, i32_w]
    rfl
   refine one_ (i := 4) (N := some 12) #[true, true, true, true, true, false, true, false] rfl rfl (one_of HT_.out (by kernel_rfl)) (by decide) (fun K hK => ?_)
   refine goes_ Try.func70 (by kernel_rfl) rfl #[.slice A0_3 l0_3.length c0_3] (by rfl) rfl rfl zl ?_
   with_reducible refine (slices_Clone_string_string.calls _ _ l0_3 t103 _ ?side1 ?side2 A2.out).mono ?_
   (case side1 => exact Kd.C_below HR0_3.out zb)
   (case side2 => exact HC0_3.out)
   rintro e w7 ⟨v104, rfl, ho0, hb⟩
   refine ⟨_, rfl, ?_⟩
   have n0_ := zM (Kd.R_lower ho0 (below_size zb))
   have n1_ := zM (blk_below (zk BK101.out) hb)
   have n2_ := zM (blk_below (zk BK102.out) hb)
   have n3_ := zM (blk_below (zk BK106.out) hb)
   have n4_ := zM (below_step zb hb)
   clear BK101
   clear BK102
   clear BK106
   clear HB
   have HO105 := n0_
   have BK101 := n1_
   have BK102 := n2_
   have BK106 := n3_
   have HB := n4_
   clear n0_ n1_ n2_ n3_ n4_
   (try clear hb)
   (try clear hb2)
   (try clear hk)
   (try clear hi)
   (try clear ho0)
   obtain ⟨Ao8, co8, eo8⟩ := Kd.R_slice HO105.out
   (first | subst eo8 | (injection eo8 with f1_ f2_ f3_; have f4_ := f1_.symm; have f5_ := f3_.symm; clear f1_ f2_ f3_; subst f4_; subst f5_))
   refine hK.out _ _ ⟨(zX BK101.out 0).trans rfl, (zX BK101.out 1).trans rfl, (zX BK101.out 2).trans rfl, (zX BK101.out 3).trans rfl⟩ (fun hHeld => ?_)
   clear hK K
   refine norm_ (a' := ?_) ?_ ?_
   rotate_left
   ·
    show Act.put _ (some 12) _ = _
    simp only [Act.put, zp1, zp2, zp3, i64_w, i32_w]
    rfl
   refine pure_ (i := 5) (N := some 13) (v := ?_) (a' := ?_) #[true, true, true, true, true, true, true, false] rfl rfl (any_of HT_.out (by kernel_rfl)) (fun _ _ _ h => h) (Or.inl ⟨by rfl, ?_⟩) ?_ ?_
   rotate_left
   ·
    intro w'
    go_simp
    with_reducible rfl
   rotate_left
   ·
    simp only [Act.put, zp1, zp2, zp3, i64_w, i32_w]
    rfl
   exact norm_ (by simp only [putAll, Act.put, List.setIfInBounds_toArray, List.set_cons_zero, List.set_cons_succ]) (hCont (.slice Ao8 t103.length co8, gb106) _ ⟨hHeld, (zr HO105.out), (zk BK101.out), (zk BK102.out), (zk BK106.out), GW106.out, GE106.out, NB101_106.out, NB106_101.out, NB102_106.out, NB106_102.out, zb⟩)
 rintro ⟨v104, gb106⟩ w9 ⟨hS_, h0_, h1_, h2_, h3_, h4_, h5_, h6_, h7_, h8_, h9_, h10_⟩
 have n0_ : Aside0 (Kd.R Kd.string 9 w9 w.heap.size (fun _ => True) v104 t103) := ⟨h0_⟩
 have n1_ : Aside0 (w9.heap[gb101]? = some (.cells #[.slice A0_0 l0_0.length c0_0, .slice A0_1 l0_1.length c0_1, .int .i64 a0_2, .slice A0_3 l0_3.length c0_3] 28 (0, 0))) := ⟨h1_⟩
 have n2_ : Aside0 (w9.heap[gb102]? = some (.cells #[.slice none 0 0, .slice none 0 0, .int .i64 0, .slice none 0 0] 28 (0, 0))) := ⟨h2_⟩
 have n3_ : Aside0 (w9.heap[gb106]? = some (.cells #[.slice none 0 0, .slice none 0 0, .int .i64 0, .slice none 0 0] 28 (0, 0))) := ⟨h3_⟩
 have n4_ : Aside0 (w.heap.size ≤ gb106) := ⟨h4_⟩
 have n5_ : Aside0 (w.heap.size ≤ gb106) := ⟨h5_⟩
 have n6_ : Aside0 (gb101 ≠ gb106) := ⟨h6_⟩
 have n7_ : Aside0 (gb106 ≠ gb101) := ⟨h7_⟩
 have n8_ : Aside0 (gb102 ≠ gb106) := ⟨h8_⟩
 have n9_ : Aside0 (gb106 ≠ gb102) := ⟨h9_⟩
 have n10_ : Aside0 (Below w.heap.size w w9) := ⟨h10_⟩
 clear BK101
 clear BK102
 clear HB
 clear h0_ h1_ h2_ h3_ h4_ h5_ h6_ h7_ h8_ h9_ h10_
 have HO105 := n0_
 have BK101 := n1_
 have BK102 := n2_
 have BK106 := n3_
 have GW106 := n4_
 have GE106 := n5_
 have NB101_106 := n6_
 have NB106_101 := n7_
 have NB102_106 := n8_
 have NB106_102 := n9_
 have HB := n10_
 clear n0_ n1_ n2_ n3_ n4_ n5_ n6_ n7_ n8_ n9_ n10_
 have hHeld : w9.cell? ⟨gb101, 0, none⟩ = some (.slice A0_0 l0_0.length c0_0) ∧ w9.cell? ⟨gb101, 1, none⟩ = some (.slice A0_1 l0_1.length c0_1) ∧ w9.cell? ⟨gb101, 2, none⟩ = some (.int .i64 a0_2) ∧ w9.cell? ⟨gb101, 3, none⟩ = some (.slice A0_3 l0_3.length c0_3) := hS_
 obtain ⟨Ao10, co10, eo10⟩ := Kd.R_slice HO105.out
 (first | subst eo10 | (injection eo10 with f1_ f2_ f3_; have f4_ := f1_.symm; have f5_ := f3_.symm; clear f1_ f2_ f3_; subst f4_; subst f5_))
 refine norm_ (a' := ?_) ?_ ?_
 rotate_left
 ·
  simp only [putAll, Act.put, List.setIfInBounds_toArray, List.set_cons_zero, List.set_cons_succ]
  rfl
 refine one_ (i := 7) (N := none) #[true, true, true, true, true, true, true, true] rfl rfl (one_of HT_.out (by kernel_rfl)) (by decide) (fun K hK => ?_)
 have hs11 : w9.cell? ⟨gb106, 0, none⟩ = some (.slice none 0 0) := (zX BK106.out 0).trans rfl
 have hfs11 := zY BK106.out 0
 have hns11_0 := NB101_106.out
 have hns11_1 := NB102_106.out
 have hms11_0 := NB106_101.out
 have hms11_1 := NB106_102.out
 have hs12 : w9.cell? ⟨gb106, 1, none⟩ = some (.slice none 0 0) := (zX BK106.out 1).trans rfl
 have hfs12 := zY BK106.out 1
 have hns12_0 := NB101_106.out
 have hns12_1 := NB102_106.out
 have hms12_0 := NB106_101.out
 have hms12_1 := NB106_102.out
 have hs13 : w9.cell? ⟨gb106, 2, none⟩ = some (.int .i64 0) := (zX BK106.out 2).trans rfl
 have hfs13 := zY BK106.out 2
 have hns13_0 := NB101_106.out
 have hns13_1 := NB102_106.out
 have hms13_0 := NB106_101.out
 have hms13_1 := NB106_102.out
 have hs14 : w9.cell? ⟨gb106, 3, none⟩ = some (.slice none 0 0) := (zX BK106.out 3).trans rfl
 have hfs14 := zY BK106.out 3
 have hns14_0 := NB101_106.out
 have hns14_1 := NB102_106.out
 have hms14_0 := NB106_101.out
 have hms14_1 := NB106_102.out
 refine skip_ (w1 := ?_) (by rfl) rfl ?_ ?_
 rotate_left
 ·
  go_simp
  rfl
 refine hK.out _ _ ⟨((cell_far (p := ⟨gb106, _, none⟩) NB101_106.out _).trans (((cell_far (p := ⟨gb106, _, none⟩) NB101_106.out _).trans (((cell_far (p := ⟨gb106, _, none⟩) NB101_106.out _).trans (((cell_far (p := ⟨gb106, _, none⟩) NB101_106.out _).trans (hHeld.1)))))))), ((cell_far (p := ⟨gb106, _, none⟩) NB101_106.out _).trans (((cell_far (p := ⟨gb106, _, none⟩) NB101_106.out _).trans (((cell_far (p := ⟨gb106, _, none⟩) NB101_106.out _).trans (((cell_far (p := ⟨gb106, _, none⟩) NB101_106.out _).trans (hHeld.2.1)))))))), ((cell_far (p := ⟨gb106, _, none⟩) NB101_106.out _).trans (((cell_far (p := ⟨gb106, _, none⟩) NB101_106.out _).trans (((cell_far (p := ⟨gb106, _, none⟩) NB101_106.out _).trans (((cell_far (p := ⟨gb106, _, none⟩) NB101_106.out _).trans (hHeld.2.2.1)))))))), ((cell_far (p := ⟨gb106, _, none⟩) NB101_106.out _).trans (((cell_far (p := ⟨gb106, _, none⟩) NB101_106.out _).trans (((cell_far (p := ⟨gb106, _, none⟩) NB101_106.out _).trans (((cell_far (p := ⟨gb106, _, none⟩) NB101_106.out _).trans (hHeld.2.2.2))))))))⟩ (fun hHeld => ?_)
 clear hK K
 refine done_ (done_of HT_.out (by kernel_rfl)) ?_
 have hnb15 := NB101_102.out
 have hnc15 := NB102_101.out
 have hnb16 := NB101_106.out
 have hnc16 := NB106_101.out
 have hcz17_0 : w9.cell? ⟨gb101, 0, none⟩ = some (.slice A0_0 l0_0.length c0_0) := (zX BK101.out 0).trans rfl
 have hcz17_1 : w9.cell? ⟨gb101, 1, none⟩ = some (.slice A0_1 l0_1.length c0_1) := (zX BK101.out 1).trans rfl
 have hcz17_2 : w9.cell? ⟨gb101, 2, none⟩ = some (.int .i64 a0_2) := (zX BK101.out 2).trans rfl
 have hcz17_3 : w9.cell? ⟨gb101, 3, none⟩ = some (.slice A0_3 l0_3.length c0_3) := (zX BK101.out 3).trans rfl
 have hfz17_0 := zY BK101.out 0
 have hfz17_1 := zY BK101.out 1
 have hfz17_2 := zY BK101.out 2
 have hfz17_3 := zY BK101.out 3
 try go_wp2
 go_loopg [17] k (fun kq v17 w' => ∃ (x17_1 : Int) (x107000_1 : List (S70)) (u107000 : Value), v17 = .int .i64 x17_1 ∧ Aside0 (rewrite_clone.l0 kq l0_0 (l0_0.length : Int) x17_1 l0_0 l0_1 a0_2 l0_3 x107000_1 a0_2 t103 = some (r1, r2, r3, r4)) ∧ Aside0 (kq ≤ k) ∧ Aside0 (Kd.S k70 70 w' w.heap.size (fun _ => True) u107000 x107000_1) ∧ Aside0 (Kd.R Kd.string 9 w' w.heap.size (fun _ => True) (.slice Ao10 t103.length co10) t103) ∧ Aside0 (w'.heap[gb101]? = some (.cells #[(.slice A0_0 l0_0.length c0_0), (.slice A0_1 l0_1.length c0_1), .int .i64 a0_2, (.slice A0_3 l0_3.length c0_3)] 28 (0, 0))) ∧ Aside0 (w'.heap[gb102]? = some (.cells #[(.slice none 0 0), (.slice none 0 0), .int .i64 0, (.slice none 0 0)] 28 (0, 0))) ∧ Aside0 (w'.heap[gb106]? = some (.cells #[u107000, (.slice none 0 0), .int .i64 a0_2, (.slice Ao10 t103.length co10)] 28 (0, 0))) ∧ Aside0 (Below w.heap.size w w'))
 case atStart => exact ⟨(0), (([] : List (S70))), (.slice none 0 0), zy, H', ⟨Nat.le_refl _⟩, ⟨by first | exact Kd.S_nil _ _ _ _ _ | exact Kd.N_nil _ _ _ _ _ | exact Kd.V_nil _ _ _ _ _ | exact Kd.Q_nil _ _ _ _ _ | exact Kd.R_nil _ _ _ _ _⟩, ⟨by (with_reducible repeat (first | apply Kd.R_alloc | apply Kd.R_drewN | apply Kd.R_drew)); exact Kd.R_mono (Kd.R_far (p := ⟨gb106, 3, none⟩) (Kd.R_far (p := ⟨gb106, 2, none⟩) (Kd.R_far (p := ⟨gb106, 1, none⟩) (Kd.R_far (p := ⟨gb106, 0, none⟩) (Kd.R_types HO105.out BK106.out (by decide)) (fun _ hk => hk.2) (.slice none 0 0)) (fun _ hk => hk.2) (.slice none 0 0)) (fun _ hk => hk.2) (.int .i64 a0_2)) (fun _ hk => hk.2) (.slice Ao10 t103.length co10)) (fun _ hk => trivial)⟩, ⟨by refine zk ?_; refine blk_far ?_ NB101_106.out _; refine zk ?_; refine blk_far ?_ NB101_106.out _; refine zk ?_; refine blk_far ?_ NB101_106.out _; refine zk ?_; refine blk_far ?_ NB101_106.out _; refine zk ?_; exact BK101.out⟩, ⟨by refine zk ?_; refine blk_far ?_ NB102_106.out _; refine zk ?_; refine blk_far ?_ NB102_106.out _; refine zk ?_; refine blk_far ?_ NB102_106.out _; refine zk ?_; refine blk_far ?_ NB102_106.out _; refine zk ?_; exact BK102.out⟩, ⟨by refine zk ?_; refine blk_put (cs := #[.slice none 0 0, .slice none 0 0, .int .i64 a0_2, .slice none 0 0]) ?_ 3 _ rfl; refine zk ?_; refine blk_put (cs := #[.slice none 0 0, .slice none 0 0, .int .i64 0, .slice none 0 0]) ?_ 2 _ rfl; refine zk ?_; refine blk_put (cs := #[.slice none 0 0, .slice none 0 0, .int .i64 0, .slice none 0 0]) ?_ 1 _ rfl; refine zk ?_; refine blk_put (cs := #[.slice none 0 0, .slice none 0 0, .int .i64 0, .slice none 0 0]) ?_ 0 _ rfl; refine zk ?_; exact BK106.out⟩, ⟨zb⟩⟩
 case round =>
  clear H'
  try clear c1
  try clear p2
  try clear c4
  try clear c7
  try clear c15
  try clear c16
  try clear hcz17_0
  try clear hcz17_1
  try clear hcz17_2
  try clear hcz17_3
  try clear hfz17_0
  try clear hfz17_1
  try clear hfz17_2
  try clear hfz17_3
  obtain ⟨x17_1, x107000_1, u107000, rfl, HA, HK1, HO_107000, HO_107003, BK101, BK102, BK106, HB⟩ := hrel
  cases gk with
  | zero => exact absurd HA.out (by simp [rewrite_clone.l0])
  | succ k1 =>
   have H := HA.out
   clear HA
   simp only [rewrite_clone.l0] at H
   by_cases c18 : x17_1 < (l0_0.length : Int)
   ·
    rw [if_pos c18] at H
    have c18b0 : decide (x17_1 < (l0_0.length : Int)) = true := zQ c18
    clear c18
    by_cases c19 : 0 ≤ x17_1
    ·
     rw [if_pos c19] at H
     have c19b0 : decide (0 ≤ x17_1) = true := zQ c19
     clear c19
     by_cases c20 : x17_1 < (l0_0.length : Int)
     ·
      rw [if_pos c20] at H
      have c20b0 : decide (x17_1 < (l0_0.length : Int)) = true := zQ c20
      clear c20
      replace H := zB H
      obtain ⟨t109, A210, H⟩ := H
      try dsimp only at H
      have A21 := zM A210
      clear A210
      by_cases c22 : x107000_1.length < 2513169434916
      ·
       rw [if_pos c22] at H
       have LMc22 := zM c22
       clear c22
       obtain ⟨y112, hy112⟩ : ∃ y_ : List (S70), y_ = (x107000_1 ++ [(⟨(rd_T70 l0_0 x17_1).f0, (⟨(rd_T70 l0_0 x17_1).f1.f0, (rd_T70 l0_0 x17_1).f1.f1⟩ : S54), t109⟩ : S70)]) := ⟨_, rfl⟩
       replace H : (rewrite_clone.l0 k1 l0_0 (l0_0.length : Int) (wrap64 (x17_1 + 1)) l0_0 l0_1 a0_2 l0_3 y112 a0_2 t103) = some (r1, r2, r3, r4) := by first | (rw [hy112]; with_reducible exact H) | (have H2_ := (Option.bind_some _ _).symm.trans H; rw [hy112]; with_reducible exact H2_) | (have H2_ := (Option.bind_some _ _).symm.trans H; with_reducible exact H2_) | with_reducible exact H | (rw [hy112]; exact H) | exact H
       have Ny112 := zM hy112
       clear hy112
       have H' := zM H
       clear H
       have p107 : 0 ≤ (x17_1 : Int) := zT zv
       have q107 : x17_1 < (l0_0.length : Int) := zT zv
       obtain ⟨ad107, A107_3, c107_3, e107, hx107_0, hx107_1, hx107_2, hx107_3, hl107_3, hi107_3⟩ := at_T70 HR0_0.out x17_1 p107 q107
       cases e107
       replace hx107_0 := (HB.out.cell (World.block_lt_of_cell? w _ hx107_0)).trans hx107_0
       replace hx107_1 := (HB.out.cell (World.block_lt_of_cell? w _ hx107_1)).trans hx107_1
       replace hx107_2 := (HB.out.cell (World.block_lt_of_cell? w _ hx107_2)).trans hx107_2
       replace hx107_3 := (HB.out.cell (World.block_lt_of_cell? w _ hx107_3)).trans hx107_3
       have HR107_3 := zM hi107_3
       have HC107_3 := zM hl107_3
       clear hi107_3 hl107_3
       replace p107 := eq_true p107
       replace q107 := eq_true q107
       go_wp2_with (first | ((with_reducible refine gate_dst (N := 5) rfl ?_); refine box_event ?hg (N := 5) ?hd (cs := #[.int .i64 0, .string (⟨#[]⟩ : ByteArray), .int .i64 0, .slice none 0 0]) (t := 70) ?hr ?_; (case hd => rfl); (case hg => rfl); (case hr => first | (go_simp; done) | (go_simp; rfl)); intro gb108 hg w23 hbox hb; replace HO_107000 := zM (Kd.S_below (Kd.S_elderB (Kd.S_below HO_107000.out zg) gb108 (Nat.le_of_eq hg.symm)) hb); replace HO_107003 := zM (Kd.R_below (zr HO_107003.out) hb); have BK108 := zM (hbox); have GW108 := zM (zh hg : w.heap.size ≤ gb108); have GE108 := zM (zh hg : w.heap.size ≤ gb108); replace HB := zM (below_step zb hb); have NB101_108 := zM ((by rw [hg]; exact Nat.ne_of_lt (blk_lt (zk BK101.out)) : gb101 ≠ gb108)); have NB108_101 := zM ((by rw [hg]; exact Nat.ne_of_gt (blk_lt (zk BK101.out)) : gb108 ≠ gb101)); replace BK101 := zM (blk_below (zk BK101.out) hb); have NB102_108 := zM ((by rw [hg]; exact Nat.ne_of_lt (blk_lt (zk BK102.out)) : gb102 ≠ gb108)); have NB108_102 := zM ((by rw [hg]; exact Nat.ne_of_gt (blk_lt (zk BK102.out)) : gb108 ≠ gb102)); replace BK102 := zM (blk_below (zk BK102.out) hb); have NB106_108 := zM ((by rw [hg]; exact Nat.ne_of_lt (blk_lt (zk BK106.out)) : gb106 ≠ gb108)); have NB108_106 := zM ((by rw [hg]; exact Nat.ne_of_gt (blk_lt (zk BK106.out)) : gb108 ≠ gb106)); replace BK106 := zM (blk_below (zk BK106.out) hb); clear hb hbox hg; have hnb24 := NB108_101.out; have hnc24 := NB101_108.out; have hnb25 := NB108_102.out; have hnc25 := NB102_108.out; have hnb26 := NB108_106.out; have hnc26 := NB106_108.out; have hcz27_0 : w23.cell? ⟨gb108, 0, none⟩ = some (.int .i64 0) := (zX BK108.out 0).trans rfl; have hcz27_1 : w23.cell? ⟨gb108, 1, none⟩ = some (.string (⟨#[]⟩ : ByteArray)) := (zX BK108.out 1).trans rfl; have hcz27_2 : w23.cell? ⟨gb108, 2, none⟩ = some (.int .i64 0) := (zX BK108.out 2).trans rfl; have hcz27_3 : w23.cell? ⟨gb108, 3, none⟩ = some (.slice none 0 0) := (zX BK108.out 3).trans rfl; have hfz27_0 := zY BK108.out 0; have hfz27_1 := zY BK108.out 1; have hfz27_2 := zY BK108.out 2; have hfz27_3 := zY BK108.out 3) | ((with_reducible refine gate_callee (f := 71) rfl ?_); refine goesL_ (some 23) rfl rfl Try.func71 (by kernel_rfl) rfl #[.slice A107_3 ((rd_T70 l0_0 x17_1).f2).length c107_3] rfl zl ?_; (with_reducible refine (api_Cell_71.calls _ _ ((rd_T70 l0_0 x17_1).f2) t109 _ ?side1 ?side2 A21.out).mono ?_); (case side1 => exact Kd.C_below HR107_3.out zb); (case side2 => exact HC107_3.out); rintro e w28 ⟨v110, rfl, ho0, hb⟩; refine ⟨_, rfl, ?_⟩; replace HO_107000 := zM (Kd.S_elder' (by (with_reducible repeat (first | apply Kd.S_alloc | apply Kd.S_drewN | apply Kd.S_drew)); exact (Kd.S_mono (Kd.S_far (p := ⟨gb108, 3, none⟩) (Kd.S_far (p := ⟨gb108, 2, none⟩) (Kd.S_far (p := ⟨gb108, 1, none⟩) (Kd.S_far (p := ⟨gb108, 0, none⟩) (Kd.S_mono HO_107000.out (fun k_ hk => (⟨hk, hk.2⟩ : _ ∧ k_ ≠ gb108))) (fun _ hk => hk.2) (.int .i64 ((rd_T70 l0_0 x17_1).f0))) (fun _ hk => hk.2) (.string ((rd_T70 l0_0 x17_1).f1.f0))) (fun _ hk => hk.2) (.int .i64 ((rd_T70 l0_0 x17_1).f1.f1))) (fun _ hk => hk.2) (.slice A107_3 ((rd_T70 l0_0 x17_1).f2).length c107_3)) (fun _ h_ => h_.1))) (Kd.R_base ho0) hb); replace HO_107003 := zM (Kd.R_below (by (with_reducible repeat (first | apply Kd.R_alloc | apply Kd.R_drewN | apply Kd.R_drew)); exact (Kd.R_mono (Kd.R_far (p := ⟨gb108, 3, none⟩) (Kd.R_far (p := ⟨gb108, 2, none⟩) (Kd.R_far (p := ⟨gb108, 1, none⟩) (Kd.R_far (p := ⟨gb108, 0, none⟩) (Kd.R_types HO_107003.out BK108.out (by decide)) (fun _ hk => hk.2) (.int .i64 ((rd_T70 l0_0 x17_1).f0))) (fun _ hk => hk.2) (.string ((rd_T70 l0_0 x17_1).f1.f0))) (fun _ hk => hk.2) (.int .i64 ((rd_T70 l0_0 x17_1).f1.f1))) (fun _ hk => hk.2) (.slice A107_3 ((rd_T70 l0_0 x17_1).f2).length c107_3)) (fun _ h_ => h_.1))) hb); have HO111 := zM (Kd.R_lower ho0 (below_size zb)); replace BK101 := zM (blk_below (g := gb101) (o := .cells #[.slice (some ad107) l0_0.length c0_0, .slice A0_1 l0_1.length c0_1, .int .i64 a0_2, .slice A0_3 l0_3.length c0_3] 28 (0, 0)) (by refine zk ?_; refine blk_far ?_ NB101_108.out _; refine zk ?_; refine blk_far ?_ NB101_108.out _; refine zk ?_; refine blk_far ?_ NB101_108.out _; refine zk ?_; refine blk_far ?_ NB101_108.out _; refine zk ?_; exact BK101.out) hb); replace BK102 := zM (blk_below (g := gb102) (o := .cells #[.slice none 0 0, .slice none 0 0, .int .i64 0, .slice none 0 0] 28 (0, 0)) (by refine zk ?_; refine blk_far ?_ NB102_108.out _; refine zk ?_; refine blk_far ?_ NB102_108.out _; refine zk ?_; refine blk_far ?_ NB102_108.out _; refine zk ?_; refine blk_far ?_ NB102_108.out _; refine zk ?_; exact BK102.out) hb); replace BK106 := zM (blk_below (g := gb106) (o := .cells #[u107000, .slice none 0 0, .int .i64 a0_2, .slice Ao10 t103.length co10] 28 (0, 0)) (by refine zk ?_; refine blk_far ?_ NB106_108.out _; refine zk ?_; refine blk_far ?_ NB106_108.out _; refine zk ?_; refine blk_far ?_ NB106_108.out _; refine zk ?_; refine blk_far ?_ NB106_108.out _; refine zk ?_; exact BK106.out) hb); replace BK108 := zM (blk_below (g := gb108) (o := .cells #[.int .i64 ((rd_T70 l0_0 x17_1).f0), .string ((rd_T70 l0_0 x17_1).f1.f0), .int .i64 ((rd_T70 l0_0 x17_1).f1.f1), .slice A107_3 ((rd_T70 l0_0 x17_1).f2).length c107_3] 70 (0, 0)) (by refine zk ?_; refine blk_put (cs := #[.int .i64 ((rd_T70 l0_0 x17_1).f0), .string ((rd_T70 l0_0 x17_1).f1.f0), .int .i64 ((rd_T70 l0_0 x17_1).f1.f1), .slice none 0 0]) ?_ 3 _ rfl; refine zk ?_; refine blk_put (cs := #[.int .i64 ((rd_T70 l0_0 x17_1).f0), .string ((rd_T70 l0_0 x17_1).f1.f0), .int .i64 0, .slice none 0 0]) ?_ 2 _ rfl; refine zk ?_; refine blk_put (cs := #[.int .i64 ((rd_T70 l0_0 x17_1).f0), .string (⟨#[]⟩ : ByteArray), .int .i64 0, .slice none 0 0]) ?_ 1 _ rfl; refine zk ?_; refine blk_put (cs := #[.int .i64 0, .string (⟨#[]⟩ : ByteArray), .int .i64 0, .slice none 0 0]) ?_ 0 _ rfl; refine zk ?_; exact BK108.out) hb); replace HB := zM (below_step zb hb); (try clear hb); (try clear ho0); obtain ⟨Ao29, co29, eo29⟩ := Kd.R_slice HO111.out; subst eo29; have hcz30_0 : w28.cell? ⟨gb108, 0, none⟩ = some (.int .i64 ((rd_T70 l0_0 x17_1).f0)) := (zX BK108.out 0).trans rfl; have hcz30_1 : w28.cell? ⟨gb108, 1, none⟩ = some (.string ((rd_T70 l0_0 x17_1).f1.f0)) := (zX BK108.out 1).trans rfl; have hcz30_2 : w28.cell? ⟨gb108, 2, none⟩ = some (.int .i64 ((rd_T70 l0_0 x17_1).f1.f1)) := (zX BK108.out 2).trans rfl; have hcz30_3 : w28.cell? ⟨gb108, 3, none⟩ = some (.slice A107_3 ((rd_T70 l0_0 x17_1).f2).length c107_3) := (zX BK108.out 3).trans rfl; have hfz30_0 := zY BK108.out 0; have hfz30_1 := zY BK108.out 1; have hfz30_2 := zY BK108.out 2; have hfz30_3 := zY BK108.out 3) | ((with_reducible refine gate_store (t := 23) (p := 24) rfl ?_); refine store_event (t := 23) (p := 24) (v := ?vo_w31) (w1 := (w28.setCell ⟨gb108, 3, none⟩ (.slice Ao29 t109.length co29))) ?hg ?ho ?hn ?hr ?_; (case ho => rfl); (case hg => rfl); (case hn => rfl); (case hr => first | (go_simp; done) | (go_simp; rfl)); intro w31 hw; have n0_ : Aside0 (Kd.S k70 70 w31 w.heap.size (fun k_ => some k_ ≠ (.slice Ao29 t109.length co29 : Value).ownBlock ∧ k_ ≠ gb108) u107000 x107000_1) := ⟨(by rw [hw]; exact (by (with_reducible repeat (first | apply Kd.S_alloc | apply Kd.S_drewN | apply Kd.S_drew)); exact Kd.S_mono (Kd.S_far (p := ⟨gb108, 3, none⟩) (Kd.S_mono HO_107000.out (fun k_ hk => (⟨hk, hk.1.2⟩ : _ ∧ k_ ≠ gb108))) (fun _ hk => hk.2) (.slice Ao29 t109.length co29)) (fun _ hk => ⟨hk.1.2, hk.1.1.2⟩)))⟩; have n1_ : Aside0 (Kd.R Kd.string 9 w31 w.heap.size (fun _ => True) (.slice Ao10 t103.length co10) t103) := ⟨(by rw [hw]; exact (by (with_reducible repeat (first | apply Kd.R_alloc | apply Kd.R_drewN | apply Kd.R_drew)); exact Kd.R_mono (Kd.R_far (p := ⟨gb108, 3, none⟩) (Kd.R_types HO_107003.out BK108.out (by decide)) (fun _ hk => hk.2) (.slice Ao29 t109.length co29)) (fun _ hk => trivial)))⟩; have n2_ : Aside0 (Kd.R k54 54 w31 w.heap.size (fun _ => True) (.slice Ao29 t109.length co29) t109) := ⟨(by rw [hw]; exact (by (with_reducible repeat (first | apply Kd.R_alloc | apply Kd.R_drewN | apply Kd.R_drew)); exact Kd.R_mono (Kd.R_far (p := ⟨gb108, 3, none⟩) (Kd.R_types HO111.out BK108.out (by decide)) (fun _ hk => hk.2) (.slice Ao29 t109.length co29)) (fun _ hk => trivial)))⟩; have n3_ : Aside0 (w31.heap[gb101]? = some (.cells #[.slice (some ad107) l0_0.length c0_0, .slice A0_1 l0_1.length c0_1, .int .i64 a0_2, .slice A0_3 l0_3.length c0_3] 28 (0, 0))) := ⟨(by rw [hw]; exact (by refine zk ?_; refine blk_far ?_ NB101_108.out _; refine zk ?_; exact BK101.out))⟩; have n4_ : Aside0 (w31.heap[gb102]? = some (.cells #[.slice none 0 0, .slice none 0 0, .int .i64 0, .slice none 0 0] 28 (0, 0))) := ⟨(by rw [hw]; exact (by refine zk ?_; refine blk_far ?_ NB102_108.out _; refine zk ?_; exact BK102.out))⟩; have n5_ : Aside0 (w31.heap[gb106]? = some (.cells #[u107000, .slice none 0 0, .int .i64 a0_2, .slice Ao10 t103.length co10] 28 (0, 0))) := ⟨(by rw [hw]; exact (by refine zk ?_; refine blk_far ?_ NB106_108.out _; refine zk ?_; exact BK106.out))⟩; have n6_ : Aside0 (w31.heap[gb108]? = some (.cells #[.int .i64 ((rd_T70 l0_0 x17_1).f0), .string ((rd_T70 l0_0 x17_1).f1.f0), .int .i64 ((rd_T70 l0_0 x17_1).f1.f1), .slice Ao29 t109.length co29] 70 (0, 0))) := ⟨(by rw [hw]; exact (by refine zk ?_; refine blk_put (cs := #[.int .i64 ((rd_T70 l0_0 x17_1).f0), .string ((rd_T70 l0_0 x17_1).f1.f0), .int .i64 ((rd_T70 l0_0 x17_1).f1.f1), .slice A107_3 ((rd_T70 l0_0 x17_1).f2).length c107_3]) ?_ 3 _ rfl; refine zk ?_; exact BK108.out))⟩; have n7_ : Aside0 (Below w.heap.size w w31) := ⟨(by rw [hw]; exact zb)⟩; clear hw; clear HO_107000; clear HO_107003; clear HO111; clear BK101; clear BK102; clear BK106; clear BK108; clear HB; have HO_107000 := n0_; have HO_107003 := n1_; have HO111 := n2_; have BK101 := n3_; have BK102 := n4_; have BK106 := n5_; have BK108 := n6_; have HB := n7_; clear n0_ n1_ n2_ n3_ n4_ n5_ n6_ n7_; have hnb32 := NB106_101.out; have hnc32 := NB101_106.out; have hnb33 := NB106_102.out; have hnc33 := NB102_106.out; have hcz34_0 : w31.cell? ⟨gb106, 0, none⟩ = some (u107000) := (zX BK106.out 0).trans rfl; have hcz34_1 : w31.cell? ⟨gb106, 1, none⟩ = some (.slice none 0 0) := (zX BK106.out 1).trans rfl; have hcz34_2 : w31.cell? ⟨gb106, 2, none⟩ = some (.int .i64 a0_2) := (zX BK106.out 2).trans rfl; have hcz34_3 : w31.cell? ⟨gb106, 3, none⟩ = some (.slice Ao10 t103.length co10) := (zX BK106.out 3).trans rfl; have hfz34_0 := zY BK106.out 0; have hfz34_1 := zY BK106.out 1; have hfz34_2 := zY BK106.out 2; have hfz34_3 := zY BK106.out 3; have hcz35_0 : w31.cell? ⟨gb108, 0, none⟩ = some (.int .i64 ((rd_T70 l0_0 x17_1).f0)) := (zX BK108.out 0).trans rfl; have hcz35_1 : w31.cell? ⟨gb108, 1, none⟩ = some (.string ((rd_T70 l0_0 x17_1).f1.f0)) := (zX BK108.out 1).trans rfl; have hcz35_2 : w31.cell? ⟨gb108, 2, none⟩ = some (.int .i64 ((rd_T70 l0_0 x17_1).f1.f1)) := (zX BK108.out 2).trans rfl; have hcz35_3 : w31.cell? ⟨gb108, 3, none⟩ = some (.slice Ao29 t109.length co29) := (zX BK108.out 3).trans rfl; have hfz35_0 := zY BK108.out 0; have hfz35_1 := zY BK108.out 1; have hfz35_2 := zY BK108.out 2; have hfz35_3 := zY BK108.out 3) | ((with_reducible refine gate_builtin (b := .append) (xs := #[.tmp 26, .tmp 28]) rfl ?_); at_builtin; refine Kd.S_append k70 (w0 := w) w.heap.size rfl (.tmp 26) (.tmp 28) 24 70 (.agg #[(.int .i64 0), (.string ⟨#[]⟩), (.int .i64 0), (.slice none 0 0)]) 56 rfl Try.underlying24 info70 rfl (by decide) (by omega) u107000 x107000_1 (⟨(rd_T70 l0_0 x17_1).f0, (⟨(rd_T70 l0_0 x17_1).f1.f0, (rd_T70 l0_0 x17_1).f1.f1⟩ : S54), t109⟩ : S70) [.int .i64 ((rd_T70 l0_0 x17_1).f0), .string ((rd_T70 l0_0 x17_1).f1.f0), .int .i64 ((rd_T70 l0_0 x17_1).f1.f1), .slice Ao29 t109.length co29] (fun k_ => k_ ≠ gb108) (fun k_ => some k_ = (.slice Ao29 t109.length co29 : Value).ownBlock) rfl rfl ?aP (fun k_ hk_ => ((Kd.R_mono (ok' := fun k_ => ((fun k_ => k_ ≠ gb108)) k_ ∧ some k_ ≠ (u107000 : Value).ownBlock) (Kd.R_types (Kd.R_apart' (HO111.out) (Kd.S_typed HO_107000.out) (by decide)) BK108.out (by decide)) (fun k_ hk => ⟨hk.2, hk.1.2⟩))).1 k_ hk_.symm) ?aF ?aO ?aB ?aS ?aL ?_; (case aP => exact k70_mkM _ _ _ (⟨(rd_T70 l0_0 x17_1).f0, (⟨(rd_T70 l0_0 x17_1).f1.f0, (rd_T70 l0_0 x17_1).f1.f1⟩ : S54), t109⟩ : S70) (Kd.R_mono (Kd.R_tight rfl (Kd.R_mono (ok' := fun k_ => ((fun k_ => k_ ≠ gb108)) k_ ∧ some k_ ≠ (u107000 : Value).ownBlock) (Kd.R_types (Kd.R_apart' (HO111.out) (Kd.S_typed HO_107000.out) (by decide)) BK108.out (by decide)) (fun k_ hk => ⟨hk.2, hk.1.2⟩))) (fun _ h_ => h_))); (case aB => exact zb); (case aF => exact (fun k_ hk => Kd.freshB (g := gb108) (o := .cells #[.int .i64 ((rd_T70 l0_0 x17_1).f0), .string ((rd_T70 l0_0 x17_1).f1.f0), .int .i64 ((rd_T70 l0_0 x17_1).f1.f1), .slice Ao29 t109.length co29] 70 (0, 0)) (zk BK108.out) k_ hk)); (case aO => exact (by (with_reducible repeat (first | apply Kd.S_alloc | apply Kd.S_drewN | apply Kd.S_drew)); exact Kd.S_mono HO_107000.out (fun k_ hk => ⟨hk.2, fun e_ => hk.1 e_⟩))); (case aS => exact (below_size zb)); (case aL => have := LMc22.out; omega); intro v113 w36 ho hb hg hat; rw [← Ny112.out] at ho; replace HO_107003 := zM (Kd.R_over' (zr HO_107003.out) (Kd.S_typed (Kd.S_below HO_107000.out zg)) (by decide) hg); replace BK101 := zM (blk_grown (g := gb101) (o := .cells #[.slice (some ad107) l0_0.length c0_0, .slice A0_1 l0_1.length c0_1, .int .i64 a0_2, .slice A0_3 l0_3.length c0_3] 28 (0, 0)) (zk BK101.out) hg (Kd.S_ne HO_107000.out BK101.out (by decide))); replace BK102 := zM (blk_grown (g := gb102) (o := .cells #[.slice none 0 0, .slice none 0 0, .int .i64 0, .slice none 0 0] 28 (0, 0)) (zk BK102.out) hg (Kd.S_ne HO_107000.out BK102.out (by decide))); replace BK106 := zM (blk_grown (g := gb106) (o := .cells #[u107000, .slice none 0 0, .int .i64 a0_2, .slice Ao10 t103.length co10] 28 (0, 0)) (zk BK106.out) hg (Kd.S_ne HO_107000.out BK106.out (by decide))); replace BK108 := zM (blk_grown (g := gb108) (o := .cells #[.int .i64 ((rd_T70 l0_0 x17_1).f0), .string ((rd_T70 l0_0 x17_1).f1.f0), .int .i64 ((rd_T70 l0_0 x17_1).f1.f1), .slice Ao29 t109.length co29] 70 (0, 0)) (zk BK108.out) hg (Kd.S_away HO_107000.out (fun _ hk => hk.2))); replace HB := zM (hb); have HO114 := zM (ho); clear HO111 HO_107000; clear ho hb hg hat; obtain ⟨Ao37, co37, eo37⟩ := Kd.S_slice HO114.out; subst eo37; have hcz38_0 : w36.cell? ⟨gb106, 0, none⟩ = some (u107000) := (zX BK106.out 0).trans rfl; have hcz38_1 : w36.cell? ⟨gb106, 1, none⟩ = some (.slice none 0 0) := (zX BK106.out 1).trans rfl; have hcz38_2 : w36.cell? ⟨gb106, 2, none⟩ = some (.int .i64 a0_2) := (zX BK106.out 2).trans rfl; have hcz38_3 : w36.cell? ⟨gb106, 3, none⟩ = some (.slice Ao10 t103.length co10) := (zX BK106.out 3).trans rfl; have hfz38_0 := zY BK106.out 0; have hfz38_1 := zY BK106.out 1; have hfz38_2 := zY BK106.out 2; have hfz38_3 := zY BK106.out 3))
       go_roundg k1
       case measure => have := HK1.out; omega
       case rel => exact ⟨(wrap64 (x17_1 + 1)), (y112), (.slice Ao37 y112.length co37), zy, H', ⟨by have := HK1.out; omega⟩, ⟨by (with_reducible repeat (first | apply Kd.S_alloc | apply Kd.S_drewN | apply Kd.S_drew)); exact Kd.S_mono (Kd.S_far (p := ⟨gb106, 0, none⟩) (Kd.S_types HO114.out BK106.out (by decide)) (fun _ hk => hk.2) (.slice Ao37 y112.length co37)) (fun _ hk => trivial)⟩, ⟨by (with_reducible repeat (first | apply Kd.R_alloc | apply Kd.R_drewN | apply Kd.R_drew)); exact Kd.R_mono (Kd.R_far (p := ⟨gb106, 0, none⟩) (Kd.R_types HO_107003.out BK106.out (by decide)) (fun _ hk => hk.2) (.slice Ao37 y112.length co37)) (fun _ hk => trivial)⟩, ⟨by refine zk ?_; refine blk_far ?_ NB101_106.out _; refine zk ?_; exact BK101.out⟩, ⟨by refine zk ?_; refine blk_far ?_ NB102_106.out _; refine zk ?_; exact BK102.out⟩, ⟨by refine zk ?_; refine blk_put (cs := #[u107000, .slice none 0 0, .int .i64 a0_2, .slice Ao10 t103.length co10]) ?_ 0 _ rfl; refine zk ?_; exact BK106.out⟩, ⟨zb⟩⟩
      ·
       rw [if_neg c22] at H
       exact absurd H (by simp)
     ·
      rw [if_neg c20] at H
      exact absurd H (by simp)
    ·
     rw [if_neg c19] at H
     exact absurd H (by simp)
   ·
    rw [if_neg c18] at H
    have c18b0 : decide (x17_1 < (l0_0.length : Int)) = false := zR c18
    clear c18
    have H' := zM H
    clear H
    have hnb39 := NB101_102.out
    have hnc39 := NB102_101.out
    have hnb40 := NB101_106.out
    have hnc40 := NB106_101.out
    have hcz41_0 : wr.cell? ⟨gb101, 0, none⟩ = some (.slice A0_0 l0_0.length c0_0) := (zX BK101.out 0).trans rfl
    have hcz41_1 : wr.cell? ⟨gb101, 1, none⟩ = some (.slice A0_1 l0_1.length c0_1) := (zX BK101.out 1).trans rfl
    have hcz41_2 : wr.cell? ⟨gb101, 2, none⟩ = some (.int .i64 a0_2) := (zX BK101.out 2).trans rfl
    have hcz41_3 : wr.cell? ⟨gb101, 3, none⟩ = some (.slice A0_3 l0_3.length c0_3) := (zX BK101.out 3).trans rfl
    have hfz41_0 := zY BK101.out 0
    have hfz41_1 := zY BK101.out 1
    have hfz41_2 := zY BK101.out 2
    have hfz41_3 := zY BK101.out 3
    go_wp2
    go_loopg [35] k1 (fun kq v35 w' => ∃ (x35_2 : Int) (x107001_2 : List (List (S54))) (u107001 : Value), v35 = .int .i64 x35_2 ∧ Aside0 (rewrite_clone.l1 kq l0_1 (l0_1.length : Int) x35_2 x107000_1 x107001_2 a0_2 t103 = some (r1, r2, r3, r4)) ∧ Aside0 (kq ≤ k1) ∧ Aside0 (Kd.S k70 70 w' w.heap.size (fun _ => True) u107000 x107000_1) ∧ Aside0 (Kd.S (Kd.slice 54 k54) 23 w' w.heap.size (fun _ => True) u107001 x107001_2) ∧ Aside0 (Kd.R Kd.string 9 w' w.heap.size (fun _ => True) (.slice Ao10 t103.length co10) t103) ∧ Aside0 (w'.heap[gb101]? = some (.cells #[(.slice A0_0 l0_0.length c0_0), (.slice A0_1 l0_1.length c0_1), .int .i64 a0_2, (.slice A0_3 l0_3.length c0_3)] 28 (0, 0))) ∧ Aside0 (w'.heap[gb102]? = some (.cells #[(.slice none 0 0), (.slice none 0 0), .int .i64 0, (.slice none 0 0)] 28 (0, 0))) ∧ Aside0 (w'.heap[gb106]? = some (.cells #[u107000, u107001, .int .i64 a0_2, (.slice Ao10 t103.length co10)] 28 (0, 0))) ∧ Aside0 (Below w.heap.size w w'))
    case atStart => exact ⟨(0), (([] : List (List (S54)))), (.slice none 0 0), zy, H', ⟨Nat.le_refl _⟩, ⟨Kd.S_below HO_107000.out zg⟩, ⟨by first | exact Kd.S_nil _ _ _ _ _ | exact Kd.N_nil _ _ _ _ _ | exact Kd.V_nil _ _ _ _ _ | exact Kd.Q_nil _ _ _ _ _ | exact Kd.R_nil _ _ _ _ _⟩, ⟨zr HO_107003.out⟩, ⟨by refine zk ?_; exact BK101.out⟩, ⟨by refine zk ?_; exact BK102.out⟩, ⟨by refine zk ?_; exact BK106.out⟩, ⟨zb⟩⟩
    case round =>
     clear H'
     try clear c1
     try clear p1
     try clear q1
     try clear hx1
     try clear c2
     try clear p2
     try clear c3
     try clear c4
     try clear p6
     try clear c7
     try clear c10
     try clear p10
     try clear q10
     try clear hx10
     try clear c15
     try clear c16
     try clear c18
     try clear c18b0
     try clear c19
     try clear c19b0
     try clear c20
     try clear c20b0
     try clear c22
     try clear c24
     try clear c25
     try clear c26
     try clear c32
     try clear c33
     try clear c39
     try clear c40
     try clear hcz17_0
     try clear hcz17_1
     try clear hcz17_2
     try clear hcz17_3
     try clear hcz27_0
     try clear hcz27_1
     try clear hcz27_2
     try clear hcz27_3
     try clear hcz30_0
     try clear hcz30_1
     try clear hcz30_2
     try clear hcz30_3
     try clear hcz34_0
     try clear hcz34_1
     try clear hcz34_2
     try clear hcz34_3
     try clear hcz35_0
     try clear hcz35_1
     try clear hcz35_2
     try clear hcz35_3
     try clear hcz38_0
     try clear hcz38_1
     try clear hcz38_2
     try clear hcz38_3
     try clear hcz41_0
     try clear hcz41_1
     try clear hcz41_2
     try clear hcz41_3
     try clear hfz17_0
     try clear hfz17_1
     try clear hfz17_2
     try clear hfz17_3
     try clear hfz27_0
     try clear hfz27_1
     try clear hfz27_2
     try clear hfz27_3
     try clear hfz30_0
     try clear hfz30_1
     try clear hfz30_2
     try clear hfz30_3
     try clear hfz34_0
     try clear hfz34_1
     try clear hfz34_2
     try clear hfz34_3
     try clear hfz35_0
     try clear hfz35_1
     try clear hfz35_2
     try clear hfz35_3
     try clear hfz38_0
     try clear hfz38_1
     try clear hfz38_2
     try clear hfz38_3
     try clear hfz41_0
     try clear hfz41_1
     try clear hfz41_2
     try clear hfz41_3
     try clear hx107_0
     try clear hx107_1
     try clear hx107_2
     try clear hx107_3
     try clear p107
     try clear p2
     try clear q107
     obtain ⟨x35_2, x107001_2, u107001, rfl, HA, HK2, HO_107000, HO_107001, HO_107003, BK101, BK102, BK106, HB⟩ := hrel
     cases gk with
     | zero => exact absurd HA.out (by simp [rewrite_clone.l1])
     | succ k2 =>
      have H := HA.out
      clear HA
      simp only [rewrite_clone.l1] at H
      by_cases c42 : x35_2 < (l0_1.length : Int)
      ·
       rw [if_pos c42] at H
       have c42b0 : decide (x35_2 < (l0_1.length : Int)) = true := zQ c42
       clear c42
       by_cases c43 : 0 ≤ x35_2
       ·
        rw [if_pos c43] at H
        have c43b0 : decide (0 ≤ x35_2) = true := zQ c43
        clear c43
        by_cases c44 : x35_2 < (l0_1.length : Int)
        ·
         rw [if_pos c44] at H
         have c44b0 : decide (x35_2 < (l0_1.length : Int)) = true := zQ c44
         clear c44
         replace H := zB H
         obtain ⟨t116, A450, H⟩ := H
         try dsimp only at H
         have A45 := zM A450
         clear A450
         by_cases c46 : x107001_2.length < 5864062014805
         ·
          rw [if_pos c46] at H
          have LMc46 := zM c46
          clear c46
          obtain ⟨y119, hy119⟩ : ∃ y_ : List (List (S54)), y_ = (x107001_2 ++ [t116]) := ⟨_, rfl⟩
          replace H : (rewrite_clone.l1 k2 l0_1 (l0_1.length : Int) (wrap64 (x35_2 + 1)) x107000_1 y119 a0_2 t103) = some (r1, r2, r3, r4) := by first | (rw [hy119]; with_reducible exact H) | (have H2_ := (Option.bind_some _ _).symm.trans H; rw [hy119]; with_reducible exact H2_) | (have H2_ := (Option.bind_some _ _).symm.trans H; with_reducible exact H2_) | with_reducible exact H | (rw [hy119]; exact H) | exact H
          have Ny119 := zM hy119
          clear hy119
          have H' := zM H
          clear H
          have p115 : 0 ≤ (x35_2 : Int) := zT zv
          have q115 : x35_2 < (l0_1.length : Int) := zT zv
          obtain ⟨ad115, A115_0, c115_0, e115, hx115_0, hl115_0, hi115_0⟩ := at_L3 HR0_1.out x35_2 p115 q115
          cases e115
          replace hx115_0 := (HB.out.cell (World.block_lt_of_cell? w _ hx115_0)).trans hx115_0
          have HR115_0 := zM hi115_0
          have HC115_0 := zM hl115_0
          clear hi115_0 hl115_0
          replace p115 := eq_true p115
          replace q115 := eq_true q115
          try go_wp2
          have n0_ := zM (Kd.S_drew HO_107000.out)
          have n1_ := zM (Kd.S_drew HO_107001.out)
          have n2_ := zM (Kd.R_drew HO_107003.out)
          have n3_ := zM (blk_drew BK101.out)
          have n4_ := zM (blk_drew BK102.out)
          have n5_ := zM (blk_drew BK106.out)
          have n6_ := zM (zD HB.out)
          clear HO_107000
          clear HO_107001
          clear HO_107003
          clear BK101
          clear BK102
          clear BK106
          clear HB
          have HO_107000 := n0_
          have HO_107001 := n1_
          have HO_107003 := n2_
          have BK101 := n3_
          have BK102 := n4_
          have BK106 := n5_
          have HB := n6_
          clear n0_ n1_ n2_ n3_ n4_ n5_ n6_
          refine start_ (n := 8) (S := fun w' => w'.cell? ⟨gb106, 0, none⟩ = some (u107000) ∧ w'.cell? ⟨gb106, 1, none⟩ = some (u107001) ∧ w'.cell? ⟨gb106, 2, none⟩ = some (.int .i64 a0_2) ∧ w'.cell? ⟨gb106, 3, none⟩ = some (.slice Ao10 t103.length co10)) (ds := [7]) #[false, false, false, false, false, false, false, false] (by kernel_rfl) rfl rfl ⟨(zX BK106.out 0).trans rfl, (zX BK106.out 1).trans rfl, (zX BK106.out 2).trans rfl, (zX BK106.out 3).trans rfl⟩ (fun hHeld => ?_); refine with_tabW rewrite_clone.tab11 rewrite_clone.bits11 (fun HT_ HW_ => ?_)
          generalize wr.drew = w47 at HO_107000 HO_107001 HO_107003 BK101 BK102 BK106 HB hHeld ⊢
          refine pure_ (i := 0) (N := some 39) (v := ?_) (a' := ?_) #[true, false, false, false, false, false, false, false] rfl rfl (any_of HT_.out (by kernel_rfl)) (fun _ _ _ h => h) (Or.inl ⟨by rfl, ?_⟩) ?_ ?_
          rotate_left
          ·
           intro w'
           go_simp
           with_reducible rfl
          rotate_left
          ·
           simp only [Act.put, zp1, zp2, zp3, i64_w, i32_w]
           rfl
          refine pure_ (i := 2) (N := some 41) (v := ?_) (a' := ?_) #[true, false, true, false, false, false, false, false] rfl rfl (any_of HT_.out (by kernel_rfl)) (fun _ _ _ h => h) (Or.inl ⟨by rfl, ?_⟩) ?_ ?_
          rotate_left
          ·
           intro w'
           go_simp
           with_reducible rfl
          rotate_left
          ·
           simp only [Act.put, zp1, zp2, zp3, i64_w, i32_w]
           rfl
          refine take_ (i := 1) (N := some 40) (v := ?_) (a' := ?_) #[true, true, true, false, false, false, false, false] rfl rfl (take_ofW HT_.out HW_.out (by kernel_rfl)) (fun _ _ _ h => h) (Or.inl ⟨by rfl, ?_⟩) hHeld ?_ ?_
          rotate_left
          ·
           rintro w' ⟨s0, s1, s2, s3⟩
           go_simp
           with_reducible rfl
          rotate_left
          ·
           simp only [Act.put, zp1, zp2, zp3, i64_w, i32_w]
           rfl
          refine one_ (i := 3) (N := some 42) #[true, true, true, true, false, false, false, false] rfl rfl (one_of HT_.out (by kernel_rfl)) (by decide) (fun K hK => ?_)
          refine goes_ Try.func71 (by kernel_rfl) rfl #[.slice A115_0 (rd_L3 l0_1 x35_2).length c115_0] (by rfl) rfl rfl zl ?_
          with_reducible refine (api_Cell_71.calls _ _ (rd_L3 l0_1 x35_2) t116 _ ?side1 ?side2 A45.out).mono ?_
          (case side1 => exact Kd.C_below HR115_0.out zb)
          (case side2 => exact HC115_0.out)
          rintro e w48 ⟨v117, rfl, ho0, hb⟩
          refine ⟨_, rfl, ?_⟩
          have n0_ := zM (Kd.S_elder' (Kd.S_below HO_107000.out zg) (Kd.R_base ho0) hb)
          have n1_ := zM (Kd.S_elder' (Kd.S_below HO_107001.out zg) (Kd.R_base ho0) hb)
          have n2_ := zM (Kd.R_below (zr HO_107003.out) hb)
          have n3_ := zM (Kd.R_lower ho0 (below_size zb))
          have n4_ := zM (blk_below (zk BK101.out) hb)
          have n5_ := zM (blk_below (zk BK102.out) hb)
          have n6_ := zM (blk_below (zk BK106.out) hb)
          have n7_ := zM (below_step zb hb)
          clear HO_107000
          clear HO_107001
          clear HO_107003
          clear BK101
          clear BK102
          clear BK106
          clear HB
          have HO_107000 := n0_
          have HO_107001 := n1_
          have HO_107003 := n2_
          have HO118 := n3_
          have BK101 := n4_
          have BK102 := n5_
          have BK106 := n6_
          have HB := n7_
          clear n0_ n1_ n2_ n3_ n4_ n5_ n6_ n7_
          (try clear hb)
          (try clear hb2)
          (try clear hk)
          (try clear hi)
          (try clear ho0)
          obtain ⟨Ao50, co50, eo50⟩ := Kd.R_slice HO118.out
          (first | subst eo50 | (injection eo50 with f1_ f2_ f3_; have f4_ := f1_.symm; have f5_ := f3_.symm; clear f1_ f2_ f3_; subst f4_; subst f5_))
          refine hK.out _ _ ⟨(zX BK106.out 0).trans rfl, (zX BK106.out 1).trans rfl, (zX BK106.out 2).trans rfl, (zX BK106.out 3).trans rfl⟩ (fun hHeld => ?_)
          clear hK K
          refine norm_ (a' := ?_) ?_ ?_
          rotate_left
          ·
           show Act.put _ (some 42) _ = _
           simp only [Act.put, zp1, zp2, zp3, i64_w, i32_w]
           rfl
          refine one_ (i := 4) (N := some 43) #[true, true, true, true, true, false, false, false] rfl rfl (one_of HT_.out (by kernel_rfl)) (by decide) (fun K hK => ?_)
          refine value_ (w1 := ?_) (v := ?_) (by rfl) rfl ?_ ?_
          rotate_left 2
          ·
           go_simp
           constructor
           ·
            rfl
           ·
            rfl
          refine hK.out _ _ ⟨(zX (blk_alloc BK106.out _) 0).trans rfl, (zX (blk_alloc BK106.out _) 1).trans rfl, (zX (blk_alloc BK106.out _) 2).trans rfl, (zX (blk_alloc BK106.out _) 3).trans rfl⟩ (fun hHeld => ?_)
          clear hK K
          refine norm_ (a' := ?_) ?_ ?_
          rotate_left
          ·
           show Act.put _ (some 43) _ = _
           simp only [Act.put, zp1, zp2, zp3, i64_w, i32_w]
           rfl
          refine one_ (i := 5) (N := some 44) #[true, true, true, true, true, true, false, false] rfl rfl (one_of HT_.out (by kernel_rfl)) (by decide) (fun K hK => ?_)
          refine Kd.S_append_step (Kd.slice 54 k54) (w0 := w) w.heap.size (by rfl) (.tmp 40) (.tmp 43) 25 23 (.slice none 0 0) 24 rfl Try.underlying25 info23 rfl (by decide) (by omega) u107001 x107001_2 t116 [.slice Ao50 t116.length co50] (fun _ => True) (fun k_ => some k_ = (.slice Ao50 t116.length co50 : Value).ownBlock) rfl rfl ?aP (fun k_ hk_ => ((Kd.R_mono (ok' := fun k_ => ((fun _ => True)) k_ ∧ some k_ ≠ (u107001 : Value).ownBlock) (Kd.R_apart' (HO118.out) (Kd.S_typed HO_107001.out) (by decide)) (fun k_ hk => ⟨trivial, hk.2⟩))).1 k_ hk_.symm) ?aF ?aO ?aB ?aS ?aL ?_
          (case aP => exact Kd.M_row (Kd.R_mono (Kd.R_tight rfl (Kd.R_mono (ok' := fun k_ => ((fun _ => True)) k_ ∧ some k_ ≠ (u107001 : Value).ownBlock) (Kd.R_apart' (HO118.out) (Kd.S_typed HO_107001.out) (by decide)) (fun k_ hk => ⟨trivial, hk.2⟩))) (fun _ h_ => h_)))
          (case aB => exact zb)
          (case aF => exact (fun _ _ => trivial))
          (case aO => exact (by (with_reducible repeat (first | apply Kd.S_alloc | apply Kd.S_drewN | apply Kd.S_drew)); exact Kd.S_mono HO_107001.out (fun k_ hk => ⟨trivial, fun e_ => hk.2 e_⟩)))
          (case aS => exact (below_size zb))
          (case aL => have := LMc46.out; omega)
          intro v120 w49 ho hb hg hat
          rw [← Ny119.out] at ho
          have n0_ := zM (Kd.S_over' (Kd.S_below HO_107000.out zg) (Kd.S_typed (Kd.S_below HO_107001.out zg)) (by decide) hg)
          have n1_ := zM (Kd.R_over' (zr HO_107003.out) (Kd.S_typed (Kd.S_below HO_107001.out zg)) (by decide) hg)
          have n2_ := zM (blk_grown (g := gb101) (o := .cells #[.slice A0_0 l0_0.length c0_0, .slice (some ad115) l0_1.length c0_1, .int .i64 a0_2, .slice A0_3 l0_3.length c0_3] 28 (0, 0)) (zk BK101.out) hg (Kd.S_ne HO_107001.out BK101.out (by decide)))
          have n3_ := zM (blk_grown (g := gb102) (o := .cells #[.slice none 0 0, .slice none 0 0, .int .i64 0, .slice none 0 0] 28 (0, 0)) (zk BK102.out) hg (Kd.S_ne HO_107001.out BK102.out (by decide)))
          have n4_ := zM (blk_grown (g := gb106) (o := .cells #[u107000, u107001, .int .i64 a0_2, .slice Ao10 t103.length co10] 28 (0, 0)) (zk BK106.out) hg (Kd.S_ne HO_107001.out BK106.out (by decide)))
          have n5_ := zM (hb)
          have n6_ := zM (ho)
          clear HO_107000
          clear HO_107003
          clear BK101
          clear BK102
          clear BK106
          clear HB
          clear HO_107001
          clear HO118
          have HO_107000 := n0_
          have HO_107003 := n1_
          have BK101 := n2_
          have BK102 := n3_
          have BK106 := n4_
          have HB := n5_
          have HO121 := n6_
          clear n0_ n1_ n2_ n3_ n4_ n5_ n6_
          clear ho hb hg hat
          obtain ⟨Ao51, co51, eo51⟩ := Kd.S_slice HO121.out
          (first | subst eo51 | (injection eo51 with f1_ f2_ f3_; have f4_ := f1_.symm; have f5_ := f3_.symm; clear f1_ f2_ f3_; subst f4_; subst f5_))
          refine hK.out _ _ ⟨(zX BK106.out 0).trans rfl, (zX BK106.out 1).trans rfl, (zX BK106.out 2).trans rfl, (zX BK106.out 3).trans rfl⟩ (fun hHeld => ?_)
          clear hK K
          refine norm_ (a' := ?_) ?_ ?_
          rotate_left
          ·
           show Act.put _ (some 44) _ = _
           simp only [Act.put, zp1, zp2, zp3, i64_w, i32_w]
           rfl
          refine pure_ (i := 6) (N := some 45) (v := ?_) (a' := ?_) #[true, true, true, true, true, true, true, false] rfl rfl (any_of HT_.out (by kernel_rfl)) (fun _ _ _ h => h) (Or.inl ⟨by rfl, ?_⟩) ?_ ?_
          rotate_left
          ·
           intro w'
           go_simp
           with_reducible rfl
          rotate_left
          ·
           simp only [Act.put, zp1, zp2, zp3, i64_w, i32_w]
           rfl
          refine last_ (i := 7) (N := none) #[true, true, true, true, true, true, true, true] rfl rfl (one_of HT_.out (by kernel_rfl)) (by decide) (fun K hK => ?_)
          have hs52 : w49.cell? ⟨gb106, 1, none⟩ = some (u107001) := (zX BK106.out 1).trans rfl
          have hfs52 := zY BK106.out 1
          have hns52_0 := NB101_106.out
          have hns52_1 := NB102_106.out
          have hms52_0 := NB106_101.out
          have hms52_1 := NB106_102.out
          refine skip_ (w1 := ?_) (by rfl) rfl ?_ ?_
          rotate_left
          ·
           go_simp
           rfl
          refine hK.out _ _ ?_
          clear hK K
          refine done_ (done_of HT_.out (by kernel_rfl)) ?_
          try go_wp2
          go_roundg k2
          case measure => have := HK1.out; have := HK2.out; omega
          case rel => exact ⟨(wrap64 (x35_2 + 1)), (y119), (.slice Ao51 y119.length co51), zy, H', ⟨by have := HK1.out; have := HK2.out; omega⟩, ⟨by (with_reducible repeat (first | apply Kd.S_alloc | apply Kd.S_drewN | apply Kd.S_drew)); exact Kd.S_mono (Kd.S_far (p := ⟨gb106, 1, none⟩) (Kd.S_types HO_107000.out BK106.out (by decide)) (fun _ hk => hk.2) (.slice Ao51 y119.length co51)) (fun _ hk => trivial)⟩, ⟨by (with_reducible repeat (first | apply Kd.S_alloc | apply Kd.S_drewN | apply Kd.S_drew)); exact Kd.S_mono (Kd.S_far (p := ⟨gb106, 1, none⟩) (Kd.S_types HO121.out BK106.out (by decide)) (fun _ hk => hk.2) (.slice Ao51 y119.length co51)) (fun _ hk => trivial)⟩, ⟨by (with_reducible repeat (first | apply Kd.R_alloc | apply Kd.R_drewN | apply Kd.R_drew)); exact Kd.R_mono (Kd.R_far (p := ⟨gb106, 1, none⟩) (Kd.R_types HO_107003.out BK106.out (by decide)) (fun _ hk => hk.2) (.slice Ao51 y119.length co51)) (fun _ hk => trivial)⟩, ⟨by refine zk ?_; refine blk_far ?_ NB101_106.out _; refine zk ?_; exact BK101.out⟩, ⟨by refine zk ?_; refine blk_far ?_ NB102_106.out _; refine zk ?_; exact BK102.out⟩, ⟨by refine zk ?_; refine blk_put (cs := #[u107000, u107001, .int .i64 a0_2, .slice Ao10 t103.length co10]) ?_ 1 _ rfl; refine zk ?_; exact BK106.out⟩, ⟨zb⟩⟩
         ·
          rw [if_neg c46] at H
          exact absurd H (by simp)
        ·
         rw [if_neg c44] at H
         exact absurd H (by simp)
       ·
        rw [if_neg c43] at H
        exact absurd H (by simp)
      ·
       rw [if_neg c42] at H
       have c42b0 : decide (x35_2 < (l0_1.length : Int)) = false := zR c42
       clear c42
       simp only [Option.some.injEq, Prod.mk.injEq] at H
       obtain ⟨rfl, rfl, rfl, rfl⟩ := H
       have hnb53 := NB106_101.out
       have hnc53 := NB101_106.out
       have hnb54 := NB106_102.out
       have hnc54 := NB102_106.out
       have hcz55_0 : wr.cell? ⟨gb106, 0, none⟩ = some (u107000) := (zX BK106.out 0).trans rfl
       have hcz55_1 : wr.cell? ⟨gb106, 1, none⟩ = some (u107001) := (zX BK106.out 1).trans rfl
       have hcz55_2 : wr.cell? ⟨gb106, 2, none⟩ = some (.int .i64 a0_2) := (zX BK106.out 2).trans rfl
       have hcz55_3 : wr.cell? ⟨gb106, 3, none⟩ = some (.slice Ao10 t103.length co10) := (zX BK106.out 3).trans rfl
       have hfz55_0 := zY BK106.out 0
       have hfz55_1 := zY BK106.out 1
       have hfz55_2 := zY BK106.out 2
       have hfz55_3 := zY BK106.out 3
       obtain ⟨Ao56, co56, eo56⟩ := Kd.S_slice HO_107000.out
       subst eo56
       have hnb57 := NB102_101.out
       have hnc57 := NB101_102.out
       have hcz58_0 : wr.cell? ⟨gb102, 0, none⟩ = some (.slice none 0 0) := (zX BK102.out 0).trans rfl
       have hcz58_1 : wr.cell? ⟨gb102, 1, none⟩ = some (.slice none 0 0) := (zX BK102.out 1).trans rfl
       have hcz58_2 : wr.cell? ⟨gb102, 2, none⟩ = some (.int .i64 0) := (zX BK102.out 2).trans rfl
       have hcz58_3 : wr.cell? ⟨gb102, 3, none⟩ = some (.slice none 0 0) := (zX BK102.out 3).trans rfl
       have hfz58_0 := zY BK102.out 0
       have hfz58_1 := zY BK102.out 1
       have hfz58_2 := zY BK102.out 2
       have hfz58_3 := zY BK102.out 3
       obtain ⟨Ao59, co59, eo59⟩ := Kd.S_slice HO_107001.out
       subst eo59
       go_wp2
       refine bodyPost_ret (results_cell_row rfl _ _ gb102 28 #[.slice Ao56 x107000_1.length co56, .slice Ao59 x107001_2.length co59, .int .i64 a0_2, .slice Ao10 t103.length co10] (0, 0) _ rfl (by refine zk ?_; refine blk_put (cs := #[.slice Ao56 x107000_1.length co56, .slice Ao59 x107001_2.length co59, .int .i64 a0_2, .slice none 0 0]) ?_ 3 _ rfl; refine zk ?_; refine blk_put (cs := #[.slice Ao56 x107000_1.length co56, .slice Ao59 x107001_2.length co59, .int .i64 0, .slice none 0 0]) ?_ 2 _ rfl; refine zk ?_; refine blk_put (cs := #[.slice Ao56 x107000_1.length co56, .slice none 0 0, .int .i64 0, .slice none 0 0]) ?_ 1 _ rfl; refine zk ?_; refine blk_put (cs := #[.slice none 0 0, .slice none 0 0, .int .i64 0, .slice none 0 0]) ?_ 0 _ rfl; refine zk ?_; exact BK102.out) Try.underlying28 rfl (by kernel_rfl)) rfl ?_
       exact ⟨_, _, _, zw, by (with_reducible repeat (first | apply Kd.S_alloc | apply Kd.S_drewN | apply Kd.S_drew)); exact Kd.S_mono (Kd.S_far (p := ⟨gb102, 3, none⟩) (Kd.S_far (p := ⟨gb102, 2, none⟩) (Kd.S_far (p := ⟨gb102, 1, none⟩) (Kd.S_far (p := ⟨gb102, 0, none⟩) (Kd.S_types HO_107000.out BK102.out (by decide)) (fun _ hk => hk.2) (.slice Ao56 x107000_1.length co56)) (fun _ hk => hk.2) (.slice Ao59 x107001_2.length co59)) (fun _ hk => hk.2) (.int .i64 a0_2)) (fun _ hk => hk.2) (.slice Ao10 t103.length co10)) (fun _ hk => trivial), by (with_reducible repeat (first | apply Kd.S_alloc | apply Kd.S_drewN | apply Kd.S_drew)); exact Kd.S_mono (Kd.S_far (p := ⟨gb102, 3, none⟩) (Kd.S_far (p := ⟨gb102, 2, none⟩) (Kd.S_far (p := ⟨gb102, 1, none⟩) (Kd.S_far (p := ⟨gb102, 0, none⟩) (Kd.S_types HO_107001.out BK102.out (by decide)) (fun _ hk => hk.2) (.slice Ao56 x107000_1.length co56)) (fun _ hk => hk.2) (.slice Ao59 x107001_2.length co59)) (fun _ hk => hk.2) (.int .i64 a0_2)) (fun _ hk => hk.2) (.slice Ao10 t103.length co10)) (fun _ hk => trivial), by (with_reducible repeat (first | apply Kd.R_alloc | apply Kd.R_drewN | apply Kd.R_drew)); exact Kd.R_mono (Kd.R_far (p := ⟨gb102, 3, none⟩) (Kd.R_far (p := ⟨gb102, 2, none⟩) (Kd.R_far (p := ⟨gb102, 1, none⟩) (Kd.R_far (p := ⟨gb102, 0, none⟩) (Kd.R_types HO_107003.out BK102.out (by decide)) (fun _ hk => hk.2) (.slice Ao56 x107000_1.length co56)) (fun _ hk => hk.2) (.slice Ao59 x107001_2.length co59)) (fun _ hk => hk.2) (.int .i64 a0_2)) (fun _ hk => hk.2) (.slice Ao10 t103.length co10)) (fun _ hk => trivial), zb⟩


-- ==== PF19

def aumbrylaw07_few.f (l0 : List (S73)) (a1 : Int) : Option (Bool) := if (l0.length : Int) ≤ 64 then (some (decide (a1 ≤ 300))) else (some false)
theorem aumbrylaw07_few.calls (A0 : Option Addr) (c0 : Nat) (l0 : List (S73)) (a1 : Int) (r : Bool) (w : World) (hr0 : Kd.C k73 w A0 l0.length l0) (hc0 : l0.length ≤ c0) (h : aumbrylaw07_few.f l0 a1 = some r) :
 Calls Try.prog 19 #[.slice A0 l0.length c0, .int .i64 a1] w fun e w' => e = .returned (.bool r) ∧ Drawn0 w w' := by
 have HR0 := zM hr0
 have HC0 := zM hc0
 clear hr0 hc0
 have H : (if (l0.length : Int) ≤ 64 then (some (decide (a1 ≤ 300))) else (some false)) = some r := h
 clear h
 by_cases c3 : (l0.length : Int) ≤ 64
 ·
  rw [if_pos c3] at H
  have c3b0 : decide ((l0.length : Int) ≤ 64) = true := zQ c3
  have c3b1 : decide (l0.length ≤ 64) = true := zQ (by omega)
  clear c3
  obtain rfl := zS H
  go_enter Try.func19, Try.ntmps19
  go_wp2
  go_ret
  exact ⟨zy, zd⟩
 ·
  rw [if_neg c3] at H
  have c3b0 : decide ((l0.length : Int) ≤ 64) = false := zR c3
  have c3b1 : decide (l0.length ≤ 64) = false := zR (by omega)
  clear c3
  obtain rfl := zS H
  go_enter Try.func19, Try.ntmps19
  go_wp2
  go_ret
  exact ⟨zy, zd⟩


-- ==== PF76

def aumbryref06_Copy.f (a0_0 : Int) (l0_1 : List (S54)) (l0_2 : List (S54)) : Option (Int × (List (S54)) × (List (S54))) := (aumbryref04_Copy.f l0_1).bind fun t103 => ((aumbryref04_Copy.f l0_2).bind fun t106 => (some (a0_0, t103, t106)))
def aumbryref06_Copy.T1 : Bool × List (List Nat × List Nat) := (true, [([], []), ([0], [0]), ([], []), ([2], [2]), ([3], [3]), ([], []), ([5], [5]), ([6, 4], [6]), ([1, 4, 7], [1, 4, 7]), ([8, 7, 0, 1, 2, 3, 4, 5, 6, 7, 8], [8])])
def aumbryref06_Copy.B1 : List Nat := [0, 1, 0, 4, 12, 0, 32, 124, 255, 511]
theorem aumbryref06_Copy.tab1 : rtab .any (opsOf Try.f76 1) = aumbryref06_Copy.T1 := by kernel_rfl
theorem aumbryref06_Copy.bits1 : waitsOk aumbryref06_Copy.T1.2 aumbryref06_Copy.B1 = true := by kernel_rfl
theorem aumbryref06_Copy.calls (a0_0 : Int) (A0_1 : Option Addr) (c0_1 : Nat) (l0_1 : List (S54)) (A0_2 : Option Addr) (c0_2 : Nat) (l0_2 : List (S54)) (r1 : Int) (r2 : List (S54)) (r3 : List (S54)) (w : World) (hr0_1 : Kd.C k54 w A0_1 l0_1.length l0_1) (hc0_1 : l0_1.length ≤ c0_1) (hr0_2 : Kd.C k54 w A0_2 l0_2.length l0_2) (hc0_2 : l0_2.length ≤ c0_2) (h : aumbryref06_Copy.f a0_0 l0_1 l0_2 = some (r1, r2, r3)) :
 Calls Try.prog 76 #[.agg #[.int .i64 a0_0, .slice A0_1 l0_1.length c0_1, .slice A0_2 l0_2.length c0_2]] w fun e w' => ∃ v1_ v2_ : Value, e = .returned (.agg #[.int .i64 r1, v1_, v2_]) ∧ Kd.R k54 54 w' w.heap.size (fun k_ => some k_ ≠ (v2_ : Value).ownBlock) v1_ r2 ∧ Kd.R k54 54 w' w.heap.size (fun k_ => some k_ ≠ (v1_ : Value).ownBlock) v2_ r3 ∧ Below w.heap.size w w' := by
 have hu73 := Try.underlying73
 have HR0_1 := zM hr0_1
 have HC0_1 := zM hc0_1
 clear hr0_1 hc0_1
 have HR0_2 := zM hr0_2
 have HC0_2 := zM hc0_2
 clear hr0_2 hc0_2
 have HB := zM (Below.refl w.heap.size w)
 have H : ((aumbryref04_Copy.f l0_1).bind fun t103 => ((aumbryref04_Copy.f l0_2).bind fun t106 => (some (a0_0, t103, t106)))) = some (r1, r2, r3) := h
 clear h
 replace H := zB H
 obtain ⟨t103, A20, H⟩ := H
 try dsimp only at H
 have A2 := zM A20
 clear A20
 replace H := zB H
 obtain ⟨t106, A30, H⟩ := H
 try dsimp only at H
 have A3 := zM A30
 clear A30
 simp only [Option.some.injEq, Prod.mk.injEq] at H
 obtain ⟨rfl, rfl, rfl⟩ := H
 go_enter Try.func76, Try.ntmps76
 try go_wp2_with (first | ((with_reducible refine gate_dst (N := 1) rfl ?_); refine box_event ?hg (N := 1) ?hd (cs := #[.int .i64 a0_0, .slice A0_1 l0_1.length c0_1, .slice A0_2 l0_2.length c0_2]) (t := 73) ?hr ?_; (case hd => rfl); (case hg => rfl); (case hr => first | (go_simp; done) | (go_simp; rfl)); intro gb101 hg w4 hbox hb; have BK101 := zM (hbox); have GW101 := zM (zh hg : w.heap.size ≤ gb101); have GE101 := zM (zh hg : w.heap.size ≤ gb101); replace HB := zM (below_step zb hb); clear hb hbox hg) | ((with_reducible refine gate_dst (N := 2) rfl ?_); refine box_event ?hg (N := 2) ?hd (cs := #[.int .i64 0, .slice none 0 0, .slice none 0 0]) (t := 73) ?hr ?_; (case hd => rfl); (case hg => rfl); (case hr => first | (go_simp; done) | (go_simp; rfl)); intro gb102 hg w5 hbox hb; have BK102 := zM (hbox); have GW102 := zM (zh hg : w.heap.size ≤ gb102); have GE102 := zM (zh hg : w.heap.size ≤ gb102); replace HB := zM (below_step zb hb); have NB101_102 := zM ((by rw [hg]; exact Nat.ne_of_lt (blk_lt (zk BK101.out)) : gb101 ≠ gb102)); have NB102_101 := zM ((by rw [hg]; exact Nat.ne_of_gt (blk_lt (zk BK101.out)) : gb102 ≠ gb101)); replace BK101 := zM (blk_below (zk BK101.out) hb); clear hb hbox hg))
 have n0_ := zM (blk_drew BK101.out)
 have n1_ := zM (blk_drew BK102.out)
 have n2_ := zM (zD HB.out)
 clear BK101
 clear BK102
 clear HB
 have BK101 := n0_
 have BK102 := n1_
 have HB := n2_
 clear n0_ n1_ n2_
 refine start_ (n := 10) (S := fun w' => w'.cell? ⟨gb101, 0, none⟩ = some (.int .i64 a0_0) ∧ w'.cell? ⟨gb101, 1, none⟩ = some (.slice A0_1 l0_1.length c0_1) ∧ w'.cell? ⟨gb101, 2, none⟩ = some (.slice A0_2 l0_2.length c0_2)) (ds := []) #[false, false, false, false, false, false, false, false, false, false] (by kernel_rfl) rfl rfl ⟨(zX BK101.out 0).trans rfl, (zX BK101.out 1).trans rfl, (zX BK101.out 2).trans rfl⟩ (fun hHeld => ?_); refine with_tabW aumbryref06_Copy.tab1 aumbryref06_Copy.bits1 (fun HT_ HW_ => ?_)
 generalize w5.drew = w6 at BK101 BK102 HB hHeld ⊢
 refine pure_ (i := 0) (N := some 3) (v := ?_) (a' := ?_) #[true, false, false, false, false, false, false, false, false, false] rfl rfl (any_of HT_.out (by kernel_rfl)) (fun _ _ _ h => h) (Or.inl ⟨by rfl, ?_⟩) ?_ ?_
 rotate_left
 ·
  intro w'
  go_simp
  with_reducible rfl
 rotate_left
 ·
  simp only [Act.put, zp1, zp2, zp3, i64_w, i32_w]
  rfl
 refine pure_ (i := 2) (N := some 5) (v := ?_) (a' := ?_) #[true, false, true, false, false, false, false, false, false, false] rfl rfl (any_of HT_.out (by kernel_rfl)) (fun _ _ _ h => h) (Or.inl ⟨by rfl, ?_⟩) ?_ ?_
 rotate_left
 ·
  intro w'
  go_simp
  with_reducible rfl
 rotate_left
 ·
  simp only [Act.put, zp1, zp2, zp3, i64_w, i32_w]
  rfl
 refine pure_ (i := 5) (N := some 8) (v := ?_) (a' := ?_) #[true, false, true, false, false, true, false, false, false, false] rfl rfl (any_of HT_.out (by kernel_rfl)) (fun _ _ _ h => h) (Or.inl ⟨by rfl, ?_⟩) ?_ ?_
 rotate_left
 ·
  intro w'
  go_simp
  with_reducible rfl
 rotate_left
 ·
  simp only [Act.put, zp1, zp2, zp3, i64_w, i32_w]
  rfl
 refine take_ (i := 1) (N := some 4) (v := ?_) (a' := ?_) #[true, true, true, false, false, true, false, false, false, false] rfl rfl (take_ofW HT_.out HW_.out (by kernel_rfl)) (fun _ _ _ h => h) (Or.inl ⟨by rfl, ?_⟩) hHeld ?_ ?_
 rotate_left
 ·
  rintro w' ⟨s0, s1, s2⟩
  go_simp
  with_reducible rfl
 rotate_left
 ·
  simp only [Act.put, zp1, zp2, zp3, i64_w, i32_w]
  rfl
 refine take_ (i := 3) (N := some 6) (v := ?_) (a' := ?_) #[true, true, true, true, false, true, false, false, false, false] rfl rfl (take_ofW HT_.out HW_.out (by kernel_rfl)) (fun _ _ _ h => h) (Or.inl ⟨by rfl, ?_⟩) hHeld ?_ ?_
 rotate_left
 ·
  rintro w' ⟨s0, s1, s2⟩
  go_simp
  with_reducible rfl
 rotate_left
 ·
  simp only [Act.put, zp1, zp2, zp3, i64_w, i32_w]
  rfl
 refine take_ (i := 6) (N := some 9) (v := ?_) (a' := ?_) #[true, true, true, true, false, true, true, false, false, false] rfl rfl (take_ofW HT_.out HW_.out (by kernel_rfl)) (fun _ _ _ h => h) (Or.inl ⟨by rfl, ?_⟩) hHeld ?_ ?_
 rotate_left
 ·
  rintro w' ⟨s0, s1, s2⟩
  go_simp
  with_reducible rfl
 rotate_left
 ·
  simp only [Act.put, zp1, zp2, zp3, i64_w, i32_w]
  rfl
 refine one_ (i := 4) (N := some 7) #[true, true, true, true, true, true, true, false, false, false] rfl rfl (one_of HT_.out (by kernel_rfl)) (by decide) (fun K hK => ?_)
 refine goes_ Try.func13 (by kernel_rfl) rfl #[.slice A0_1 l0_1.length c0_1] (by rfl) rfl rfl zl ?_
 with_reducible refine (aumbryref04_Copy.calls _ _ l0_1 t103 _ ?side1 ?side2 A2.out).mono ?_
 (case side1 => exact Kd.C_below HR0_1.out zb)
 (case side2 => exact HC0_1.out)
 rintro e w7 ⟨v104, rfl, ho0, hb⟩
 refine ⟨_, rfl, ?_⟩
 have n0_ := zM (Kd.R_lower ho0 (below_size zb))
 have n1_ := zM (blk_below (zk BK101.out) hb)
 have n2_ := zM (blk_below (zk BK102.out) hb)
 have n3_ := zM (below_step zb hb)
 clear BK101
 clear BK102
 clear HB
 have HO105 := n0_
 have BK101 := n1_
 have BK102 := n2_
 have HB := n3_
 clear n0_ n1_ n2_ n3_
 (try clear hb)
 (try clear hb2)
 (try clear hk)
 (try clear hi)
 (try clear ho0)
 refine hK.out _ _ ⟨(zX BK101.out 0).trans rfl, (zX BK101.out 1).trans rfl, (zX BK101.out 2).trans rfl⟩ (fun hHeld => ?_)
 clear hK K
 refine norm_ (a' := ?_) ?_ ?_
 rotate_left
 ·
  show Act.put _ (some 7) _ = _
  simp only [Act.put, zp1, zp2, zp3, i64_w, i32_w]
  rfl
 refine one_ (i := 7) (N := some 10) #[true, true, true, true, true, true, true, true, false, false] rfl rfl (one_of HT_.out (by kernel_rfl)) (by decide) (fun K hK => ?_)
 refine goes_ Try.func13 (by kernel_rfl) rfl #[.slice A0_2 l0_2.length c0_2] (by rfl) rfl rfl zl ?_
 with_reducible refine (aumbryref04_Copy.calls _ _ l0_2 t106 _ ?side1 ?side2 A3.out).mono ?_
 (case side1 => exact Kd.C_below HR0_2.out zb)
 (case side2 => exact HC0_2.out)
 rintro e w8 ⟨v107, rfl, ho0, hb⟩
 refine ⟨_, rfl, ?_⟩
 have n0_ := zM (Kd.R_elder' (zr HO105.out) (Kd.R_base ho0) hb)
 have n1_ := zM (Kd.R_lower (Kd.R_new' ho0 (Kd.R_lt (zr HO105.out))) (below_size zb))
 have n2_ := zM (blk_below (zk BK101.out) hb)
 have n3_ := zM (blk_below (zk BK102.out) hb)
 have n4_ := zM (below_step zb hb)
 clear HO105
 clear BK101
 clear BK102
 clear HB
 have HO105 := n0_
 have HO108 := n1_
 have BK101 := n2_
 have BK102 := n3_
 have HB := n4_
 clear n0_ n1_ n2_ n3_ n4_
 (try clear hb)
 (try clear hb2)
 (try clear hk)
 (try clear hi)
 (try clear ho0)
 obtain ⟨Ao9, co9, eo9⟩ := Kd.R_slice HO108.out
 (first | subst eo9 | (injection eo9 with f1_ f2_ f3_; have f4_ := f1_.symm; have f5_ := f3_.symm; clear f1_ f2_ f3_; subst f4_; subst f5_))
 obtain ⟨Ao10, co10, eo10⟩ := Kd.R_slice HO105.out
 (first | subst eo10 | (injection eo10 with f1_ f2_ f3_; have f4_ := f1_.symm; have f5_ := f3_.symm; clear f1_ f2_ f3_; subst f4_; subst f5_))
 refine hK.out _ _ ⟨(zX BK101.out 0).trans rfl, (zX BK101.out 1).trans rfl, (zX BK101.out 2).trans rfl⟩ (fun hHeld => ?_)
 clear hK K
 refine norm_ (a' := ?_) ?_ ?_
 rotate_left
 ·
  show Act.put _ (some 10) _ = _
  simp only [Act.put, zp1, zp2, zp3, i64_w, i32_w]
  rfl
 refine pure_ (i := 8) (N := some 11) (v := ?_) (a' := ?_) #[true, true, true, true, true, true, true, true, true, false] rfl rfl (any_of HT_.out (by kernel_rfl)) (fun _ _ _ h => h) (Or.inl ⟨by rfl, ?_⟩) ?_ ?_
 rotate_left
 ·
  intro w'
  go_simp
  with_reducible rfl
 rotate_left
 ·
  simp only [Act.put, zp1, zp2, zp3, i64_w, i32_w]
  rfl
 refine one_ (i := 9) (N := none) #[true, true, true, true, true, true, true, true, true, true] rfl rfl (one_of HT_.out (by kernel_rfl)) (by decide) (fun K hK => ?_)
 have hs11 : w8.cell? ⟨gb102, 0, none⟩ = some (.int .i64 0) := (zX BK102.out 0).trans rfl
 have hfs11 := zY BK102.out 0
 have hns11_0 := NB101_102.out
 have hms11_0 := NB102_101.out
 have hs12 : w8.cell? ⟨gb102, 1, none⟩ = some (.slice none 0 0) := (zX BK102.out 1).trans rfl
 have hfs12 := zY BK102.out 1
 have hns12_0 := NB101_102.out
 have hms12_0 := NB102_101.out
 have hs13 : w8.cell? ⟨gb102, 2, none⟩ = some (.slice none 0 0) := (zX BK102.out 2).trans rfl
 have hfs13 := zY BK102.out 2
 have hns13_0 := NB101_102.out
 have hms13_0 := NB102_101.out
 refine skip_ (w1 := ?_) (by rfl) rfl ?_ ?_
 rotate_left
 ·
  go_simp
  rfl
 refine hK.out _ _ ⟨((cell_far (p := ⟨gb102, _, none⟩) NB101_102.out _).trans (((cell_far (p := ⟨gb102, _, none⟩) NB101_102.out _).trans (((cell_far (p := ⟨gb102, _, none⟩) NB101_102.out _).trans (hHeld.1)))))), ((cell_far (p := ⟨gb102, _, none⟩) NB101_102.out _).trans (((cell_far (p := ⟨gb102, _, none⟩) NB101_102.out _).trans (((cell_far (p := ⟨gb102, _, none⟩) NB101_102.out _).trans (hHeld.2.1)))))), ((cell_far (p := ⟨gb102, _, none⟩) NB101_102.out _).trans (((cell_far (p := ⟨gb102, _, none⟩) NB101_102.out _).trans (((cell_far (p := ⟨gb102, _, none⟩) NB101_102.out _).trans (hHeld.2.2))))))⟩ (fun hHeld => ?_)
 clear hK K
 refine done_ (done_of HT_.out (by kernel_rfl)) ?_
 try go_wp2
 refine bodyPost_ret (results_cell_row rfl _ _ gb102 73 #[.int .i64 a0_0, .slice Ao10 t103.length co10, .slice Ao9 t106.length co9] (0, 0) _ rfl (by refine zk ?_; refine blk_put (cs := #[.int .i64 a0_0, .slice Ao10 t103.length co10, .slice none 0 0]) ?_ 2 _ rfl; refine zk ?_; refine blk_put (cs := #[.int .i64 a0_0, .slice none 0 0, .slice none 0 0]) ?_ 1 _ rfl; refine zk ?_; refine blk_put (cs := #[.int .i64 0, .slice none 0 0, .slice none 0 0]) ?_ 0 _ rfl; refine zk ?_; exact BK102.out) Try.underlying73 rfl (by kernel_rfl)) rfl ?_
 exact ⟨_, _, zw, by (with_reducible repeat (first | apply Kd.R_alloc | apply Kd.R_drewN | apply Kd.R_drew)); exact Kd.R_mono (Kd.R_far (p := ⟨gb102, 2, none⟩) (Kd.R_far (p := ⟨gb102, 1, none⟩) (Kd.R_far (p := ⟨gb102, 0, none⟩) (Kd.R_types HO105.out BK102.out (by decide)) (fun _ hk => hk.2) (.int .i64 a0_0)) (fun _ hk => hk.2) (.slice Ao10 t103.length co10)) (fun _ hk => hk.2) (.slice Ao9 t106.length co9)) (fun _ hk => hk.1.2), by (with_reducible repeat (first | apply Kd.R_alloc | apply Kd.R_drewN | apply Kd.R_drew)); exact Kd.R_mono (Kd.R_far (p := ⟨gb102, 2, none⟩) (Kd.R_far (p := ⟨gb102, 1, none⟩) (Kd.R_far (p := ⟨gb102, 0, none⟩) (Kd.R_types HO108.out BK102.out (by decide)) (fun _ hk => hk.2) (.int .i64 a0_0)) (fun _ hk => hk.2) (.slice Ao10 t103.length co10)) (fun _ hk => hk.2) (.slice Ao9 t106.length co9)) (fun _ hk => hk.1.2), zb⟩


-- ==== PF50

def aumbryref06_CopyAll.l0 : Nat → List (S73) → List (S73) → Int → Int → Option ((List (S73)))
 | 0, _, _, _, _ => none
 | k + 1, x0, x3, x6, x7 => if x7 < x6 then (if 0 ≤ x7 then (if x7 < (x0.length : Int) then ((aumbryref06_Copy.f ((rd_T73 x0 x7).f0) ((rd_T73 x0 x7).f1) ((rd_T73 x0 x7).f2)).bind fun bt102 => (if x3.length < 2513169434916 then (aumbryref06_CopyAll.l0 k x0 (x3 ++ [(⟨bt102.1, bt102.2.1, bt102.2.2⟩ : S73)]) x6 (wrap64 (x7 + 1))) else (none))) else (none)) else (none)) else (some x3)
def aumbryref06_CopyAll.f (k : Nat) (l0 : List (S73)) : Option ((List (S73))) := aumbryref06_CopyAll.l0 k l0 ([] : List (S73)) (l0.length : Int) 0
theorem aumbryref06_CopyAll.calls (k : Nat) (A0 : Option Addr) (c0 : Nat) (l0 : List (S73)) (r : List (S73)) (w : World) (hr0 : Kd.C k73 w A0 l0.length l0) (hc0 : l0.length ≤ c0) (h : aumbryref06_CopyAll.f k l0 = some r) :
 Calls Try.prog 50 #[.slice A0 l0.length c0] w fun e w' => ∃ v0_ : Value, e = .returned (v0_) ∧ Kd.S k73 73 w' w.heap.size (fun _ => True) v0_ r ∧ Below w.heap.size w w' := by
 have hu73 := Try.underlying73
 have HR0 := zM hr0
 have HC0 := zM hc0
 clear hr0 hc0
 have HB := zM (Below.refl w.heap.size w)
 have H : (aumbryref06_CopyAll.l0 k l0 ([] : List (S73)) (l0.length : Int) 0) = some r := h
 clear h
 have H' := zM H
 clear H
 go_enter Try.func50, Try.ntmps50
 go_wp2
 go_loopg [3, 7] k (fun kq v3 v7 w' => ∃ (x3_1 : List (S73)) (x7_1 : Int), v7 = .int .i64 x7_1 ∧ Aside0 (aumbryref06_CopyAll.l0 kq l0 x3_1 (l0.length : Int) x7_1 = some r) ∧ Aside0 (kq ≤ k) ∧ Aside0 (Kd.S k73 73 w' w.heap.size (fun _ => True) v3 x3_1) ∧ Aside0 (Below w.heap.size w w'))
 case atStart => exact ⟨(([] : List (S73))), (0), zy, H', ⟨Nat.le_refl _⟩, ⟨by first | exact Kd.S_nil _ _ _ _ _ | exact Kd.N_nil _ _ _ _ _ | exact Kd.V_nil _ _ _ _ _ | exact Kd.Q_nil _ _ _ _ _ | exact Kd.R_nil _ _ _ _ _⟩, ⟨zb⟩⟩
 case round =>
  clear H'
  obtain ⟨x3_1, x7_1, rfl, HA, HK1, HO_3, HB⟩ := hrel
  cases gk with
  | zero => exact absurd HA.out (by simp [aumbryref06_CopyAll.l0])
  | succ k1 =>
   have H := HA.out
   clear HA
   simp only [aumbryref06_CopyAll.l0] at H
   by_cases c2 : x7_1 < (l0.length : Int)
   ·
    rw [if_pos c2] at H
    have c2b0 : decide (x7_1 < (l0.length : Int)) = true := zQ c2
    clear c2
    by_cases c3 : 0 ≤ x7_1
    ·
     rw [if_pos c3] at H
     have c3b0 : decide (0 ≤ x7_1) = true := zQ c3
     clear c3
     by_cases c4 : x7_1 < (l0.length : Int)
     ·
      rw [if_pos c4] at H
      have c4b0 : decide (x7_1 < (l0.length : Int)) = true := zQ c4
      clear c4
      replace H := zB H
      obtain ⟨⟨t102, t103, t106⟩, A50, H⟩ := H
      try dsimp only at H
      have A5 := zM A50
      clear A50
      by_cases c6 : x3_1.length < 2513169434916
      ·
       rw [if_pos c6] at H
       have LMc6 := zM c6
       clear c6
       obtain ⟨y109, hy109⟩ : ∃ y_ : List (S73), y_ = (x3_1 ++ [(⟨t102, t103, t106⟩ : S73)]) := ⟨_, rfl⟩
       replace H : (aumbryref06_CopyAll.l0 k1 l0 y109 (l0.length : Int) (wrap64 (x7_1 + 1))) = some r := by first | (rw [hy109]; with_reducible exact H) | (have H2_ := (Option.bind_some _ _).symm.trans H; rw [hy109]; with_reducible exact H2_) | (have H2_ := (Option.bind_some _ _).symm.trans H; with_reducible exact H2_) | with_reducible exact H | (rw [hy109]; exact H) | exact H
       have Ny109 := zM hy109
       clear hy109
       have H' := zM H
       clear H
       have p101 : 0 ≤ (x7_1 : Int) := zT zv
       have q101 : x7_1 < (l0.length : Int) := zT zv
       obtain ⟨ad101, A101_1, c101_1, A101_2, c101_2, e101, hx101_0, hx101_1, hx101_2, hl101_1, hi101_1, hl101_2, hi101_2⟩ := at_T73 HR0.out x7_1 p101 q101
       cases e101
       replace hx101_0 := (HB.out.cell (World.block_lt_of_cell? w _ hx101_0)).trans hx101_0
       replace hx101_1 := (HB.out.cell (World.block_lt_of_cell? w _ hx101_1)).trans hx101_1
       replace hx101_2 := (HB.out.cell (World.block_lt_of_cell? w _ hx101_2)).trans hx101_2
       have HR101_1 := zM hi101_1
       have HC101_1 := zM hl101_1
       clear hi101_1 hl101_1
       have HR101_2 := zM hi101_2
       have HC101_2 := zM hl101_2
       clear hi101_2 hl101_2
       replace p101 := eq_true p101
       replace q101 := eq_true q101
       go_wp2_with (first | ((with_reducible refine gate_callee (f := 76) rfl ?_); refine goesL_ (some 15) rfl rfl Try.func76 (by kernel_rfl) rfl #[.agg #[.int .i64 ((rd_T73 l0 x7_1).f0), .slice A101_1 ((rd_T73 l0 x7_1).f1).length c101_1, .slice A101_2 ((rd_T73 l0 x7_1).f2).length c101_2]] rfl zl ?_; (with_reducible refine (aumbryref06_Copy.calls ((rd_T73 l0 x7_1).f0) _ _ ((rd_T73 l0 x7_1).f1) _ _ ((rd_T73 l0 x7_1).f2) t102 t103 t106 _ ?side1 ?side2 ?side3 ?side4 A5.out).mono ?_); (case side1 => exact Kd.C_below HR101_1.out zb); (case side2 => exact HC101_1.out); (case side3 => exact Kd.C_below HR101_2.out zb); (case side4 => exact HC101_2.out); rintro e w7 ⟨v104, v107, rfl, ho0, ho1, hb⟩; refine ⟨_, rfl, ?_⟩; replace HO_3 := zM (Kd.S_mono (Kd.S_told (Kd.S_told (Kd.S_old (Kd.S_below HO_3.out zg) hb) (Kd.R_base ho0)) (Kd.R_base ho1)) (fun _ h_ => h_.1)); have HO105 := zM (Kd.R_lower ho0 (below_size zb)); have HO108 := zM (Kd.R_lower ho1 (below_size zb)); replace HB := zM (below_step zb hb); (try clear hb); (try clear ho0); (try clear ho1); obtain ⟨Ao9, co9, eo9⟩ := Kd.R_slice HO105.out; subst eo9; obtain ⟨Ao10, co10, eo10⟩ := Kd.R_slice HO108.out; subst eo10) | ((with_reducible refine gate_builtin (b := .append) (xs := #[.tmp 10, .tmp 16]) rfl ?_); at_builtin; refine Kd.S_append k73 (w0 := w) w.heap.size rfl (.tmp 10) (.tmp 16) 41 73 (.agg #[(.int .i64 0), (.slice none 0 0), (.slice none 0 0)]) 56 rfl Try.underlying41 info73 rfl (by decide) (by omega) u3 x3_1 (⟨t102, t103, t106⟩ : S73) [.int .i64 t102, .slice Ao9 t103.length co9, .slice Ao10 t106.length co10] (fun _ => True) (fun k_ => some k_ = (.slice Ao9 t103.length co9 : Value).ownBlock ∨ some k_ = (.slice Ao10 t106.length co10 : Value).ownBlock) rfl rfl ?aP (fun k_ hk_ => hk_.elim (fun h_ => ((Kd.R_mono (ok' := fun k_ => ((fun _ => True)) k_ ∧ some k_ ≠ (u3 : Value).ownBlock) (Kd.R_apart' (HO105.out) (Kd.S_typed HO_3.out) (by decide)) (fun k_ hk => ⟨trivial, hk.2⟩))).1 k_ h_.symm) (fun h_ => ((Kd.R_mono (ok' := fun k_ => ((fun _ => True)) k_ ∧ some k_ ≠ (u3 : Value).ownBlock) (Kd.R_apart' (HO108.out) (Kd.S_typed HO_3.out) (by decide)) (fun k_ hk => ⟨trivial, hk.2⟩))).1 k_ h_.symm)) ?aF ?aO ?aB ?aS ?aL ?_; (case aP => exact k73_mkM _ _ _ (⟨t102, t103, t106⟩ : S73) (Kd.R_mono (Kd.R_tight rfl (Kd.R_mono (ok' := fun k_ => ((fun _ => True)) k_ ∧ some k_ ≠ (u3 : Value).ownBlock) (Kd.R_apart' (HO105.out) (Kd.S_typed HO_3.out) (by decide)) (fun k_ hk => ⟨trivial, hk.2⟩))) (fun _ h_ => Or.inl h_)) (Kd.R_mono (Kd.R_tight rfl (Kd.R_mono (ok' := fun k_ => ((fun _ => True)) k_ ∧ some k_ ≠ (u3 : Value).ownBlock) (Kd.R_apart' (HO108.out) (Kd.S_typed HO_3.out) (by decide)) (fun k_ hk => ⟨trivial, hk.2⟩))) (fun _ h_ => Or.inr (h_)))); (case aB => exact zb); (case aF => exact (fun _ _ => trivial)); (case aO => exact (by (with_reducible repeat (first | apply Kd.S_alloc | apply Kd.S_drewN | apply Kd.S_drew)); exact Kd.S_mono HO_3.out (fun k_ hk => ⟨trivial, fun e_ => e_.elim (fun h_ => hk.1.2 h_) (fun h_ => hk.2 h_)⟩))); (case aS => exact (below_size zb)); (case aL => have := LMc6.out; omega); intro v110 w8 ho hb hg hat; rw [← Ny109.out] at ho; replace HB := zM (hb); have HO111 := zM (ho); clear HO105 HO108 HO_3; clear ho hb hg hat))
       go_roundg k1
       case measure => have := HK1.out; omega
       case rel => exact ⟨(y109), (wrap64 (x7_1 + 1)), zy, H', ⟨by have := HK1.out; omega⟩, ⟨Kd.S_below HO111.out zg⟩, ⟨zb⟩⟩
      ·
       rw [if_neg c6] at H
       exact absurd H (by simp)
     ·
      rw [if_neg c4] at H
      exact absurd H (by simp)
    ·
     rw [if_neg c3] at H
     exact absurd H (by simp)
   ·
    rw [if_neg c2] at H
    have c2b0 : decide (x7_1 < (l0.length : Int)) = false := zR c2
    clear c2
    obtain rfl := zS H
    go_wp2
    go_ret
    exact ⟨_, zw, Kd.S_below HO_3.out zg, zb⟩


-- ==== PF21

def aumbrylaw07_rules.f (k : Nat) (l0 : List (S73)) : Option ((List (S73))) := (aumbryref06_CopyAll.f k l0).bind fun t101 => (some t101)
theorem aumbrylaw07_rules.calls (k : Nat) (A0 : Option Addr) (c0 : Nat) (l0 : List (S73)) (r : List (S73)) (w : World) (hr0 : Kd.C k73 w A0 l0.length l0) (hc0 : l0.length ≤ c0) (h : aumbrylaw07_rules.f k l0 = some r) :
 Calls Try.prog 21 #[.slice A0 l0.length c0] w fun e w' => ∃ v0_ : Value, e = .returned (v0_) ∧ Kd.S k73 73 w' w.heap.size (fun _ => True) v0_ r ∧ Below w.heap.size w w' := by
 have HR0 := zM hr0
 have HC0 := zM hc0
 clear hr0 hc0
 have HB := zM (Below.refl w.heap.size w)
 have H : ((aumbryref06_CopyAll.f k l0).bind fun t101 => (some t101)) = some r := h
 clear h
 replace H := zB H
 obtain ⟨t101, A20, H⟩ := H
 try dsimp only at H
 have A2 := zM A20
 clear A20
 obtain rfl := zS H
 go_enter Try.func21, Try.ntmps21
 go_wp2_with (first | ((with_reducible refine gate_callee (f := 50) rfl ?_); refine goesL_ (some 4) rfl rfl Try.func50 (by kernel_rfl) rfl #[.slice A0 l0.length c0] rfl zl ?_; (with_reducible refine (aumbryref06_CopyAll.calls k _ _ l0 t101 _ ?side1 ?side2 A2.out).mono ?_); (case side1 => exact Kd.C_below HR0.out zg); (case side2 => exact HC0.out); rintro e w3 ⟨v102, rfl, ho0, hb⟩; refine ⟨_, rfl, ?_⟩; have HO103 := zM (Kd.S_lower ho0 (below_size zb)); replace HB := zM (below_step zb hb); (try clear hb); (try clear ho0)))
 go_ret
 exact ⟨_, zw, Kd.S_below HO103.out zg, zb⟩


-- ==== PF59

def aumbryref06_Same.f (k : Nat) (a0_0 : Int) (l0_1 : List (S54)) (l0_2 : List (S54)) (a1_0 : Int) (l1_1 : List (S54)) (l1_2 : List (S54)) : Option (Bool) := if a0_0 = a1_0 then ((aumbryref04_Same.f k l0_1 l1_1).bind fun t103 => (if t103 = true then ((aumbryref04_Same.f k l0_2 l1_2).bind fun t104 => (some t104)) else (some false))) else (some false)
theorem aumbryref06_Same.calls (k : Nat) (a0_0 : Int) (A0_1 : Option Addr) (c0_1 : Nat) (l0_1 : List (S54)) (A0_2 : Option Addr) (c0_2 : Nat) (l0_2 : List (S54)) (a1_0 : Int) (A1_1 : Option Addr) (c1_1 : Nat) (l1_1 : List (S54)) (A1_2 : Option Addr) (c1_2 : Nat) (l1_2 : List (S54)) (r : Bool) (w : World) (hr0_1 : Kd.C k54 w A0_1 l0_1.length l0_1) (hc0_1 : l0_1.length ≤ c0_1) (hr0_2 : Kd.C k54 w A0_2 l0_2.length l0_2) (hc0_2 : l0_2.length ≤ c0_2) (hr1_1 : Kd.C k54 w A1_1 l1_1.length l1_1) (hc1_1 : l1_1.length ≤ c1_1) (hr1_2 : Kd.C k54 w A1_2 l1_2.length l1_2) (hc1_2 : l1_2.length ≤ c1_2) (h : aumbryref06_Same.f k a0_0 l0_1 l0_2 a1_0 l1_1 l1_2 = some r) :
 Calls Try.prog 59 #[.agg #[.int .i64 a0_0, .slice A0_1 l0_1.length c0_1, .slice A0_2 l0_2.length c0_2], .agg #[.int .i64 a1_0, .slice A1_1 l1_1.length c1_1, .slice A1_2 l1_2.length c1_2]] w fun e w' => e = .returned (.bool r) ∧ Below w.heap.size w w' := by
 have hu73 := Try.underlying73
 have HR0_1 := zM hr0_1
 have HC0_1 := zM hc0_1
 clear hr0_1 hc0_1
 have HR0_2 := zM hr0_2
 have HC0_2 := zM hc0_2
 clear hr0_2 hc0_2
 have HR1_1 := zM hr1_1
 have HC1_1 := zM hc1_1
 clear hr1_1 hc1_1
 have HR1_2 := zM hr1_2
 have HC1_2 := zM hc1_2
 clear hr1_2 hc1_2
 have HB := zM (Below.refl w.heap.size w)
 have H : (if a0_0 = a1_0 then ((aumbryref04_Same.f k l0_1 l1_1).bind fun t103 => (if t103 = true then ((aumbryref04_Same.f k l0_2 l1_2).bind fun t104 => (some t104)) else (some false))) else (some false)) = some r := h
 clear h
 by_cases c3 : a0_0 = a1_0
 ·
  rw [if_pos c3] at H
  have c3b0 : (a0_0 == a1_0) = true := zG c3
  have c3b1 : (a0_0 != a1_0) = false := zH c3
  clear c3
  replace H := zB H
  obtain ⟨t103, A40, H⟩ := H
  try dsimp only at H
  have A4 := zM A40
  clear A40
  by_cases c5 : t103 = true
  ·
   subst c5
   rw [if_pos rfl] at H
   replace H := zB H
   obtain ⟨t104, A60, H⟩ := H
   try dsimp only at H
   have A6 := zM A60
   clear A60
   obtain rfl := zS H
   go_enter Try.func59, Try.ntmps59
   go_wp2_with (first | ((with_reducible refine gate_dst (N := 2) rfl ?_); refine box_event ?hg (N := 2) ?hd (cs := #[.int .i64 a0_0, .slice A0_1 l0_1.length c0_1, .slice A0_2 l0_2.length c0_2]) (t := 73) ?hr ?_; (case hd => rfl); (case hg => rfl); (case hr => first | (go_simp; done) | (go_simp; rfl)); intro gb101 hg w7 hbox hb; have BK101 := zM (hbox); have GW101 := zM (zh hg : w.heap.size ≤ gb101); have GE101 := zM (zh hg : w.heap.size ≤ gb101); replace HB := zM (below_step zb hb); clear hb hbox hg) | ((with_reducible refine gate_dst (N := 3) rfl ?_); refine box_event ?hg (N := 3) ?hd (cs := #[.int .i64 a1_0, .slice A1_1 l1_1.length c1_1, .slice A1_2 l1_2.length c1_2]) (t := 73) ?hr ?_; (case hd => rfl); (case hg => rfl); (case hr => first | (go_simp; done) | (go_simp; rfl)); intro gb102 hg w8 hbox hb; have BK102 := zM (hbox); have GW102 := zM (zh hg : w.heap.size ≤ gb102); have GE102 := zM (zh hg : w.heap.size ≤ gb102); replace HB := zM (below_step zb hb); have NB101_102 := zM ((by rw [hg]; exact Nat.ne_of_lt (blk_lt (zk BK101.out)) : gb101 ≠ gb102)); have NB102_101 := zM ((by rw [hg]; exact Nat.ne_of_gt (blk_lt (zk BK101.out)) : gb102 ≠ gb101)); replace BK101 := zM (blk_below (zk BK101.out) hb); clear hb hbox hg; have hnb9 := NB101_102.out; have hnc9 := NB102_101.out; have hcz10_0 : w8.cell? ⟨gb101, 0, none⟩ = some (.int .i64 a0_0) := (zX BK101.out 0).trans rfl; have hcz10_1 : w8.cell? ⟨gb101, 1, none⟩ = some (.slice A0_1 l0_1.length c0_1) := (zX BK101.out 1).trans rfl; have hcz10_2 : w8.cell? ⟨gb101, 2, none⟩ = some (.slice A0_2 l0_2.length c0_2) := (zX BK101.out 2).trans rfl; have hfz10_0 := zY BK101.out 0; have hfz10_1 := zY BK101.out 1; have hfz10_2 := zY BK101.out 2; have hcz11_0 : w8.cell? ⟨gb102, 0, none⟩ = some (.int .i64 a1_0) := (zX BK102.out 0).trans rfl; have hcz11_1 : w8.cell? ⟨gb102, 1, none⟩ = some (.slice A1_1 l1_1.length c1_1) := (zX BK102.out 1).trans rfl; have hcz11_2 : w8.cell? ⟨gb102, 2, none⟩ = some (.slice A1_2 l1_2.length c1_2) := (zX BK102.out 2).trans rfl; have hfz11_0 := zY BK102.out 0; have hfz11_1 := zY BK102.out 1; have hfz11_2 := zY BK102.out 2) | (go_at_call 27; (with_reducible refine (aumbryref04_Same.calls k _ _ l0_1 _ _ l1_1 true _ ?side1 ?side2 ?side3 ?side4 A4.out).mono ?_); (case side1 => exact Kd.C_below HR0_1.out zb); (case side2 => exact HC0_1.out); (case side3 => exact Kd.C_below HR1_1.out zb); (case side4 => exact HC1_1.out); rintro e w' ⟨rfl, ⟨nd, rfl⟩⟩) | (go_at_call 27; (with_reducible refine (aumbryref04_Same.calls k _ _ l0_2 _ _ l1_2 t104 _ ?side1 ?side2 ?side3 ?side4 A6.out).mono ?_); (case side1 => exact Kd.C_below (Kd.C_below HR0_2.out zb) zg); (case side2 => exact HC0_2.out); (case side3 => exact Kd.C_below (Kd.C_below HR1_2.out zb) zg); (case side4 => exact HC1_2.out); rintro e w' ⟨rfl, ⟨nd, rfl⟩⟩))
   go_ret
   exact ⟨zw, zb⟩
  ·
   replace c5 := zI c5
   subst c5
   rw [if_neg (show ¬ (false = true) by decide)] at H
   obtain rfl := zS H
   go_enter Try.func59, Try.ntmps59
   go_wp2_with (first | ((with_reducible refine gate_dst (N := 2) rfl ?_); refine box_event ?hg (N := 2) ?hd (cs := #[.int .i64 a0_0, .slice A0_1 l0_1.length c0_1, .slice A0_2 l0_2.length c0_2]) (t := 73) ?hr ?_; (case hd => rfl); (case hg => rfl); (case hr => first | (go_simp; done) | (go_simp; rfl)); intro gb101 hg w12 hbox hb; have BK101 := zM (hbox); have GW101 := zM (zh hg : w.heap.size ≤ gb101); have GE101 := zM (zh hg : w.heap.size ≤ gb101); replace HB := zM (below_step zb hb); clear hb hbox hg) | ((with_reducible refine gate_dst (N := 3) rfl ?_); refine box_event ?hg (N := 3) ?hd (cs := #[.int .i64 a1_0, .slice A1_1 l1_1.length c1_1, .slice A1_2 l1_2.length c1_2]) (t := 73) ?hr ?_; (case hd => rfl); (case hg => rfl); (case hr => first | (go_simp; done) | (go_simp; rfl)); intro gb102 hg w13 hbox hb; have BK102 := zM (hbox); have GW102 := zM (zh hg : w.heap.size ≤ gb102); have GE102 := zM (zh hg : w.heap.size ≤ gb102); replace HB := zM (below_step zb hb); have NB101_102 := zM ((by rw [hg]; exact Nat.ne_of_lt (blk_lt (zk BK101.out)) : gb101 ≠ gb102)); have NB102_101 := zM ((by rw [hg]; exact Nat.ne_of_gt (blk_lt (zk BK101.out)) : gb102 ≠ gb101)); replace BK101 := zM (blk_below (zk BK101.out) hb); clear hb hbox hg; have hnb14 := NB101_102.out; have hnc14 := NB102_101.out; have hcz15_0 : w13.cell? ⟨gb101, 0, none⟩ = some (.int .i64 a0_0) := (zX BK101.out 0).trans rfl; have hcz15_1 : w13.cell? ⟨gb101, 1, none⟩ = some (.slice A0_1 l0_1.length c0_1) := (zX BK101.out 1).trans rfl; have hcz15_2 : w13.cell? ⟨gb101, 2, none⟩ = some (.slice A0_2 l0_2.length c0_2) := (zX BK101.out 2).trans rfl; have hfz15_0 := zY BK101.out 0; have hfz15_1 := zY BK101.out 1; have hfz15_2 := zY BK101.out 2; have hcz16_0 : w13.cell? ⟨gb102, 0, none⟩ = some (.int .i64 a1_0) := (zX BK102.out 0).trans rfl; have hcz16_1 : w13.cell? ⟨gb102, 1, none⟩ = some (.slice A1_1 l1_1.length c1_1) := (zX BK102.out 1).trans rfl; have hcz16_2 : w13.cell? ⟨gb102, 2, none⟩ = some (.slice A1_2 l1_2.length c1_2) := (zX BK102.out 2).trans rfl; have hfz16_0 := zY BK102.out 0; have hfz16_1 := zY BK102.out 1; have hfz16_2 := zY BK102.out 2) | (go_at_call 27; (with_reducible refine (aumbryref04_Same.calls k _ _ l0_1 _ _ l1_1 false _ ?side1 ?side2 ?side3 ?side4 A4.out).mono ?_); (case side1 => exact Kd.C_below HR0_1.out zb); (case side2 => exact HC0_1.out); (case side3 => exact Kd.C_below HR1_1.out zb); (case side4 => exact HC1_1.out); rintro e w' ⟨rfl, ⟨nd, rfl⟩⟩))
   go_ret
   exact ⟨zw, zb⟩
 ·
  rw [if_neg c3] at H
  have c3b0 : (a0_0 == a1_0) = false := zE c3
  have c3b1 : (a0_0 != a1_0) = true := zF c3
  obtain rfl := zS H
  go_enter Try.func59, Try.ntmps59
  go_wp2_with (first | ((with_reducible refine gate_dst (N := 2) rfl ?_); refine box_event ?hg (N := 2) ?hd (cs := #[.int .i64 a0_0, .slice A0_1 l0_1.length c0_1, .slice A0_2 l0_2.length c0_2]) (t := 73) ?hr ?_; (case hd => rfl); (case hg => rfl); (case hr => first | (go_simp; done) | (go_simp; rfl)); intro gb101 hg w17 hbox hb; have BK101 := zM (hbox); have GW101 := zM (zh hg : w.heap.size ≤ gb101); have GE101 := zM (zh hg : w.heap.size ≤ gb101); replace HB := zM (below_step zb hb); clear hb hbox hg) | ((with_reducible refine gate_dst (N := 3) rfl ?_); refine box_event ?hg (N := 3) ?hd (cs := #[.int .i64 a1_0, .slice A1_1 l1_1.length c1_1, .slice A1_2 l1_2.length c1_2]) (t := 73) ?hr ?_; (case hd => rfl); (case hg => rfl); (case hr => first | (go_simp; done) | (go_simp; rfl)); intro gb102 hg w18 hbox hb; have BK102 := zM (hbox); have GW102 := zM (zh hg : w.heap.size ≤ gb102); have GE102 := zM (zh hg : w.heap.size ≤ gb102); replace HB := zM (below_step zb hb); have NB101_102 := zM ((by rw [hg]; exact Nat.ne_of_lt (blk_lt (zk BK101.out)) : gb101 ≠ gb102)); have NB102_101 := zM ((by rw [hg]; exact Nat.ne_of_gt (blk_lt (zk BK101.out)) : gb102 ≠ gb101)); replace BK101 := zM (blk_below (zk BK101.out) hb); clear hb hbox hg; have hnb19 := NB101_102.out; have hnc19 := NB102_101.out; have hcz20_0 : w18.cell? ⟨gb101, 0, none⟩ = some (.int .i64 a0_0) := (zX BK101.out 0).trans rfl; have hcz20_1 : w18.cell? ⟨gb101, 1, none⟩ = some (.slice A0_1 l0_1.length c0_1) := (zX BK101.out 1).trans rfl; have hcz20_2 : w18.cell? ⟨gb101, 2, none⟩ = some (.slice A0_2 l0_2.length c0_2) := (zX BK101.out 2).trans rfl; have hfz20_0 := zY BK101.out 0; have hfz20_1 := zY BK101.out 1; have hfz20_2 := zY BK101.out 2; have hcz21_0 : w18.cell? ⟨gb102, 0, none⟩ = some (.int .i64 a1_0) := (zX BK102.out 0).trans rfl; have hcz21_1 : w18.cell? ⟨gb102, 1, none⟩ = some (.slice A1_1 l1_1.length c1_1) := (zX BK102.out 1).trans rfl; have hcz21_2 : w18.cell? ⟨gb102, 2, none⟩ = some (.slice A1_2 l1_2.length c1_2) := (zX BK102.out 2).trans rfl; have hfz21_0 := zY BK102.out 0; have hfz21_1 := zY BK102.out 1; have hfz21_2 := zY BK102.out 2))
  go_ret
  exact ⟨zw, zb⟩


-- ==== PF29

def aumbryref06_SameAll.l0 : Nat → List (S73) → List (S73) → Int → Int → Option (Bool)
 | 0, _, _, _, _ => none
 | k + 1, x0, x1, x12, x13 => if x13 < x12 then (if 0 ≤ x13 then (if x13 < (x0.length : Int) then (if x13 < (x1.length : Int) then ((aumbryref06_Same.f k ((rd_T73 x0 x13).f0) ((rd_T73 x0 x13).f1) ((rd_T73 x0 x13).f2) ((rd_T73 x1 x13).f0) ((rd_T73 x1 x13).f1) ((rd_T73 x1 x13).f2)).bind fun t103 => (if t103 = true then (aumbryref06_SameAll.l0 k x0 x1 x12 (wrap64 (x13 + 1))) else (some false))) else (none)) else (none)) else (none)) else (some true)
def aumbryref06_SameAll.f (k : Nat) (l0 : List (S73)) (l1 : List (S73)) : Option (Bool) := if (l0.length : Int) = (l1.length : Int) then (aumbryref06_SameAll.l0 k l0 l1 (l0.length : Int) 0) else (some false)
def aumbryref06_SameAll.T6 : Bool × List (List Nat × List Nat) := (true, [([], []), ([], []), ([0, 1], [0, 1]), ([2], [2]), ([], []), ([], []), ([4, 5], [4, 5]), ([6], [6]), ([3, 7], [3, 7]), ([8], [8])])
def aumbryref06_SameAll.B6 : List Nat := [0, 0, 3, 7, 0, 0, 48, 112, 255, 511]
theorem aumbryref06_SameAll.tab6 : rtab .any (opsOf Try.f29 6) = aumbryref06_SameAll.T6 := by kernel_rfl
theorem aumbryref06_SameAll.bits6 : waitsOk aumbryref06_SameAll.T6.2 aumbryref06_SameAll.B6 = true := by kernel_rfl
theorem aumbryref06_SameAll.calls (k : Nat) (A0 : Option Addr) (c0 : Nat) (l0 : List (S73)) (A1 : Option Addr) (c1 : Nat) (l1 : List (S73)) (r : Bool) (w : World) (hr0 : Kd.C k73 w A0 l0.length l0) (hc0 : l0.length ≤ c0) (hr1 : Kd.C k73 w A1 l1.length l1) (hc1 : l1.length ≤ c1) (h : aumbryref06_SameAll.f k l0 l1 = some r) :
 Calls Try.prog 29 #[.slice A0 l0.length c0, .slice A1 l1.length c1] w fun e w' => e = .returned (.bool r) ∧ Below w.heap.size w w' := by
 have hu73 := Try.underlying73
 have HR0 := zM hr0
 have HC0 := zM hc0
 clear hr0 hc0
 have HR1 := zM hr1
 have HC1 := zM hc1
 clear hr1 hc1
 have HB := zM (Below.refl w.heap.size w)
 have H : (if (l0.length : Int) = (l1.length : Int) then (aumbryref06_SameAll.l0 k l0 l1 (l0.length : Int) 0) else (some false)) = some r := h
 clear h
 by_cases c3 : (l0.length : Int) = (l1.length : Int)
 ·
  rw [if_pos c3] at H
  have c3b0 : ((l0.length : Int) == (l1.length : Int)) = true := zG c3
  have c3b1 : ((l0.length : Int) != (l1.length : Int)) = false := zH c3
  have c3b2 : (l0.length == l1.length) = true := by first | simpa using c3 | (simp at c3 ⊢; omega)
  clear c3
  have H' := zM H
  clear H
  go_enter Try.func29, Try.ntmps29
  go_wp2
  go_loopg [13] k (fun kq v13 w' => ∃ (x13_1 : Int), v13 = .int .i64 x13_1 ∧ Aside0 (aumbryref06_SameAll.l0 kq l0 l1 (l0.length : Int) x13_1 = some r) ∧ Aside0 (kq ≤ k) ∧ Aside0 (Below w.heap.size w w'))
  case atStart => exact ⟨(0), zy, H', ⟨Nat.le_refl _⟩, ⟨zb⟩⟩
  case round =>
   clear H'
   try clear c1
   try clear c2
   try clear p2
   try clear c3
   try clear c3b0
   try clear c3b1
   try clear c3b2
   obtain ⟨x13_1, rfl, HA, HK1, HB⟩ := hrel
   cases gk with
   | zero => exact absurd HA.out (by simp [aumbryref06_SameAll.l0])
   | succ k1 =>
    have H := HA.out
    clear HA
    simp only [aumbryref06_SameAll.l0] at H
    by_cases c4 : x13_1 < (l0.length : Int)
    ·
     rw [if_pos c4] at H
     have c4b0 : decide (x13_1 < (l0.length : Int)) = true := zQ c4
     clear c4
     by_cases c5 : 0 ≤ x13_1
     ·
      rw [if_pos c5] at H
      have c5b0 : decide (0 ≤ x13_1) = true := zQ c5
      clear c5
      by_cases c6 : x13_1 < (l0.length : Int)
      ·
       rw [if_pos c6] at H
       have c6b0 : decide (x13_1 < (l0.length : Int)) = true := zQ c6
       clear c6
       by_cases c7 : x13_1 < (l1.length : Int)
       ·
        rw [if_pos c7] at H
        have c7b0 : decide (x13_1 < (l1.length : Int)) = true := zQ c7
        clear c7
        replace H := zB H
        obtain ⟨t103, A80, H⟩ := H
        try dsimp only at H
        have A8 := zM A80
        clear A80
        by_cases c9 : t103 = true
        ·
         subst c9
         rw [if_pos rfl] at H
         have H' := zM H
         clear H
         try go_wp2
         have n0_ := zM (zD HB.out)
         clear HB
         have HB := n0_
         clear n0_
         have p101 : 0 ≤ (x13_1 : Int) := zT zv
         have q101 : x13_1 < (l0.length : Int) := zT zv
         obtain ⟨ad101, A101_1, c101_1, A101_2, c101_2, e101, hx101_0, hx101_1, hx101_2, hl101_1, hi101_1, hl101_2, hi101_2⟩ := at_T73 HR0.out x13_1 p101 q101
         have hw101_2 := hx101_2
         have hw101_1 := hx101_1
         have hw101_0 := hx101_0
         cases e101
         replace hx101_0 := (HB.out.cell (World.block_lt_of_cell? w _ hx101_0)).trans hx101_0
         replace hx101_1 := (HB.out.cell (World.block_lt_of_cell? w _ hx101_1)).trans hx101_1
         replace hx101_2 := (HB.out.cell (World.block_lt_of_cell? w _ hx101_2)).trans hx101_2
         have HR101_1 := zM hi101_1
         have HC101_1 := zM hl101_1
         clear hi101_1 hl101_1
         have HR101_2 := zM hi101_2
         have HC101_2 := zM hl101_2
         clear hi101_2 hl101_2
         replace p101 := eq_true p101
         replace q101 := eq_true q101
         have p102 : 0 ≤ (x13_1 : Int) := zT zv
         have q102 : x13_1 < (l1.length : Int) := zT zv
         obtain ⟨ad102, A102_1, c102_1, A102_2, c102_2, e102, hx102_0, hx102_1, hx102_2, hl102_1, hi102_1, hl102_2, hi102_2⟩ := at_T73 HR1.out x13_1 p102 q102
         have hw102_2 := hx102_2
         have hw102_1 := hx102_1
         have hw102_0 := hx102_0
         cases e102
         replace hx102_0 := (HB.out.cell (World.block_lt_of_cell? w _ hx102_0)).trans hx102_0
         replace hx102_1 := (HB.out.cell (World.block_lt_of_cell? w _ hx102_1)).trans hx102_1
         replace hx102_2 := (HB.out.cell (World.block_lt_of_cell? w _ hx102_2)).trans hx102_2
         have HR102_1 := zM hi102_1
         have HC102_1 := zM hl102_1
         clear hi102_1 hl102_1
         have HR102_2 := zM hi102_2
         have HC102_2 := zM hl102_2
         clear hi102_2 hl102_2
         replace p102 := eq_true p102
         replace q102 := eq_true q102
         refine start_ (n := 10) (S := fun w' => w'.cell? (ad101.add ((x13_1).toNat * 3)) = some (.int .i64 ((rd_T73 l0 x13_1).f0)) ∧ w'.cell? ⟨(ad101.add ((x13_1).toNat * 3)).block, (ad101.add ((x13_1).toNat * 3)).off + 1, none⟩ = some (.slice A101_1 ((rd_T73 l0 x13_1).f1).length c101_1) ∧ w'.cell? ⟨(ad101.add ((x13_1).toNat * 3)).block, (ad101.add ((x13_1).toNat * 3)).off + 2, none⟩ = some (.slice A101_2 ((rd_T73 l0 x13_1).f2).length c101_2) ∧ w'.cell? (ad102.add ((x13_1).toNat * 3)) = some (.int .i64 ((rd_T73 l1 x13_1).f0)) ∧ w'.cell? ⟨(ad102.add ((x13_1).toNat * 3)).block, (ad102.add ((x13_1).toNat * 3)).off + 1, none⟩ = some (.slice A102_1 ((rd_T73 l1 x13_1).f1).length c102_1) ∧ w'.cell? ⟨(ad102.add ((x13_1).toNat * 3)).block, (ad102.add ((x13_1).toNat * 3)).off + 2, none⟩ = some (.slice A102_2 ((rd_T73 l1 x13_1).f2).length c102_2)) (ds := []) #[false, false, false, false, false, false, false, false, false, false] (by kernel_rfl) rfl rfl ⟨((HB.out.cell (World.block_lt_of_cell? w _ hw101_0)).trans hw101_0), ((HB.out.cell (World.block_lt_of_cell? w _ hw101_1)).trans hw101_1), ((HB.out.cell (World.block_lt_of_cell? w _ hw101_2)).trans hw101_2), ((HB.out.cell (World.block_lt_of_cell? w _ hw102_0)).trans hw102_0), ((HB.out.cell (World.block_lt_of_cell? w _ hw102_1)).trans hw102_1), ((HB.out.cell (World.block_lt_of_cell? w _ hw102_2)).trans hw102_2)⟩ (fun hHeld => ?_); refine with_tabW aumbryref06_SameAll.tab6 aumbryref06_SameAll.bits6 (fun HT_ HW_ => ?_)
         generalize wr.drew = w10 at HB HR101_1 HR101_2 HR102_1 HR102_2 hx101_0 hx101_1 hx101_2 hx102_0 hx102_1 hx102_2 hHeld ⊢
         refine pure_ (i := 0) (N := some 16) (v := ?_) (a' := ?_) #[true, false, false, false, false, false, false, false, false, false] rfl rfl (any_of HT_.out (by kernel_rfl)) (fun _ _ _ h => h) (Or.inl ⟨by rfl, ?_⟩) ?_ ?_
         rotate_left
         ·
          intro w'
          go_simp
          with_reducible rfl
         rotate_left
         ·
          simp only [Act.put, zp1, zp2, zp3, i64_w, i32_w]
          rfl
         refine pure_ (i := 1) (N := some 17) (v := ?_) (a' := ?_) #[true, true, false, false, false, false, false, false, false, false] rfl rfl (any_of HT_.out (by kernel_rfl)) (fun _ _ _ h => h) (Or.inl ⟨by rfl, ?_⟩) ?_ ?_
         rotate_left
         ·
          intro w'
          go_simp
          with_reducible rfl
         rotate_left
         ·
          simp only [Act.put, zp1, zp2, zp3, i64_w, i32_w]
          rfl
         refine pure_ (i := 2) (N := some 18) (v := ?_) (a' := ?_) #[true, true, true, false, false, false, false, false, false, false] rfl rfl (any_of HT_.out (by kernel_rfl)) (fun _ _ _ h => h) (Or.inl ⟨by rfl, ?_⟩) ?_ ?_
         rotate_left
         ·
          intro w'
          go_simp
          with_reducible rfl
         rotate_left
         ·
          simp only [Act.put, zp1, zp2, zp3, i64_w, i32_w]
          rfl
         refine pure_ (i := 4) (N := some 20) (v := ?_) (a' := ?_) #[true, true, true, false, true, false, false, false, false, false] rfl rfl (any_of HT_.out (by kernel_rfl)) (fun _ _ _ h => h) (Or.inl ⟨by rfl, ?_⟩) ?_ ?_
         rotate_left
         ·
          intro w'
          go_simp
          with_reducible rfl
         rotate_left
         ·
          simp only [Act.put, zp1, zp2, zp3, i64_w, i32_w]
          rfl
         refine pure_ (i := 5) (N := some 21) (v := ?_) (a' := ?_) #[true, true, true, false, true, true, false, false, false, false] rfl rfl (any_of HT_.out (by kernel_rfl)) (fun _ _ _ h => h) (Or.inl ⟨by rfl, ?_⟩) ?_ ?_
         rotate_left
         ·
          intro w'
          go_simp
          with_reducible rfl
         rotate_left
         ·
          simp only [Act.put, zp1, zp2, zp3, i64_w, i32_w]
          rfl
         refine pure_ (i := 6) (N := some 22) (v := ?_) (a' := ?_) #[true, true, true, false, true, true, true, false, false, false] rfl rfl (any_of HT_.out (by kernel_rfl)) (fun _ _ _ h => h) (Or.inl ⟨by rfl, ?_⟩) ?_ ?_
         rotate_left
         ·
          intro w'
          go_simp
          with_reducible rfl
         rotate_left
         ·
          simp only [Act.put, zp1, zp2, zp3, i64_w, i32_w]
          rfl
         refine take_ (i := 3) (N := some 19) (v := ?_) (a' := ?_) #[true, true, true, true, true, true, true, false, false, false] rfl rfl (take_ofW HT_.out HW_.out (by kernel_rfl)) (fun _ _ _ h => h) (Or.inl ⟨by rfl, ?_⟩) hHeld ?_ ?_
         rotate_left
         ·
          rintro w' ⟨s0, s1, s2, s3, s4, s5⟩
          go_simp
          with_reducible rfl
         rotate_left
         ·
          simp only [Act.put, zp1, zp2, zp3, i64_w, i32_w]
          rfl
         refine take_ (i := 7) (N := some 23) (v := ?_) (a' := ?_) #[true, true, true, true, true, true, true, true, false, false] rfl rfl (take_ofW HT_.out HW_.out (by kernel_rfl)) (fun _ _ _ h => h) (Or.inl ⟨by rfl, ?_⟩) hHeld ?_ ?_
         rotate_left
         ·
          rintro w' ⟨s0, s1, s2, s3, s4, s5⟩
          go_simp
          with_reducible rfl
         rotate_left
         ·
          simp only [Act.put, zp1, zp2, zp3, i64_w, i32_w]
          rfl
         refine one_ (i := 8) (N := some 24) #[true, true, true, true, true, true, true, true, true, false] rfl rfl (one_of HT_.out (by kernel_rfl)) (by decide) (fun K hK => ?_)
         refine goes_ Try.func59 (by kernel_rfl) rfl #[.agg #[.int .i64 ((rd_T73 l0 x13_1).f0), .slice A101_1 ((rd_T73 l0 x13_1).f1).length c101_1, .slice A101_2 ((rd_T73 l0 x13_1).f2).length c101_2], .agg #[.int .i64 ((rd_T73 l1 x13_1).f0), .slice A102_1 ((rd_T73 l1 x13_1).f1).length c102_1, .slice A102_2 ((rd_T73 l1 x13_1).f2).length c102_2]] (by rfl) rfl rfl zl ?_
         with_reducible refine (aumbryref06_Same.calls k1 ((rd_T73 l0 x13_1).f0) _ _ ((rd_T73 l0 x13_1).f1) _ _ ((rd_T73 l0 x13_1).f2) ((rd_T73 l1 x13_1).f0) _ _ ((rd_T73 l1 x13_1).f1) _ _ ((rd_T73 l1 x13_1).f2) true _ ?side1 ?side2 ?side3 ?side4 ?side5 ?side6 ?side7 ?side8 A8.out).mono ?_
         (case side1 => exact Kd.C_below HR101_1.out zb)
         (case side2 => exact HC101_1.out)
         (case side3 => exact Kd.C_below HR101_2.out zb)
         (case side4 => exact HC101_2.out)
         (case side5 => exact Kd.C_below HR102_1.out zb)
         (case side6 => exact HC102_1.out)
         (case side7 => exact Kd.C_below HR102_2.out zb)
         (case side8 => exact HC102_2.out)
         rintro e w11 ⟨rfl, hb⟩
         refine ⟨_, rfl, ?_⟩
         have n0_ := zM (below_step zb hb)
         clear HB
         have HB := n0_
         clear n0_
         (try clear hb)
         (try clear hb2)
         (try clear hk)
         (try clear hi)
         refine hK.out _ _ ⟨((HB.out.cell (World.block_lt_of_cell? w _ hw101_0)).trans hw101_0), ((HB.out.cell (World.block_lt_of_cell? w _ hw101_1)).trans hw101_1), ((HB.out.cell (World.block_lt_of_cell? w _ hw101_2)).trans hw101_2), ((HB.out.cell (World.block_lt_of_cell? w _ hw102_0)).trans hw102_0), ((HB.out.cell (World.block_lt_of_cell? w _ hw102_1)).trans hw102_1), ((HB.out.cell (World.block_lt_of_cell? w _ hw102_2)).trans hw102_2)⟩ (fun hHeld => ?_)
         clear hK K
         refine norm_ (a' := ?_) ?_ ?_
         rotate_left
         ·
          show Act.put _ (some 24) _ = _
          simp only [Act.put, zp1, zp2, zp3, i64_w, i32_w]
          rfl
         refine pure_ (i := 9) (N := some 25) (v := ?_) (a' := ?_) #[true, true, true, true, true, true, true, true, true, true] rfl rfl (any_of HT_.out (by kernel_rfl)) (fun _ _ _ h => h) (Or.inl ⟨by rfl, ?_⟩) ?_ ?_
         rotate_left
         ·
          intro w'
          go_simp
          with_reducible rfl
         rotate_left
         ·
          simp only [Act.put, zp1, zp2, zp3, i64_w, i32_w]
          rfl
         refine done_ (done_of HT_.out (by kernel_rfl)) ?_
         try go_wp2
         go_roundg k1
         case measure => have := HK1.out; omega
         case rel => exact ⟨(wrap64 (x13_1 + 1)), zy, H', ⟨by have := HK1.out; omega⟩, ⟨zb⟩⟩
        ·
         replace c9 := zI c9
         subst c9
         rw [if_neg (show ¬ (false = true) by decide)] at H
         obtain rfl := zS H
         try go_wp2
         have n0_ := zM (zD HB.out)
         clear HB
         have HB := n0_
         clear n0_
         have p101 : 0 ≤ (x13_1 : Int) := zT zv
         have q101 : x13_1 < (l0.length : Int) := zT zv
         obtain ⟨ad101, A101_1, c101_1, A101_2, c101_2, e101, hx101_0, hx101_1, hx101_2, hl101_1, hi101_1, hl101_2, hi101_2⟩ := at_T73 HR0.out x13_1 p101 q101
         have hw101_2 := hx101_2
         have hw101_1 := hx101_1
         have hw101_0 := hx101_0
         cases e101
         replace hx101_0 := (HB.out.cell (World.block_lt_of_cell? w _ hx101_0)).trans hx101_0
         replace hx101_1 := (HB.out.cell (World.block_lt_of_cell? w _ hx101_1)).trans hx101_1
         replace hx101_2 := (HB.out.cell (World.block_lt_of_cell? w _ hx101_2)).trans hx101_2
         have HR101_1 := zM hi101_1
         have HC101_1 := zM hl101_1
         clear hi101_1 hl101_1
         have HR101_2 := zM hi101_2
         have HC101_2 := zM hl101_2
         clear hi101_2 hl101_2
         replace p101 := eq_true p101
         replace q101 := eq_true q101
         have p102 : 0 ≤ (x13_1 : Int) := zT zv
         have q102 : x13_1 < (l1.length : Int) := zT zv
         obtain ⟨ad102, A102_1, c102_1, A102_2, c102_2, e102, hx102_0, hx102_1, hx102_2, hl102_1, hi102_1, hl102_2, hi102_2⟩ := at_T73 HR1.out x13_1 p102 q102
         have hw102_2 := hx102_2
         have hw102_1 := hx102_1
         have hw102_0 := hx102_0
         cases e102
         replace hx102_0 := (HB.out.cell (World.block_lt_of_cell? w _ hx102_0)).trans hx102_0
         replace hx102_1 := (HB.out.cell (World.block_lt_of_cell? w _ hx102_1)).trans hx102_1
         replace hx102_2 := (HB.out.cell (World.block_lt_of_cell? w _ hx102_2)).trans hx102_2
         have HR102_1 := zM hi102_1
         have HC102_1 := zM hl102_1
         clear hi102_1 hl102_1
         have HR102_2 := zM hi102_2
         have HC102_2 := zM hl102_2
         clear hi102_2 hl102_2
         replace p102 := eq_true p102
         replace q102 := eq_true q102
         refine start_ (n := 10) (S := fun w' => w'.cell? (ad101.add ((x13_1).toNat * 3)) = some (.int .i64 ((rd_T73 l0 x13_1).f0)) ∧ w'.cell? ⟨(ad101.add ((x13_1).toNat * 3)).block, (ad101.add ((x13_1).toNat * 3)).off + 1, none⟩ = some (.slice A101_1 ((rd_T73 l0 x13_1).f1).length c101_1) ∧ w'.cell? ⟨(ad101.add ((x13_1).toNat * 3)).block, (ad101.add ((x13_1).toNat * 3)).off + 2, none⟩ = some (.slice A101_2 ((rd_T73 l0 x13_1).f2).length c101_2) ∧ w'.cell? (ad102.add ((x13_1).toNat * 3)) = some (.int .i64 ((rd_T73 l1 x13_1).f0)) ∧ w'.cell? ⟨(ad102.add ((x13_1).toNat * 3)).block, (ad102.add ((x13_1).toNat * 3)).off + 1, none⟩ = some (.slice A102_1 ((rd_T73 l1 x13_1).f1).length c102_1) ∧ w'.cell? ⟨(ad102.add ((x13_1).toNat * 3)).block, (ad102.add ((x13_1).toNat * 3)).off + 2, none⟩ = some (.slice A102_2 ((rd_T73 l1 x13_1).f2).length c102_2)) (ds := []) #[false, false, false, false, false, false, false, false, false, false] (by kernel_rfl) rfl rfl ⟨((HB.out.cell (World.block_lt_of_cell? w _ hw101_0)).trans hw101_0), ((HB.out.cell (World.block_lt_of_cell? w _ hw101_1)).trans hw101_1), ((HB.out.cell (World.block_lt_of_cell? w _ hw101_2)).trans hw101_2), ((HB.out.cell (World.block_lt_of_cell? w _ hw102_0)).trans hw102_0), ((HB.out.cell (World.block_lt_of_cell? w _ hw102_1)).trans hw102_1), ((HB.out.cell (World.block_lt_of_cell? w _ hw102_2)).trans hw102_2)⟩ (fun hHeld => ?_); refine with_tabW aumbryref06_SameAll.tab6 aumbryref06_SameAll.bits6 (fun HT_ HW_ => ?_)
         generalize wr.drew = w12 at HB HR101_1 HR101_2 HR102_1 HR102_2 hx101_0 hx101_1 hx101_2 hx102_0 hx102_1 hx102_2 hHeld ⊢
         refine pure_ (i := 0) (N := some 16) (v := ?_) (a' := ?_) #[true, false, false, false, false, false, false, false, false, false] rfl rfl (any_of HT_.out (by kernel_rfl)) (fun _ _ _ h => h) (Or.inl ⟨by rfl, ?_⟩) ?_ ?_
         rotate_left
         ·
          intro w'
          go_simp
          with_reducible rfl
         rotate_left
         ·
          simp only [Act.put, zp1, zp2, zp3, i64_w, i32_w]
          rfl
         refine pure_ (i := 1) (N := some 17) (v := ?_) (a' := ?_) #[true, true, false, false, false, false, false, false, false, false] rfl rfl (any_of HT_.out (by kernel_rfl)) (fun _ _ _ h => h) (Or.inl ⟨by rfl, ?_⟩) ?_ ?_
         rotate_left
         ·
          intro w'
          go_simp
          with_reducible rfl
         rotate_left
         ·
          simp only [Act.put, zp1, zp2, zp3, i64_w, i32_w]
          rfl
         refine pure_ (i := 2) (N := some 18) (v := ?_) (a' := ?_) #[true, true, true, false, false, false, false, false, false, false] rfl rfl (any_of HT_.out (by kernel_rfl)) (fun _ _ _ h => h) (Or.inl ⟨by rfl, ?_⟩) ?_ ?_
         rotate_left
         ·
          intro w'
          go_simp
          with_reducible rfl
         rotate_left
         ·
          simp only [Act.put, zp1, zp2, zp3, i64_w, i32_w]
          rfl
         refine pure_ (i := 4) (N := some 20) (v := ?_) (a' := ?_) #[true, true, true, false, true, false, false, false, false, false] rfl rfl (any_of HT_.out (by kernel_rfl)) (fun _ _ _ h => h) (Or.inl ⟨by rfl, ?_⟩) ?_ ?_
         rotate_left
         ·
          intro w'
          go_simp
          with_reducible rfl
         rotate_left
         ·
          simp only [Act.put, zp1, zp2, zp3, i64_w, i32_w]
          rfl
         refine pure_ (i := 5) (N := some 21) (v := ?_) (a' := ?_) #[true, true, true, false, true, true, false, false, false, false] rfl rfl (any_of HT_.out (by kernel_rfl)) (fun _ _ _ h => h) (Or.inl ⟨by rfl, ?_⟩) ?_ ?_
         rotate_left
         ·
          intro w'
          go_simp
          with_reducible rfl
         rotate_left
         ·
          simp only [Act.put, zp1, zp2, zp3, i64_w, i32_w]
          rfl
         refine pure_ (i := 6) (N := some 22) (v := ?_) (a' := ?_) #[true, true, true, false, true, true, true, false, false, false] rfl rfl (any_of HT_.out (by kernel_rfl)) (fun _ _ _ h => h) (Or.inl ⟨by rfl, ?_⟩) ?_ ?_
         rotate_left
         ·
          intro w'
          go_simp
          with_reducible rfl
         rotate_left
         ·
          simp only [Act.put, zp1, zp2, zp3, i64_w, i32_w]
          rfl
         refine take_ (i := 3) (N := some 19) (v := ?_) (a' := ?_) #[true, true, true, true, true, true, true, false, false, false] rfl rfl (take_ofW HT_.out HW_.out (by kernel_rfl)) (fun _ _ _ h => h) (Or.inl ⟨by rfl, ?_⟩) hHeld ?_ ?_
         rotate_left
         ·
          rintro w' ⟨s0, s1, s2, s3, s4, s5⟩
          go_simp
          with_reducible rfl
         rotate_left
         ·
          simp only [Act.put, zp1, zp2, zp3, i64_w, i32_w]
          rfl
         refine take_ (i := 7) (N := some 23) (v := ?_) (a' := ?_) #[true, true, true, true, true, true, true, true, false, false] rfl rfl (take_ofW HT_.out HW_.out (by kernel_rfl)) (fun _ _ _ h => h) (Or.inl ⟨by rfl, ?_⟩) hHeld ?_ ?_
         rotate_left
         ·
          rintro w' ⟨s0, s1, s2, s3, s4, s5⟩
          go_simp
          with_reducible rfl
         rotate_left
         ·
          simp only [Act.put, zp1, zp2, zp3, i64_w, i32_w]
          rfl
         refine one_ (i := 8) (N := some 24) #[true, true, true, true, true, true, true, true, true, false] rfl rfl (one_of HT_.out (by kernel_rfl)) (by decide) (fun K hK => ?_)
         refine goes_ Try.func59 (by kernel_rfl) rfl #[.agg #[.int .i64 ((rd_T73 l0 x13_1).f0), .slice A101_1 ((rd_T73 l0 x13_1).f1).length c101_1, .slice A101_2 ((rd_T73 l0 x13_1).f2).length c101_2], .agg #[.int .i64 ((rd_T73 l1 x13_1).f0), .slice A102_1 ((rd_T73 l1 x13_1).f1).length c102_1, .slice A102_2 ((rd_T73 l1 x13_1).f2).length c102_2]] (by rfl) rfl rfl zl ?_
         with_reducible refine (aumbryref06_Same.calls k1 ((rd_T73 l0 x13_1).f0) _ _ ((rd_T73 l0 x13_1).f1) _ _ ((rd_T73 l0 x13_1).f2) ((rd_T73 l1 x13_1).f0) _ _ ((rd_T73 l1 x13_1).f1) _ _ ((rd_T73 l1 x13_1).f2) false _ ?side1 ?side2 ?side3 ?side4 ?side5 ?side6 ?side7 ?side8 A8.out).mono ?_
         (case side1 => exact Kd.C_below HR101_1.out zb)
         (case side2 => exact HC101_1.out)
         (case side3 => exact Kd.C_below HR101_2.out zb)
         (case side4 => exact HC101_2.out)
         (case side5 => exact Kd.C_below HR102_1.out zb)
         (case side6 => exact HC102_1.out)
         (case side7 => exact Kd.C_below HR102_2.out zb)
         (case side8 => exact HC102_2.out)
         rintro e w13 ⟨rfl, hb⟩
         refine ⟨_, rfl, ?_⟩
         have n0_ := zM (below_step zb hb)
         clear HB
         have HB := n0_
         clear n0_
         (try clear hb)
         (try clear hb2)
         (try clear hk)
         (try clear hi)
         refine hK.out _ _ ⟨((HB.out.cell (World.block_lt_of_cell? w _ hw101_0)).trans hw101_0), ((HB.out.cell (World.block_lt_of_cell? w _ hw101_1)).trans hw101_1), ((HB.out.cell (World.block_lt_of_cell? w _ hw101_2)).trans hw101_2), ((HB.out.cell (World.block_lt_of_cell? w _ hw102_0)).trans hw102_0), ((HB.out.cell (World.block_lt_of_cell? w _ hw102_1)).trans hw102_1), ((HB.out.cell (World.block_lt_of_cell? w _ hw102_2)).trans hw102_2)⟩ (fun hHeld => ?_)
         clear hK K
         refine norm_ (a' := ?_) ?_ ?_
         rotate_left
         ·
          show Act.put _ (some 24) _ = _
          simp only [Act.put, zp1, zp2, zp3, i64_w, i32_w]
          rfl
         refine pure_ (i := 9) (N := some 25) (v := ?_) (a' := ?_) #[true, true, true, true, true, true, true, true, true, true] rfl rfl (any_of HT_.out (by kernel_rfl)) (fun _ _ _ h => h) (Or.inl ⟨by rfl, ?_⟩) ?_ ?_
         rotate_left
         ·
          intro w'
          go_simp
          with_reducible rfl
         rotate_left
         ·
          simp only [Act.put, zp1, zp2, zp3, i64_w, i32_w]
          rfl
         refine done_ (done_of HT_.out (by kernel_rfl)) ?_
         try go_wp2
         go_ret
         exact ⟨zw, zb⟩
       ·
        rw [if_neg c7] at H
        exact absurd H (by simp)
      ·
       rw [if_neg c6] at H
       exact absurd H (by simp)
     ·
      rw [if_neg c5] at H
      exact absurd H (by simp)
    ·
     rw [if_neg c4] at H
     have c4b0 : decide (x13_1 < (l0.length : Int)) = false := zR c4
     clear c4
     obtain rfl := zS H
     go_wp2
     go_ret
     exact ⟨zw, zb⟩
 ·
  rw [if_neg c3] at H
  have c3b0 : ((l0.length : Int) == (l1.length : Int)) = false := zE c3
  have c3b1 : ((l0.length : Int) != (l1.length : Int)) = true := zF c3
  have c3b2 : (l0.length == l1.length) = false := by first | simpa using c3 | (simp at c3 ⊢; omega)
  obtain rfl := zS H
  go_enter Try.func29, Try.ntmps29
  go_wp2
  go_ret
  exact ⟨zw, zb⟩


-- ==== PF35

def aumbryref07_Turned.l0 : Nat → List (S70) → List (S70) → Int → Option ((List (S70)))
 | 0, _, _, _ => none
 | k + 1, x0, x3, x4 => if x4 ≥ 0 then (if 0 ≤ x4 then (if x4 < (x0.length : Int) then (if x3.length < 2513169434916 then (aumbryref07_Turned.l0 k x0 (x3 ++ [(⟨(rd_T70 x0 x4).f0, (⟨(rd_T70 x0 x4).f1.f0, (rd_T70 x0 x4).f1.f1⟩ : S54), (rd_T70 x0 x4).f2⟩ : S70)]) (wrap64 (x4 - 1))) else (none)) else (none)) else (none)) else (some x3)
def aumbryref07_Turned.f (k : Nat) (l0 : List (S70)) : Option ((List (S70))) := aumbryref07_Turned.l0 k l0 ([] : List (S70)) (wrap64 ((l0.length : Int) - 1))

-- ==== PF14

def aumbryref07_Start.f (k : Nat) (l0 : List (S54)) : Option ((List (S70)) × (List (List (S54))) × Int × List ByteArray × Int) := (aumbryref04_Check.f k l0).bind fun t102 => (if t102 = 0 then ((aumbryref07_Ground.f k l0).bind fun t103 => (if t103 = true then ((aumbryref07_Todo.f k l0 ([] : List (S104))).bind fun t104 => ((aumbryref07_Turned.f k t104).bind fun t107 => (some (t107, ([] : List (List (S54))), 0, ([] : List ByteArray), 0)))) else (some (([] : List (S70)), ([] : List (List (S54))), 0, ([] : List ByteArray), 7)))) else (some (([] : List (S70)), ([] : List (List (S54))), 0, ([] : List ByteArray), t102)))

-- ==== PF58

def aumbryref05_Put.l0 : Nat → List (S54) → List (S104) → List (S54) → Int → Int → Option ((List (S54)))
 | 0, _, _, _, _, _ => none
 | k + 1, x0, x1, x5, x8, x9 => if x9 < x8 then (if 0 ≤ x9 then (if x9 < (x0.length : Int) then ((aumbryref03_Kind.f k ((rd_T54 x0 x9).f0)).bind fun t102 => (if t102 = 2 then ((aumbryref05_At.f k x1 ((rd_T54 x0 x9).f0)).bind fun t104 => (if 0 ≤ t104 then (if t104 < (x1.length : Int) then (if x5.length + ((rd_T104 x1 t104).f1).length < 5864062014805 then (aumbryref05_Put.l0 k x0 x1 (x5 ++ ((rd_T104 x1 t104).f1)) x8 (wrap64 (x9 + 1))) else (none)) else (none)) else (none))) else (if x5.length < 5864062014805 then (aumbryref05_Put.l0 k x0 x1 (x5 ++ [(⟨(rd_T54 x0 x9).f0, (rd_T54 x0 x9).f1⟩ : S54)]) x8 (wrap64 (x9 + 1))) else (none)))) else (none)) else (none)) else (some x5)
def aumbryref05_Put.f (k : Nat) (l0 : List (S54)) (l1 : List (S104)) : Option ((List (S54))) := aumbryref05_Put.l0 k l0 l1 ([] : List (S54)) (l0.length : Int) 0

-- ==== PF26

mutual
def aumbryref07_Inner.l0 : Nat → List (S73) → List (S54) → Int → Option ((List (S54)) × Int × Int)
 | 0, _, _, _ => none
 | k + 1, x0, x1, x2 => (aumbryref04_Kids.f k x1).bind fun t101 => (if 0 < (x1.length : Int) then (aumbryref07_Inner.l1 k x0 x2 t101 (([(⟨(rd_T54 x1 0).f0, (rd_T54 x1 0).f1⟩ : S54)] : List (S54))) (t101.length : Int) 0) else (none))
def aumbryref07_Inner.l1 : Nat → List (S73) → Int → List (List (S54)) → List (S54) → Int → Int → Option ((List (S54)) × Int × Int)
 | 0, _, _, _, _, _, _ => none
 | k + 1, x0, x2, x9, x10, x25, x26 => if x26 < x25 then (if 0 ≤ x26 then (if x26 < (x9.length : Int) then ((aumbryref07_Inner.f k x0 (rd_L3 x9 x26) x2).bind fun bt109 => (if bt109.2.2 = 0 then (if x10.length + bt109.1.length < 5864062014805 then (aumbryref07_Inner.l1 k x0 bt109.2.1 x9 (x10 ++ bt109.1) x25 (wrap64 (x26 + 1))) else (none)) else (some (([] : List (S54)), 0, bt109.2.2)))) else (none)) else (none)) else (if (x10.length : Int) > 64 then (some (([] : List (S54)), 0, 6)) else ((aumbryref07_First.f k x0 x10).bind fun bt117 => (if bt117.1 < 0 then (some (x10, x2, 0)) else (if x2 ≤ 0 then (some (([] : List (S54)), 0, 14)) else (if 0 ≤ bt117.1 then (if bt117.1 < (x0.length : Int) then ((aumbryref05_Var.f k ((rd_T73 x0 bt117.1).f2)).bind fun t122 => (if t122 = true then (if 0 < (((rd_T73 x0 bt117.1).f2).length : Int) then ((aumbryref05_At.f k bt117.2 ((rd_T54 ((rd_T73 x0 bt117.1).f2) 0).f0)).bind fun t124 => (if 0 ≤ t124 then (if t124 < (bt117.2.length : Int) then ((aumbryref04_Copy.f ((rd_T104 bt117.2 t124).f1)).bind fun t126 => (some (t126, wrap64 (x2 - 1), 0))) else (none)) else (none))) else (none)) else ((aumbryref05_Put.f k ((rd_T73 x0 bt117.1).f2) bt117.2).bind fun t129 => (if (t129.length : Int) > 4000 then (some (([] : List (S54)), 0, 6)) else (aumbryref07_Inner.l0 k x0 t129 (wrap64 (x2 - 1))))))) else (none)) else (none))))))
def aumbryref07_Inner.f : Nat → List (S73) → List (S54) → Int → Option ((List (S54)) × Int × Int)
 | 0, _, _, _ => none
 | k + 1, l0, l1, a2 => aumbryref07_Inner.l0 k l0 l1 a2
end

-- ==== PF17

def aumbryref07_Copy.l0 : Nat → Int → Int → List (S70) → List (List (S54)) → Int → List ByteArray → List (S70) → List (List (S54)) → Int → Option ((List (S70)) × (List (List (S54))) × Int × List ByteArray)
 | 0, _, _, _, _, _, _, _, _, _ => none
 | k + 1, x14, x15, x102000, x102001, x102002, x102003, x107000, x107001, x107002 => if x15 < x14 then (if 0 ≤ x15 then (if x15 < (x102000.length : Int) then ((aumbryref04_Copy.f ((rd_T70 x102000 x15).f2)).bind fun t109 => (if x107000.length < 2513169434916 then (aumbryref07_Copy.l0 k x14 (wrap64 (x15 + 1)) x102000 x102001 x102002 x102003 (x107000 ++ [(⟨(rd_T70 x102000 x15).f0, (⟨(rd_T70 x102000 x15).f1.f0, (rd_T70 x102000 x15).f1.f1⟩ : S54), t109⟩ : S70)]) x107001 x107002) else (none))) else (none)) else (none)) else (if ([] : List ByteArray).length + x102003.length < 8796093022208 then (some (x107000, x107001, x107002, (([] : List ByteArray) ++ x102003))) else (none))
def aumbryref07_Copy.f (k : Nat) (l0_0 : List (S70)) (l0_1 : List (List (S54))) (a0_2 : Int) (l0_3 : List ByteArray) : Option ((List (S70)) × (List (List (S54))) × Int × List ByteArray) := (aumbryref04_CopyAll.f k l0_1).bind fun t103 => (aumbryref07_Copy.l0 k (l0_0.length : Int) 0 l0_0 l0_1 a0_2 l0_3 ([] : List (S70)) t103 a0_2)
def aumbryref07_Copy.T1 : Bool × List (List Nat × List Nat) := (true, [([], []), ([0], [0]), ([1], [1]), ([], []), ([3], [3]), ([2, 4], [2, 4]), ([], []), ([6, 5, 2, 0, 1, 2, 3, 4, 5, 6], [5, 6])])
def aumbryref07_Copy.B1 : List Nat := [0, 1, 3, 0, 8, 31, 0, 127]

-- ==== PF15

attribute [local go_sem high] eqA54
mutual
def aumbryref07_Same.j0 : Nat → Bool → List (S70) → List (List (S54)) → Int → List ByteArray → List (S70) → List (List (S54)) → Int → List ByteArray → Option (Bool)
 | 0, _, _, _, _, _, _, _, _, _ => none
 | k + 1, x35, x102000, x102001, x102002, x102003, x103000, x103001, x103002, x103003 => if x35 = true then (some false) else (aumbryref07_Same.l0 k (x102000.length : Int) 0 x102000 x102001 x102002 x102003 x103000 x103001 x103002 x103003)
def aumbryref07_Same.l0 : Nat → Int → Int → List (S70) → List (List (S54)) → Int → List ByteArray → List (S70) → List (List (S54)) → Int → List ByteArray → Option (Bool)
 | 0, _, _, _, _, _, _, _, _, _, _ => none
 | k + 1, x38, x39, x102000, x102001, x102002, x102003, x103000, x103001, x103002, x103003 => if x39 < x38 then (if 0 ≤ x39 then (if x39 < (x102000.length : Int) then (if x39 < (x103000.length : Int) then (if ((rd_T70 x102000 x39).f0) = ((rd_T70 x103000 x39).f0) then (if (!((((rd_T70 x102000 x39).f1.f0).toList) == (((rd_T70 x103000 x39).f1.f0).toList)) || (!(((rd_T70 x102000 x39).f1.f1) == ((rd_T70 x103000 x39).f1.f1)))) = true then (some false) else ((aumbryref04_Same.f k ((rd_T70 x102000 x39).f2) ((rd_T70 x103000 x39).f2)).bind fun t111 => (if t111 = true then (aumbryref07_Same.l0 k x38 (wrap64 (x39 + 1)) x102000 x102001 x102002 x102003 x103000 x103001 x103002 x103003) else (some false)))) else (some false)) else (none)) else (none)) else (none)) else (some true)
end
def aumbryref07_Same.f (k : Nat) (l0_0 : List (S70)) (l0_1 : List (List (S54))) (a0_2 : Int) (l0_3 : List ByteArray) (l1_0 : List (S70)) (l1_1 : List (List (S54))) (a1_2 : Int) (l1_3 : List ByteArray) : Option (Bool) := if (l0_0.length : Int) = (l1_0.length : Int) then (if a0_2 = a1_2 then ((aumbryref03_Same.f k l0_3 l1_3).bind fun t103 => (if t103 = true then ((aumbryref04_SameAll.f k l0_1 l1_1).bind fun t104 => (aumbryref07_Same.j0 k (!t104) l0_0 l0_1 a0_2 l0_3 l1_0 l1_1 a1_2 l1_3)) else (aumbryref07_Same.j0 k true l0_0 l0_1 a0_2 l0_3 l1_0 l1_1 a1_2 l1_3))) else (aumbryref07_Same.j0 k true l0_0 l0_1 a0_2 l0_3 l1_0 l1_1 a1_2 l1_3)) else (aumbryref07_Same.j0 k true l0_0 l0_1 a0_2 l0_3 l1_0 l1_1 a1_2 l1_3)
def aumbryref07_Same.T6 : Bool × List (List Nat × List Nat) := (true, [([], []), ([0], [0]), ([], []), ([1, 2], [1, 2]), ([3], [3]), ([4], [4]), ([], []), ([6], [6]), ([], []), ([7, 8], [7, 8]), ([9], [9]), ([10], [10]), ([5, 11], [5, 11]), ([12], [12]), ([13], [13]), ([14, 13], [13, 14]), ([13], [13]), ([15, 16, 13], [13, 15, 16]), ([17, 13], [13, 17]), ([18, 13], [13, 18]), ([13], [13]), ([20, 13], [13, 20]), ([13], [13]), ([21, 22, 13], [13, 21, 22]), ([23, 13], [13, 23]), ([24, 13], [13, 24]), ([19, 25, 13], [13, 19, 25]), ([13, 26], [13, 26]), ([27, 13], [27]), ([28], [28]), ([29, 28], [28, 29]), ([28], [28]), ([30, 31, 28], [28, 30, 31]), ([32, 28], [28, 32]), ([33, 28], [28, 33]), ([28], [28]), ([35, 28], [28, 35]), ([28], [28]), ([36, 37, 28], [28, 36, 37]), ([38, 28], [28, 38]), ([39, 28], [28, 39]), ([34, 40, 28, 28], [28, 34, 40]), ([41, 28], [28, 41]), ([28, 42], [28, 42])])
def aumbryref07_Same.B6 : List Nat := [0, 1, 0, 7, 15, 31, 0, 64, 0, 448, 960, 1984, 4095, 8191, 16383, 32767, 16383, 131071, 262143, 524287, 16383, 1064959, 16383, 7356415, 15745023, 32522239, 67108863, 134217727, 268435455, 536870911, 1073741823, 536870911, 4294967295, 8589934591, 17179869183, 536870911, 34896609279, 536870911, 241055039487, 515932946431, 1065688760319, 2199023255551, 4398046511103, 8796093022207]
end Go.Proofs.Ytdlkhpfgkghhmaa.P

-- ==== OwnH
/- What is written over in rows that a call made: the rows' cells, the blocks that they lie in. -/
namespace Go.Proofs.Ytdlkhpfgkghhmaa.P
open Go.RowKit Go.Proofs.YtdlkhpfgkghhmaaW.PrintWords Go.Proofs.YtdlkhpfgkghhmaaW.PrintLast Go.Proofs.YtdlkhpfgkghhmaaW.PrintMore
abbrev OwC := S54
def WrRow (W : World) (g n : Nat) : Prop := ∃ cs, W.heap[g]? = some (.cells cs 54 (0, 0)) ∧ ∀ j, j < n → ∃ s, cs[j * 2]? = some (.string s)
theorem WrRow.cell {W : World} {g n : Nat} (h : WrRow W g n) {j : Nat} (hj : j < n) : ∃ s, W.cell? ⟨g, j * 2, none⟩ = some (.string s) ∧ W.frozen? ⟨g, j * 2, none⟩ = false := by
 obtain ⟨cs, h1, h2⟩ := h
 obtain ⟨s, hs⟩ := h2 j hj
 exact ⟨s, (blk_cell h1 _).trans hs, blk_frozen h1 _⟩
theorem WrRow.set {W : World} {g n : Nat} (h : WrRow W g n) (g' o : Nat) (x : ByteArray) : WrRow (W.setCell ⟨g', o, none⟩ (.string x)) g n := by
 obtain ⟨cs, h1, h2⟩ := h
 by_cases hg : g' = g
 ·
  subst hg
  refine ⟨_, blk_set h1 o _, fun j hj => ?_⟩
  obtain ⟨s, hs⟩ := h2 j hj
  by_cases ho : o = j * 2
  ·
   subst ho
   refine ⟨x, ?_⟩
   rw [Array.getElem?_setIfInBounds]
   have := (Array.getElem?_eq_some_iff.1 hs).1
   simp [this]
  ·
   refine ⟨s, ?_⟩
   rw [Array.getElem?_setIfInBounds, if_neg ho]
   exact hs
 ·
  exact ⟨cs, blk_far h1 (p := ⟨g', o, none⟩) (fun he => hg he.symm) _, h2⟩
theorem WrRow.alloc {W : World} {g n : Nat} (h : WrRow W g n) (o : Obj) : WrRow (W.alloc o) g n := by
 obtain ⟨cs, h1, h2⟩ := h
 exact ⟨cs, (Below.heap_alloc W o g (blk_lt h1)).trans h1, h2⟩
theorem WrRow.kept {W W' : World} {g n : Nat} {S : Nat → Prop} (h : WrRow W g n) (hk : Kept W W' S) (hg : ¬ S g) : WrRow W' g n := by
 obtain ⟨cs, h1, h2⟩ := h
 exact ⟨cs, blk_kept h1 hk hg, h2⟩
def WrRows (W : World) (S : Nat → Prop) (G : Nat) (lens : List Nat) : Prop :=
 ¬ S G ∧ ∃ cs, W.heap[G]? = some (.cells cs 23 (0, 0)) ∧ ∀ (i n : Nat), lens[i]? = some n → ∃ (B : Option Addr) (c : Nat), cs[i]? = some (Value.slice B n c) ∧ (n ≤ c ∧ n ≤ 9223372036854775807) ∧ (0 < n → ∃ g, B = some ⟨g, 0, none⟩ ∧ S g ∧ WrRow W g n)
theorem WrRows.set {W : World} {S : Nat → Prop} {G : Nat} {lens : List Nat} (h : WrRows W S G lens) {g' : Nat} (hg : S g') (o : Nat) (x : ByteArray) : WrRows (W.setCell ⟨g', o, none⟩ (.string x)) S G lens := by
 obtain ⟨h0, cs, h1, h2⟩ := h
 refine ⟨h0, cs, blk_far h1 (p := ⟨g', o, none⟩) (fun he => h0 (by rw [he]; exact hg)) _, fun i n hi => ?_⟩
 obtain ⟨B, c, a1, a2, a3⟩ := h2 i n hi
 refine ⟨B, c, a1, a2, fun hn => ?_⟩
 obtain ⟨g, b1, b2, b3⟩ := a3 hn
 exact ⟨g, b1, b2, b3.set g' o x⟩
theorem WrRows.alloc {W : World} {S : Nat → Prop} {G : Nat} {lens : List Nat} (h : WrRows W S G lens) (o : Obj) : WrRows (W.alloc o) S G lens := by
 obtain ⟨h0, cs, h1, h2⟩ := h
 refine ⟨h0, cs, (Below.heap_alloc W o G (blk_lt h1)).trans h1, fun i n hi => ?_⟩
 obtain ⟨B, c, a1, a2, a3⟩ := h2 i n hi
 refine ⟨B, c, a1, a2, fun hn => ?_⟩
 obtain ⟨g, b1, b2, b3⟩ := a3 hn
 exact ⟨g, b1, b2, b3.alloc o⟩
theorem wr_row {W : World} {base g n cap : Nat} {ok : Nat → Prop} {xs : List OwC} (h : Kd.R k54 54 W base ok (.slice (some ⟨g, 0, none⟩) n cap) xs) : WrRow W g n := by
 obtain ⟨cs, hc⟩ := Kd.R_typed h g (by simp [Value.ownBlock])
 refine ⟨cs, hc, fun j hj => ?_⟩
 obtain ⟨c, _, hM, hcc, _⟩ := Kd.R_elem h z54 (j : Int) (by omega) (by omega)
 obtain rfl := k54_openM hM
 have := hcc 0 _ rfl
 rw [blk_cell hc] at this
 exact ⟨_, this⟩
theorem wr_rows {W : World} {S : Nat → Prop} {base G n cap : Nat} {ok : Nat → Prop} {xs : List (List OwC)} (h : Kd.R (Kd.slice 54 k54) 23 W base ok (.slice (some ⟨G, 0, none⟩) n cap) xs) (h0 : ¬ S G)
 (hS : ∀ k, ok k → (∃ cells, W.heap[k]? = some (.cells cells 54 (0, 0))) → S k) : WrRows W S G (xs.map List.length) := by
 obtain ⟨cs, hc⟩ := Kd.R_typed h G (by simp [Value.ownBlock])
 have hn := (Kd.R_reads' h).1
 refine ⟨h0, cs, hc, fun i m hi => ?_⟩
 rw [List.getElem?_map] at hi
 obtain ⟨x, hx, rfl⟩ := Option.map_eq_some_iff.1 hi
 have hil := (List.getElem?_eq_some_iff.1 hx).1
 obtain ⟨c, _, ⟨v, rfl, hR⟩, hcc, _⟩ := Kd.R_elem h [] (i : Int) (by omega) (by omega)
 have hxi : xs.getD ((i : Int)).toNat [] = x := by rw [Int.toNat_natCast, List.getD_eq_getElem?_getD, hx]; rfl
 rw [hxi] at hR
 have hv := hcc 0 v rfl
 obtain ⟨B, c, rfl⟩ := Kd.R_slice hR
 rw [blk_cell hc] at hv
 have hv' : cs[i]? = some (.slice B x.length c) := by simpa [Kd.slice] using hv
 refine ⟨B, c, hv', ⟨(Kd.R_reads' hR).2.1, (Kd.R_reads' hR).2.2.2.1⟩, fun hp => ?_⟩
 obtain ⟨g, cap', he, _, _, hcells⟩ := Kd.R_form hR hp
 injection he with he _ _
 subst he
 exact ⟨g, rfl, hS g (hR.1 g (by simp [Value.ownBlock])).1 hcells, wr_row hR⟩
def OwnA (W : World) (S : Nat → Prop) (A : Option Addr) (lens : List Nat) : Prop := lens.length = 0 ∨ ∃ G, A = some ⟨G, 0, none⟩ ∧ WrRows W S G lens
def OwnM (W : World) (lo : Nat) (A : Option Addr) (n : Nat) : Prop := n = 0 ∨ ∃ g, A = some ⟨g, 0, none⟩ ∧ lo ≤ g ∧ WrRow W g n
theorem OwnA.set {W : World} {S : Nat → Prop} {A : Option Addr} {lens : List Nat} (h : OwnA W S A lens) {g' : Nat} (hg : S g') (o : Nat) (x : ByteArray) : OwnA (W.setCell ⟨g', o, none⟩ (.string x)) S A lens := by
 rcases h with h | ⟨G, h1, h2⟩
 ·
  exact .inl h
 ·
  exact .inr ⟨G, h1, h2.set hg o x⟩
theorem OwnM.set {W : World} {lo n : Nat} {A : Option Addr} (h : OwnM W lo A n) (g' o : Nat) (x : ByteArray) : OwnM (W.setCell ⟨g', o, none⟩ (.string x)) lo A n := by
 rcases h with h | ⟨g, h1, h2, h3⟩
 ·
  exact .inl h
 ·
  exact .inr ⟨g, h1, h2, h3.set g' o x⟩
end Go.Proofs.Ytdlkhpfgkghhmaa.P

-- ==== PM
/- A map from strings to ints that the call makes, read as a list of its stores, the latest first: what the walk asks of it. -/
namespace Go.Proofs.Ytdlkhpfgkghhmaa.P
open Go.RowKit Go.WideMaps Go.Maps Go.Proofs.YtdlkhpfgkghhmaaW.PrintWords

def mapHas (m : List S54) (s : ByteArray) : Bool := m.any (fun x => x.f0.data.toList == s.data.toList)
def mapAt (m : List S54) (s : ByteArray) : Int := match m.find? (fun x => x.f0.data.toList == s.data.toList) with
 | some x => x.f1
 | none => 0
def mapPut (m : List S54) (s : ByteArray) (a : Int) : List S54 := ⟨s, a⟩ :: m

def Mapped (base : Nat) (W w1 : World) : Prop := ∃ b es clock, base ≤ b ∧ W.heap[b]? = some (.map es clock) ∧ W.grownBy w1 (some b)

theorem below_mapped {w W w1 : World} {base : Nat} (h : Below base w W) (hm : Mapped base W w1) : Below base w w1 := by
 obtain ⟨b, es, clock, hb, hh, hg⟩ := hm
 refine ⟨hg.os.trans h.os, hg.tape.trans h.tape, hg.output.trans h.output, Nat.le_trans h.size hg.size, fun i hi => ?_⟩
 have := blk_lt hh
 exact (hg.block i (by omega) (by intro e; injection e with e; omega)).trans (h.block i hi)
theorem blk_mapped {W w1 : World} {base g : Nat} {o : Obj} (h : W.heap[g]? = some o) (hm : Mapped base W w1) (hne : ∀ es clock, o ≠ .map es clock := by intro _ _ h_; cases h_) : w1.heap[g]? = some o := by
 obtain ⟨b, es, clock, hb, hh, hg⟩ := hm
 refine (hg.block g (blk_lt h) (fun e => ?_)).trans h
 injection e with e
 subst e
 rw [h] at hh
 injection hh with hh
 exact hne _ _ hh

namespace Kd
section
variable {α : Type} {d : Kd α} {e base base' : Nat} {ok : Nat → Prop} {W w1 : World} {v : Value} {xs : List α}
theorem R_mapped (h : d.R e W base ok v xs) (hm : Mapped base' W w1) : d.R e w1 base ok v xs := by
 obtain ⟨b, es, clock, hb, hh, hg⟩ := hm
 refine Kd.R_mono (Kd.R_move (Kd.R_bound h) (fun k hk => hg.block k hk.2.2.1 (fun he => ?_))) (fun _ hk => hk.1)
 obtain ⟨_, _, _, q, hq, cells, hc⟩ := hk
 injection he with he
 subst he
 rw [hc] at hh
 cases hh
theorem S_mapped (h : Kd.S d e W base ok v xs) (hm : Mapped base' W w1) : Kd.S d e w1 base ok v xs := by
 obtain ⟨f, h⟩ := h
 exact ⟨f, R_mapped h hm⟩
end

def P (d : Kd S54) (e : Nat) (w : World) (base : Nat) (ok : Nat → Prop) (v : Value) (m : List S54) : Prop :=
 ∃ b, ∃ D : DataW Unit, v = .map (some b) ∧ ok b ∧ base ≤ b ∧ w.ownsMap Try.prog 9 (plainElem Try.prog 3) b m.length D ∧ IsMap D ∧
  ∀ s : ByteArray, Maps.has D (.string s.data.toList) = mapHas m s ∧ D.atKey (.string s.data.toList) (.lit (.int .i64 0)) = .lit (.int .i64 (mapAt m s))
section
variable {d : Kd S54} {e e' base base' : Nat} {ok ok' : Nat → Prop} {w w1 W : World} {v u : Value} {m : List S54}
theorem P_step (h : Kd.P d e w base ok v m) (hm : ∀ b es clock, ok b → w.heap[b]? = some (.map es clock) → w1.heap[b]? = w.heap[b]?) : Kd.P d e w1 base ok v m := by
 obtain ⟨b, D, rfl, ho, hb, ⟨es, clock, hh, hf⟩, hD, hs⟩ := h
 exact ⟨b, D, rfl, ho, hb, ⟨es, clock, (hm b es clock ho hh).trans hh, hf⟩, hD, hs⟩
theorem P_mono (h : Kd.P d e w base ok v m) (hk : ∀ k, ok k → ok' k) : Kd.P d e w base ok' v m := by
 obtain ⟨b, D, rfl, ho, r⟩ := h
 exact ⟨b, D, rfl, hk _ ho, r⟩
theorem P_lower (h : Kd.P d e w base ok v m) (hb : base' ≤ base) : Kd.P d e w base' ok v m := by
 obtain ⟨b, D, rfl, ho, h1, r⟩ := h
 exact ⟨b, D, rfl, ho, Nat.le_trans hb h1, r⟩
theorem P_below (h : Kd.P d e w base ok v m) (hb : Below w.heap.size w w1) : Kd.P d e w1 base ok v m := P_step h (fun b es clock _ hh => hb.block b (blk_lt hh))
theorem P_drew (h : Kd.P d e w base ok v m) : Kd.P d e w.drew base ok v m := P_below h (below_drew (Below.refl _ _))
theorem P_drewN (h : Kd.P d e w base ok v m) (n : Nat) : Kd.P d e (w.drewN n) base ok v m := P_below h (pw_below_drewN (Below.refl _ _) n)
theorem P_far (h : Kd.P d e w base ok v m) {p : Addr} (hok : ∀ k, ok k → k ≠ p.block) (x : Value) : Kd.P d e (w.setCell p x) base ok v m := P_step h (fun b _ _ ho _ => Below.heap_setCell w p x b (hok b ho))
theorem P_types (h : Kd.P d e w base ok v m) {g t : Nat} {cells : Array Value} (hb : w.heap[g]? = some (.cells cells t (0, 0))) (_ht : ∀ q, q ∈ e :: d.E → q ≠ t) : Kd.P d e w base (fun k => ok k ∧ k ≠ g) v m := by
 obtain ⟨b, D, rfl, ho, h1, ⟨es, clock, hh, hf⟩, r⟩ := h
 refine ⟨b, D, rfl, ⟨ho, fun he => ?_⟩, h1, ⟨es, clock, hh, hf⟩, r⟩
 subst he
 rw [hb] at hh
 cases hh
theorem P_over' (h : Kd.P d e W base ok u m) (hty : ∀ k, v.ownBlock = some k → ∃ cells, W.heap[k]? = some (.cells cells e' (0, 0))) (_ht : ∀ q, q ∈ e :: d.E → q ≠ e') (hg : W.grownBy w1 v.ownBlock) : Kd.P d e w1 base ok u m :=
 P_step h (fun b es clock _ hh => hg.block b (blk_lt hh) (fun he => by
  obtain ⟨cells, hc⟩ := hty b he.symm
  rw [hc] at hh
  cases hh))
end

section
variable {ops : Array Oper} {rest : List Oper} {o : Oper} {a : Act} {Q : Exit → Act → World → Prop} {W : World}
theorem P_make (d : Kd S54) {N : Tmp} (hg : o.guard = none) (hop : o.op = Op.makeMap 150 none) (_hN : o.dst = some N)
 (h : ∀ v w1, Kd.P d 150 w1 W.heap.size (fun _ => True) v [] → Below W.heap.size W w1 → wpList Try.prog ops Q rest (a.put o.dst v) w1) : wpList Try.prog ops Q (o :: rest) a W := by
 refine wpList_plain hg fun K hK => ?_
 unfold Oper.wp
 simp only [execOp, hop, Sem.run_bind, Sem.run_pure, Result.andThen]
 refine hK _ _ (h _ _ ⟨W.heap.size, .map [], rfl, trivial, Nat.le_refl _, World.ownsMap_made _ _ _ _, isMap_empty, fun s => ⟨rfl, rfl⟩⟩ (below_alloc (Below.refl _ _) _))
theorem P_look {d : Kd S54} {e base : Nat} {ok : Nat → Prop} {v : Value} {m : List S54} {s : ByteArray} {x y : Operand} (hg : o.guard = none) (hop : o.op = Op.lookup 150 x y true) (hm : a.eval x = v) (hx : a.eval y = .string s)
 (hs : s.size ≤ 9223372036854775807) (h : Kd.P d e W base ok v m) (hK : wpList Try.prog ops Q rest (a.put o.dst (.tuple #[.int .i64 (mapAt m s), .bool (mapHas m s)])) W) : wpList Try.prog ops Q (o :: rest) a W := by
 obtain ⟨b, D, rfl, _, _, hown, hD, hsp⟩ := h
 have hml : maxLen = 9223372036854775807 := by decide
 have zr : (zeroValue 3).run Try.prog W = .ok (.int .i64 0) W := by kernel_rfl
 refine wpList_lookup_own_ok_int (H := Unit) W hg x y 150 hop 9 3 .i64 (string_keyed Try.underlying9) Try.underlying150 Try.underlying3 zr b _ D hm hown (.string s) _ hx (keyOf_string_mk Try.underlying9 (by rw [hml]; exact hs)) ?_
 intro c hc _
 rw [(hsp s).2] at hc
 rw [(hsp s).1]
 have hc' : mapAt m s = c := (Lit.int.inj (DataW.lit.inj hc)).2
 rw [← hc']
 exact hK
theorem P_put {d : Kd S54} {e base : Nat} {ok : Nat → Prop} {v : Value} {m : List S54} {s : ByteArray} {n : Int} {x y z : Operand} (hg : o.guard = none) (hop : o.op = Op.mapUpdate 150 x y z) (hm : a.eval x = v) (hx : a.eval y = .string s) (hz : a.eval z = .int .i64 n)
 (hl : m.length < 9223372036854775807 ∧ s.size ≤ 9223372036854775807 ∧ 0 ≤ n ∧ n ≤ 9223372036854775807) (h : Kd.P d e W base ok v m)
 (hK : ∀ w1, Kd.P d e w1 base ok v (mapPut m s n) → Mapped base W w1 → wpList Try.prog ops Q rest (a.put o.dst undef) w1) : wpList Try.prog ops Q (o :: rest) a W := by
 obtain ⟨b, D, rfl, ho, hb, hown, hD, hsp⟩ := h
 have hml : maxLen = 9223372036854775807 := by decide
 refine wpList_mapUpdate_own (H := Unit) W hg x y z 150 hop 9 3 (string_keyed Try.underlying9) Try.underlying150 _ b _ D hm hown (by rw [hml]; exact hl.1) (.string s) (.int .i64 n) (.string s.data.toList) hx hz (keyOf_string_mk Try.underlying9 (by rw [hml]; exact hl.2.1)) _ [] (plainElem_int Try.underlying3 (WalkArith.wf_i64 (by omega))) ?_
 intro w1 h1 hgw
 obtain ⟨es, clock, hh, _⟩ := hown
 refine hK w1 ⟨b, _, rfl, ho, hb, h1, hD.put _ _, fun t => ?_⟩ ⟨b, es, clock, hb, hh, hgw⟩
 by_cases ht : s.data.toList = t.data.toList
 ·
  rw [← ht]
  refine ⟨?_, ?_⟩
  ·
   rw [has_put_same (k := .string s.data.toList) hD trivial]
   simp only [mapHas, mapPut, List.any_cons, ht, beq_self_eq_true, Bool.true_or]
  ·
   rw [atKey_put_same (k := .string s.data.toList) hD trivial]
   simp only [mapAt, mapPut, List.find?_cons, ht, beq_self_eq_true]
 ·
  have hne : (Lit.string t.data.toList) ≠ .string s.data.toList := fun he => ht (by injection he with he; exact he.symm)
  have hb' : (s.data.toList == t.data.toList) = false := by simpa using ht
  refine ⟨?_, ?_⟩
  ·
   rw [has_put_other hne, (hsp t).1]
   simp only [mapHas, mapPut, List.any_cons, hb', Bool.false_or]
  ·
   rw [atKey_put_other hne, (hsp t).2]
   simp only [mapAt, mapPut, List.find?_cons, hb']
end
end Kd
end Go.Proofs.Ytdlkhpfgkghhmaa.P

-- ==== Open
/- What came in and can be read as data, read as the print's kinds: for each kind one fact, put together by the types' shapes. -/
namespace Go.Proofs.Ytdlkhpfgkghhmaa.Open
open Go.RowKit Go.Proofs.YtdlkhpfgkghhmaaW.PrintWords Go.Proofs.Ytdlkhpfgkghhmaa.Rows

structure Opens {α : Type} (P : Program) (t : TypeId) (d : Kd α) (Sz : α → Prop) (Bk : α → Nat) : Prop where
 cells : P.cellsOf t = d.sz
 go : ∀ {H : Type} {enc : TypeId × Value → H} {w : World} {base : Nat} {spare : Nat → Bool} {held : Bool} {n : Nat} {cs : List Value} {x : DataW H × List MemPlace},
  DataW.trod enc P w base spare held n t cs = some x → (∀ m ∈ x.1.weights P t, m ≤ reachBytes) → ∃ v : α, d.K w v cs ∧ Sz v ∧ Bk v ≤ uptoBulk x.1

theorem opens_int {P : Program} {t : TypeId} {k : IntKind} (ht : P.underlying t = some (.int k)) (hc : P.cellsOf t = 1) : Opens P t (Kd.int k) (fun a => (Lit.int k a).wf = true) (fun _ => 1) := by
 refine ⟨hc, fun h _ => ?_⟩
 obtain ⟨a, rfl, rfl, hw⟩ := DataW.trod_int ht h
 exact ⟨a, rfl, hw, by simp [uptoBulk]⟩

theorem opens_string {P : Program} {t : TypeId} (ht : P.underlying t = some .string) (hc : P.cellsOf t = 1) : Opens P t Kd.string (fun s => s.size ≤ 140737488351232) (fun s => s.size + 1) := by
 refine ⟨hc, fun h hw => ?_⟩
 obtain ⟨a, rfl, rfl, hs⟩ := DataW.trod_string ht h
 have hl : a.data.toList.length = a.size := data_length a
 refine ⟨a, rfl, ?_, ?_⟩
 ·
  have := hw a.data.toList.length (by simp [DataW.weights])
  rw [hl] at this
  exact this
 ·
  simp only [uptoBulk]
  omega

theorem mem_weightsAll {H : Type} {P : Program} {e : TypeId} {d : DataW H} : ∀ {l : List (DataW H)}, d ∈ l → ∀ {m : Nat}, m ∈ d.weights P e → m ∈ DataW.weightsAll P e l
 | a :: l, h, m, hm => by
  simp only [DataW.weightsAll, List.mem_append]
  rcases List.mem_cons.1 h with rfl | h
  ·
   exact .inl hm
  ·
   exact .inr (mem_weightsAll h hm)
 | [], h, _, _ => by cases h

def bulkAll {α : Type} (Bk : α → Nat) (l : List α) : Nat := (l.map Bk).sum

theorem bulk_all_le {H α : Type} (Bk : α → Nat) : ∀ (xs : List α) (ds : List (DataW H)), xs.length = ds.length → (∀ (i : Nat) x d, xs[i]? = some x → ds[i]? = some d → Bk x ≤ uptoBulk d) → bulkAll Bk xs ≤ uptoBulkAll ds
 | [], [], _, _ => by simp [bulkAll, uptoBulkAll]
 | x :: xs, d :: ds, hl, h => by
  have h0 := h 0 x d rfl rfl
  have h1 := bulk_all_le Bk xs ds (by simpa using hl) (fun i x' d' hx hd => h (i + 1) x' d' (by simpa using hx) (by simpa using hd))
  simp only [bulkAll, uptoBulkAll, List.map_cons, List.sum_cons] at h1 ⊢
  omega
 | [], _ :: _, hl, _ => by simp at hl
 | _ :: _, [], hl, _ => by simp at hl

theorem opens_slice {α : Type} {P : Program} {t e : TypeId} {d : Kd α} {Sz : α → Prop} {Bk : α → Nat} {b : Nat} (ht : P.underlying t = some (.slice e)) (hc : P.cellsOf t = 1) (hb : P.bytesOf e = b) (ho : Opens P e d Sz Bk) :
 Opens P t (Kd.slice e d) (fun l => l.length * b ≤ 140737488351232 ∧ ∀ x ∈ l, Sz x) (fun l => bulkAll Bk l + 1) := by
 refine ⟨hc, ?_⟩
 intro H enc w base spare held n cs x h hw
 rcases Go.Deep.open_slice ht h with ⟨rfl, rfl⟩ | ⟨a, len, cap, m, n', D, Pl, rfl, _, hl, hm, hmm, rfl, hx⟩
 ·
  exact ⟨[], ⟨none, 0, rfl, Nat.le_refl _, Kd.C_nil d w⟩, ⟨by simp, by simp⟩, by simp [bulkAll, uptoBulk]⟩
 ·
  have hlm : len ≤ m := by rw [hmm]; split <;> omega
  have hel : ∀ i, i < len → ∃ v : α, (∃ cs', w.cells? base (a.add (i * P.cellsOf e)) (P.cellsOf e) = some cs' ∧ d.K w v cs') ∧ Sz v ∧ Bk v ≤ uptoBulk (D i) := by
   intro i hi
   obtain ⟨cs', h1, h2⟩ := hx i (by omega)
   obtain ⟨v, hv, hs, hbk⟩ := ho.go h2 (fun m' hm' => hw m' (by
    simp only [DataW.weights, ht, List.mem_cons, List.mem_append]
    exact .inr (.inl (mem_weightsAll (List.mem_map.2 ⟨i, List.mem_range.2 hi, rfl⟩) hm'))))
   exact ⟨v, ⟨cs', h1, hv⟩, hs, hbk⟩
  have hex : ∃ l : List α, l.length = len ∧ ∀ (i : Nat) v, l[i]? = some v → (∃ cs', w.cells? base (a.add (i * P.cellsOf e)) (P.cellsOf e) = some cs' ∧ d.K w v cs') ∧ Sz v ∧ Bk v ≤ uptoBulk (D i) := by
   clear hx hw h hmm hlm hl hm
   induction len with
   | zero => exact ⟨[], rfl, fun i v hv => by simp at hv⟩
   | succ k ih =>
    obtain ⟨l, h1, h2⟩ := ih (fun i hi => hel i (by omega))
    obtain ⟨v, hv⟩ := hel k (by omega)
    refine ⟨l ++ [v], by simp [h1], fun i u hu => ?_⟩
    by_cases hi : i < l.length
    ·
     rw [List.getElem?_append_left hi] at hu
     exact h2 i u hu
    ·
     have hik : i = l.length := by
      have := (List.getElem?_eq_some_iff.1 hu).1
      simp at this
      omega
     subst hik
     simp at hu
     subst hu
     rw [h1]
     exact hv
  obtain ⟨l, hll, hlv⟩ := hex
  subst hll
  refine ⟨l, ⟨some a, cap, rfl, hl, rfl, ?_, fun hp => ⟨a, rfl, fun j v hj => ?_⟩⟩, ⟨?_, ?_⟩, ?_⟩
  ·
   have : maxLen ≤ 9223372036854775807 := by decide
   omega
  ·
   obtain ⟨⟨cs', h1, h2⟩, _, _⟩ := hlv j v hj
   refine ⟨cs', d.K_len h2, h2, fun i u hu => ?_⟩
   obtain ⟨_, hlen, hcell⟩ := World.cells?_some h1
   have hi : i < cs'.length := (List.getElem?_eq_some_iff.1 hu).1
   have hsz := d.K_len h2
   rw [ho.cells] at hcell hlen
   have := hcell i (by omega)
   rw [hu] at this
   rw [← this, add_add]
  ·
   have := hw ((((List.range l.length).map D).length + ((List.range (m - l.length)).map fun j => D (l.length + j)).length) * P.bytesOf e) (by simp [DataW.weights, ht])
   simp only [List.length_map, List.length_range] at this
   rw [hb] at this
   have h3 : reachBytes = 140737488351232 := by decide
   rw [h3] at this
   have h4 : l.length * b ≤ (l.length + (m - l.length)) * b := Nat.mul_le_mul_right _ (by omega)
   omega
  ·
   intro v hv
   obtain ⟨i, hi, rfl⟩ := List.mem_iff_getElem.1 hv
   exact (hlv i _ (List.getElem?_eq_getElem hi)).2.1
  ·
   have := bulk_all_le Bk l ((List.range l.length).map D) (by simp) (fun i v dd hv hd => by
    have hi : i < l.length := (List.getElem?_eq_some_iff.1 hv).1
    simp [hi] at hd
    rw [← hd]
    exact (hlv i v hv).2.2)
   simp only [uptoBulk]
   omega

def offs (P : Program) : List TypeId → Nat → Nat
 | [], _ => 0
 | _, 0 => 0
 | t :: ts, i + 1 => P.cellsOf t + offs P ts i

structure OpensF {α : Type} (P : Program) (ts : List TypeId) (d : Kd α) (Sz : α → Prop) (Bk : α → Nat) : Prop where
 cells : (ts.map P.cellsOf).sum = d.sz
 go : ∀ {H : Type} {enc : TypeId × Value → H} {w : World} {base : Nat} {spare : Nat → Bool} {held : Bool} {n : Nat} {cs : List Value} {xs : List (DataW H × List MemPlace)},
  cs.length = d.sz → xs.length = ts.length → (∀ (i : Nat) t, ts[i]? = some t → DataW.trod enc P w base spare held n t ((cs.drop (offs P ts i)).take (P.cellsOf t)) = xs[i]?) →
  (∀ m ∈ DataW.weightsEach P ts (xs.map (·.1)), m ≤ reachBytes) → ∃ v : α, d.K w v cs ∧ Sz v ∧ Bk v ≤ uptoBulkAll (xs.map (·.1))

theorem opensF_one {α : Type} {P : Program} {t : TypeId} {d : Kd α} {Sz : α → Prop} {Bk : α → Nat} (ho : Opens P t d Sz Bk) : OpensF P [t] d Sz Bk := by
 refine ⟨by simp [ho.cells], fun {H enc w base spare held n cs xs} hl hx h hw => ?_⟩
 match xs, hx with
 | [y], _ =>
  have h0 := h 0 t rfl
  rw [show offs P [t] 0 = 0 from rfl, List.drop_zero, List.take_of_length_le (by rw [ho.cells]; omega)] at h0
  obtain ⟨v, h1, h2, h3⟩ := ho.go h0 (fun m hm => hw m (by simp [DataW.weightsEach, hm]))
  exact ⟨v, h1, h2, by simpa [uptoBulkAll] using h3⟩

theorem opensF_cons {α β : Type} {P : Program} {t : TypeId} {ts : List TypeId} {d : Kd α} {ds : Kd β} {Sz : α → Prop} {Bk : α → Nat} {Szs : β → Prop} {Bks : β → Nat} (ho : Opens P t d Sz Bk) (hs : OpensF P ts ds Szs Bks) :
 OpensF P (t :: ts) (Kd.pair d ds) (fun x => Sz x.1 ∧ Szs x.2) (fun x => Bk x.1 + Bks x.2) := by
 refine ⟨by simp [ho.cells, hs.cells, Kd.pair], fun {H enc w base spare held n cs xs} hl hx h hw => ?_⟩
 match xs, hx with
 | y :: ys, hx =>
  have hl' : cs.length = d.sz + ds.sz := hl
  have h0 := h 0 t rfl
  rw [show offs P (t :: ts) 0 = 0 from rfl, List.drop_zero, ho.cells] at h0
  obtain ⟨v, h1, h2, h3⟩ := ho.go h0 (fun m hm => hw m (by simp [DataW.weightsEach, hm]))
  obtain ⟨u, g1, g2, g3⟩ := hs.go (cs := cs.drop d.sz) (xs := ys) (enc := enc) (w := w) (base := base) (spare := spare) (held := held) (n := n) (by rw [List.length_drop]; omega) (by simpa using hx) (fun i t' ht' => by
   have := h (i + 1) t' (by simpa using ht')
   rw [show offs P (t :: ts) (i + 1) = P.cellsOf t + offs P ts i from rfl, ho.cells] at this
   rw [List.drop_drop]
   simpa using this) (fun m hm => hw m (by simp only [List.map_cons, DataW.weightsEach, List.mem_append]; exact .inr hm))
  refine ⟨(v, u), ⟨cs.take d.sz, cs.drop d.sz, (List.take_append_drop _ _).symm, h1, g1⟩, ⟨h2, g2⟩, ?_⟩
  simp only [List.map_cons, uptoBulkAll]
  omega

theorem opens_struct {α β : Type} {P : Program} {t : TypeId} {fs : Array Field} {ts : List TypeId} {d : Kd α} {f : β → α} {Sz : α → Prop} {Bk : α → Nat} (ht : P.underlying t = some (.struct fs)) (hts : fs.toList.map (·.type) = ts)
 (hoff : ∀ (i : Nat) fl, fs[i]? = some fl → fl.offset = offs P ts i) (hc : P.cellsOf t = d.sz) (ho : OpensF P ts d Sz Bk) (g : α → β) (hg : ∀ v, f (g v) = v) :
 Opens P t (Kd.iso d f) (fun x => Sz (f x)) (fun x => Bk (f x) + 1) := by
 refine ⟨hc, fun {H enc w base spare held n cs x} h hw => ?_⟩
 obtain ⟨xs, n', _, rfl, hl, hlen, hf⟩ := DataW.trod_struct ht h
 have hlt : ts.length = fs.size := by rw [← hts]; simp
 obtain ⟨v, h1, h2, h3⟩ := ho.go (cs := cs) (xs := xs) (enc := enc) (w := w) (base := base) (spare := spare) (held := held) (n := n') (by rw [hl, hc]) (by omega) (fun i t' ht' => by
  have hi : i < fs.size := by rw [← hlt]; exact (List.getElem?_eq_some_iff.1 ht').1
  have hfi : fs[i]? = some fs[i] := Array.getElem?_eq_getElem hi
  have := hf i fs[i] hfi
  rw [hoff i _ hfi] at this
  have he : fs[i].type = t' := by
   rw [← hts, List.getElem?_map, Array.getElem?_toList, hfi] at ht'
   simpa using ht'
  rw [he] at this
  exact this) (fun m hm => hw m (by simp only [DataW.weights, ht, hts]; exact hm))
 exact ⟨g v, by show d.K w (f (g v)) cs; rw [hg]; exact h1, by rw [hg]; exact h2, by rw [hg]; simp only [uptoBulk]; omega⟩

end Go.Proofs.Ytdlkhpfgkghhmaa.Open

-- ==== PLa
/- Plain laws, part a: what kind a text is: the program's way and the document's way come to one function. -/
namespace Go.Proofs.Ytdlkhpfgkghhmaa.P
open Go.RowKit Go.Proofs.YtdlkhpfgkghhmaaW.PrintWords

theorem wrap_up {i : Int} (h0 : 0 ≤ i) (h : i < 9223372036854775807) : wrap64 (i + 1) = i + 1 := by
 unfold wrap64
 omega
theorem wrap_id {i : Int} (h0 : -9223372036854775808 ≤ i) (h : i ≤ 9223372036854775807) : wrap64 i = i := by
 unfold wrap64
 omega

theorem evIfp {α : Type} {c : Prop} [Decidable c] {f g : Nat → Option α} {r : α} (h : c) (hf : Ev f r) : Ev (fun k => if c then f k else g k) r :=
 Ev.congr (fun _ => if_pos h) hf
theorem evIfn {α : Type} {c : Prop} [Decidable c] {f g : Nat → Option α} {r : α} (h : ¬ c) (hf : Ev g r) : Ev (fun k => if c then f k else g k) r :=
 Ev.congr (fun _ => if_neg h) hf
theorem evIs {α : Type} {x : Option α} {a : α} (h : x = some a) : Ev (fun _ => x) a := ⟨0, fun _ _ => h⟩

def lowB (s : ByteArray) (i : Int) : Bool := (decide (97 ≤ bt s i) && decide (bt s i ≤ 122)) || (decide (48 ≤ bt s i) && decide (bt s i ≤ 57) && decide (0 < i))
def upB (s : ByteArray) (i : Int) : Bool := (decide (65 ≤ bt s i) && decide (bt s i ≤ 90)) || (decide (48 ≤ bt s i) && decide (bt s i ≤ 57) && decide (0 < i))
def allN (p : Int → Bool) : Nat → Int → Bool
 | 0, _ => true
 | d + 1, i => p i && allN p d (i + 1)
theorem allN_congr {p q : Int → Bool} : ∀ (d : Nat) (i : Int), (∀ j, i ≤ j → j < i + d → p j = q j) → allN p d i = allN q d i
 | 0, _, _ => rfl
 | d + 1, i, h => by
  simp only [allN]
  rw [h i (Int.le_refl _) (by omega), allN_congr d (i + 1) (fun j h1 h2 => h j (by omega) (by omega))]
def kindS (s : ByteArray) : Int :=
 if s.size < 1 ∨ 8 < s.size then 0 else if allN (lowB s) s.size 0 = true then 1 else if allN (upB s) s.size 0 = true then 2 else 0

theorem kindS_bad {s : ByteArray} (h : s.size < 1 ∨ 8 < s.size) : kindS s = 0 := by
 unfold kindS
 exact if_pos h
theorem kindS_good {s : ByteArray} (h1 : 1 ≤ s.size) (h8 : s.size ≤ 8) : kindS s = (if allN (lowB s) s.size 0 = true then 1 else if allN (upB s) s.size 0 = true then 2 else 0) := by
 unfold kindS
 exact if_neg (by omega)
theorem kindS_cases (s : ByteArray) : kindS s = 0 ∨ kindS s = 1 ∨ kindS s = 2 := by
 unfold kindS
 split
 ·
  exact .inl rfl
 ·
  split
  ·
   exact .inr (.inl rfl)
  ·
   split
   ·
    exact .inr (.inr rfl)
   ·
    exact .inl rfl
theorem kindS_size {s : ByteArray} (h : kindS s ≠ 0) : 1 ≤ s.size ∧ s.size ≤ 8 := by
 unfold kindS at h
 split at h
 ·
  exact absurd rfl h
 ·
  omega

theorem refKind_step (k : Nat) (s : ByteArray) (a b : Bool) (i : Int) (h0 : 0 ≤ i) (h1 : i < (s.size : Int)) :
 aumbryref03_Kind.l0 (k + 1) s a b i = aumbryref03_Kind.l0 k s (a && lowB s i) (b && upB s i) (wrap64 (i + 1)) := by
 simp only [aumbryref03_Kind.l0]
 rw [if_pos h1, if_pos h0]
 unfold lowB upB
 generalize bt s i = c
 by_cases c1 : c ≥ 48 <;> by_cases c2 : c ≤ 57 <;> by_cases c3 : c ≥ 97 <;> by_cases c4 : c ≤ 122 <;> by_cases c5 : c ≥ 65 <;> by_cases c6 : c ≤ 90 <;> first | (exfalso; omega) | (cases a <;> cases b <;> simp [c1, c2, c3, c4, c5, c6])
theorem refKind_end (k : Nat) (s : ByteArray) (a b : Bool) (i : Int) (h1 : ¬ i < (s.size : Int)) :
 aumbryref03_Kind.l0 (k + 1) s a b i = some (if a = true then 1 else if b = true then 2 else 0) := by
 simp only [aumbryref03_Kind.l0]
 rw [if_neg h1]
 cases a <;> cases b <;> rfl
theorem refKind_loop (s : ByteArray) (hs : s.size ≤ 8) : ∀ (d : Nat) (k : Nat) (a b : Bool) (i : Int), 0 ≤ i → (s.size : Int) - i = d → d < k →
 aumbryref03_Kind.l0 k s a b i = some (if (a && allN (lowB s) d i) = true then 1 else if (b && allN (upB s) d i) = true then 2 else 0)
 | 0, k, a, b, i, h0, hd, hk => by
  obtain ⟨k, rfl⟩ : ∃ m, k = m + 1 := ⟨k - 1, by omega⟩
  rw [refKind_end k s a b i (by omega)]
  simp [allN]
 | d + 1, k, a, b, i, h0, hd, hk => by
  obtain ⟨k, rfl⟩ : ∃ m, k = m + 1 := ⟨k - 1, by omega⟩
  rw [refKind_step k s a b i h0 (by omega), wrap_up h0 (by omega), refKind_loop s hs d k _ _ (i + 1) (by omega) (by omega) (by omega)]
  simp [allN, Bool.and_assoc]
theorem ev_refKind (s : ByteArray) : Ev (fun k => aumbryref03_Kind.f k s) (kindS s) := by
 refine ⟨12, fun k hk => ?_⟩
 show aumbryref03_Kind.f k s = _
 unfold aumbryref03_Kind.f
 obtain ⟨k, rfl⟩ : ∃ m, k = m + 1 := ⟨k - 1, by omega⟩
 by_cases h1 : (s.size : Int) < 1
 ·
  rw [if_pos h1]
  simp [aumbryref03_Kind.j0, kindS_bad (s := s) (.inl (by omega))]
 ·
  rw [if_neg h1]
  simp only [aumbryref03_Kind.j0]
  by_cases h2 : (s.size : Int) > 8
  ·
   rw [if_pos (by simpa using h2), kindS_bad (s := s) (.inr (by omega))]
  ·
   rw [kindS_good (s := s) (by omega) (by omega), if_neg (by simpa using h2), refKind_loop s (by omega) s.size k true true 0 (by omega) (by omega) (by omega)]
   simp

def signS (c : Int) : Int × Int := if 97 ≤ c ∧ c ≤ 122 then (1, 1) else if 65 ≤ c ∧ c ≤ 90 then (2, 2) else if 48 ≤ c ∧ c ≤ 57 then (0, 3) else (0, 0)
theorem sign_at (c : Int) (k : Nat) (hk : 2 ≤ k) : name_sign.f k c = some (signS c) := by
 obtain ⟨k, rfl⟩ : ∃ m, k = m + 2 := ⟨k - 2, by omega⟩
 unfold name_sign.f signS
 by_cases c1 : c ≥ 48 <;> by_cases c2 : c ≤ 57 <;> by_cases c3 : c ≥ 97 <;> by_cases c4 : c ≤ 122 <;> by_cases c5 : c ≥ 65 <;> by_cases c6 : c ≤ 90 <;> first | (exfalso; omega) | (simp [name_sign.j0, name_sign.j1, c1, c2, c3, c4, c5, c6])
theorem bits_and_ (a b : Int) (ha : a = 0 ∨ a = 1 ∨ a = 2 ∨ a = 3) (hb : b = 0 ∨ b = 1 ∨ b = 2) : (Go.bits .and .i64 a b = 0) ↔ (b = 0 ∨ (b = 1 ∧ (a = 0 ∨ a = 2)) ∨ (b = 2 ∧ (a = 0 ∨ a = 1))) := by
 rcases ha with rfl | rfl | rfl | rfl <;> rcases hb with rfl | rfl | rfl <;> decide
def goesB (s : ByteArray) (b : Int) (i : Int) : Bool := decide (¬ (Go.bits .and .i64 (signS (bt s i)).2 b = 0))
theorem kind_loop (s : ByteArray) (b : Int) (hs : s.size ≤ 8) : ∀ (d : Nat) (k : Nat) (i : Int), 0 ≤ i → (s.size : Int) - i = d → d + 2 < k →
 name_Kind.l0 k s b (s.size : Int) i = some (if allN (goesB s b) d i = true then b else 0)
 | 0, k, i, h0, hd, hk => by
  obtain ⟨k, rfl⟩ : ∃ m, k = m + 1 := ⟨k - 1, by omega⟩
  simp only [name_Kind.l0]
  rw [if_neg (by omega)]
  simp [allN]
 | d + 1, k, i, h0, hd, hk => by
  obtain ⟨k, rfl⟩ : ∃ m, k = m + 1 := ⟨k - 1, by omega⟩
  simp only [name_Kind.l0]
  rw [if_pos (by omega), if_pos h0, if_pos (by omega), sign_at _ _ (by omega)]
  simp only [Option.bind_some]
  by_cases hg : Go.bits .and .i64 (signS (bt s i)).2 b = 0
  ·
   rw [if_pos hg]
   simp [allN, goesB, hg]
  ·
   rw [if_neg hg, wrap_up h0 (by omega), kind_loop s b hs d k (i + 1) (by omega) (by omega) (by omega)]
   simp [allN, goesB, hg]
theorem signS_two (c : Int) : (signS c).2 = 0 ∨ (signS c).2 = 1 ∨ (signS c).2 = 2 ∨ (signS c).2 = 3 := by
 unfold signS
 repeat' split
 all_goals simp
theorem goes_one (s : ByteArray) (i : Int) (hi : 0 < i) : goesB s 1 i = lowB s i := by
 have h := bits_and_ (signS (bt s i)).2 1 (signS_two _) (by simp)
 unfold goesB lowB
 rw [Bool.eq_iff_iff]
 simp only [decide_eq_true_eq, h, Bool.or_eq_true, Bool.and_eq_true]
 unfold signS
 repeat' split
 all_goals simp
 all_goals omega
theorem goes_two (s : ByteArray) (i : Int) (hi : 0 < i) : goesB s 2 i = upB s i := by
 have h := bits_and_ (signS (bt s i)).2 2 (signS_two _) (by simp)
 unfold goesB upB
 rw [Bool.eq_iff_iff]
 simp only [decide_eq_true_eq, h, Bool.or_eq_true, Bool.and_eq_true]
 unfold signS
 repeat' split
 all_goals simp
 all_goals omega
theorem kind_eq (s : ByteArray) (h1 : 1 ≤ s.size) (h8 : s.size ≤ 8) : (if allN (goesB s (signS (bt s 0)).1) s.size 0 = true then (signS (bt s 0)).1 else 0) = kindS s := by
 rw [kindS_good h1 h8]
 obtain ⟨n, hn⟩ : ∃ n, s.size = n + 1 := ⟨s.size - 1, by omega⟩
 have e1 : allN (goesB s 1) n (0 + 1) = allN (lowB s) n (0 + 1) := allN_congr _ _ (fun j h1 _ => goes_one s j (by omega))
 have e2 : allN (goesB s 2) n (0 + 1) = allN (upB s) n (0 + 1) := allN_congr _ _ (fun j h1 _ => goes_two s j (by omega))
 by_cases hl : 97 ≤ bt s 0 ∧ bt s 0 ≤ 122
 ·
  have hs : signS (bt s 0) = (1, 1) := by unfold signS; rw [if_pos hl]
  have g0 : goesB s 1 0 = true := by unfold goesB; rw [hs]; decide
  have l0 : lowB s 0 = true := by unfold lowB; simp [hl]
  have u0 : upB s 0 = false := by unfold upB; simp; omega
  simp only [hn, hs, allN, e1, g0, l0, u0, Bool.true_and, Bool.false_and]
  split <;> simp
 ·
  by_cases hu : 65 ≤ bt s 0 ∧ bt s 0 ≤ 90
  ·
   have hs : signS (bt s 0) = (2, 2) := by unfold signS; rw [if_neg hl, if_pos hu]
   have g0 : goesB s 2 0 = true := by unfold goesB; rw [hs]; decide
   have l0 : lowB s 0 = false := by unfold lowB; simp; omega
   have u0 : upB s 0 = true := by unfold upB; simp [hu]
   simp only [hn, hs, allN, e2, g0, l0, u0, Bool.true_and, Bool.false_and]
   simp
  ·
   have hs : (signS (bt s 0)).1 = 0 := by unfold signS; rw [if_neg hl, if_neg hu]; split <;> rfl
   have l0 : lowB s 0 = false := by unfold lowB; simp; omega
   have u0 : upB s 0 = false := by unfold upB; simp; omega
   simp only [hn, hs, allN, l0, u0, Bool.true_and, Bool.false_and]
   simp
theorem toList_nil (s : ByteArray) : s.toList = ([] : List UInt8) ↔ s.size = 0 := by
 rw [ByteArray.toList_eq]
 constructor
 ·
  intro h
  have := congrArg List.length h
  simpa [data_length] using this
 ·
  intro h
  apply List.eq_nil_of_length_eq_zero
  rw [data_length]
  exact h
theorem ev_kind (s : ByteArray) : Ev (fun k => name_Kind.f k s) (kindS s) := by
 refine ⟨16, fun k hk => ?_⟩
 show name_Kind.f k s = _
 unfold name_Kind.f
 obtain ⟨k, rfl⟩ : ∃ m, k = m + 1 := ⟨k - 1, by omega⟩
 by_cases h1 : s.toList = ([] : List UInt8)
 ·
  rw [if_pos h1]
  have := (toList_nil s).1 h1
  simp [name_Kind.j0, kindS_bad (s := s) (.inl (by omega))]
 ·
  have h1' : s.size ≠ 0 := fun h => h1 ((toList_nil s).2 h)
  rw [if_neg h1]
  simp only [name_Kind.j0]
  by_cases h2 : (s.size : Int) > 8
  ·
   rw [if_pos (by simpa using h2), kindS_bad (s := s) (.inr (by omega))]
  ·
   rw [if_neg (by simpa using h2), if_pos (by omega), sign_at _ _ (by omega)]
   simp only [Option.bind_some]
   rw [kind_loop s _ (by omega) s.size k 0 (by omega) (by omega) (by omega), kind_eq s (by omega) (by omega)]
end Go.Proofs.Ytdlkhpfgkghhmaa.P

-- ==== PLb
/- Plain laws, part b: a list of cells as terms one behind the other; whether it is a term (both ways come to one function). -/
namespace Go.Proofs.Ytdlkhpfgkghhmaa.P
open Go.RowKit Go.Proofs.YtdlkhpfgkghhmaaW.PrintWords

abbrev Cel := S54
instance celEq : DecidableEq Cel := fun a b =>
 if h : a.f0 = b.f0 ∧ a.f1 = b.f1 then isTrue (by cases a; cases b; simp only at h; rw [h.1, h.2]) else isFalse (fun e => h (by rw [e]; exact ⟨rfl, rfl⟩))
theorem drop_cons {α : Type} {t : List α} {n : Nat} {c : α} {s : List α} (h : t.drop n = c :: s) : n < t.length ∧ (∀ d, t.getD n d = c) ∧ t.drop (n + 1) = s := by
 have h1 : n < t.length := by
  rcases Nat.lt_or_ge n t.length with h1 | h1
  ·
   exact h1
  ·
   rw [List.drop_eq_nil_of_le h1] at h
   cases h
 rw [List.drop_eq_getElem_cons h1] at h
 injection h with h2 h3
 exact ⟨h1, fun d => by rw [List.getD_eq_getElem?_getD, List.getElem?_eq_getElem h1]; exact h2, h3⟩
theorem drop_nil_len {α : Type} {t : List α} {n : Nat} (hn : n ≤ t.length) (h : t.drop n = []) : n = t.length := by
 have := congrArg List.length h
 simp at this
 omega
theorem rd_cel {t : List Cel} {n : Nat} {c : Cel} {s : List Cel} (h : t.drop n = c :: s) : rd_T54 t (n : Int) = c := by
 unfold rd_T54
 exact (drop_cons h).2.1 _

def ar (c : Cel) : Nat := c.f1.toNat
def cellErr (c : Cel) : Int := if kindS c.f0 = 0 then 4 else if c.f1 < 0 then 5 else if c.f1 > 4 then 5 else if kindS c.f0 = 2 then (if c.f1 > 0 then 5 else 0) else 0
def errs : List Cel → Int
 | [] => 0
 | c :: l => if cellErr c = 0 then errs l else cellErr c
def segN : List Cel → Nat → Option (List Cel)
 | l, 0 => some l
 | [], _ + 1 => none
 | c :: l, n + 1 => segN l (n + ar c)
def checkS (t : List Cel) : Int := if t.length > 64 then 6 else if errs t = 0 then (if segN t 1 = some [] then 0 else 3) else errs t

theorem segN_zero (l : List Cel) : segN l 0 = some l := by cases l <;> rfl
theorem segN_add : ∀ (l : List Cel) (a b : Nat), segN l (a + b) = (segN l a).bind fun r => segN r b
 | l, 0, b => by rw [segN_zero]; simp
 | [], a + 1, b => by rw [show a + 1 + b = (a + b) + 1 by omega]; rfl
 | c :: l, a + 1, b => by
  rw [show a + 1 + b = (a + b) + 1 by omega]
  show segN l (a + b + ar c) = (segN l (a + ar c)).bind _
  rw [show a + b + ar c = (a + ar c) + b by omega]
  exact segN_add l (a + ar c) b
theorem segN_len : ∀ {l r : List Cel} {n : Nat}, segN l n = some r → r.length ≤ l.length ∧ (0 < n → r.length < l.length)
 | l, r, 0, h => by
  rw [segN_zero] at h
  injection h with h
  subst h
  exact ⟨Nat.le_refl _, fun h => absurd h (by omega)⟩
 | [], r, n + 1, h => by cases h
 | c :: l, r, n + 1, h => by
  have := (segN_len (l := l) (r := r) (n := n + ar c) h).1
  simp only [List.length_cons]
  exact ⟨by omega, fun _ => by omega⟩
theorem segN_suffix : ∀ {l r : List Cel} {n : Nat}, segN l n = some r → ∃ m, m ≤ l.length ∧ l.drop m = r
 | l, r, 0, h => by
  rw [segN_zero] at h
  injection h with h
  exact ⟨0, by omega, h⟩
 | [], r, n + 1, h => by cases h
 | c :: l, r, n + 1, h => by
  obtain ⟨m, h1, h2⟩ := segN_suffix (l := l) (r := r) (n := n + ar c) h
  exact ⟨m + 1, by simp; omega, h2⟩

structure Okc (c : Cel) : Prop where
 kind : kindS c.f0 ≠ 0
 lo : 0 ≤ c.f1
 hi : c.f1 ≤ 4
 var : kindS c.f0 = 2 → c.f1 = 0
theorem okc_of {c : Cel} (h : cellErr c = 0) : Okc c := by
 unfold cellErr at h
 by_cases h1 : kindS c.f0 = 0
 ·
  rw [if_pos h1] at h; cases h
 ·
  rw [if_neg h1] at h
  by_cases h2 : c.f1 < 0
  ·
   rw [if_pos h2] at h; cases h
  ·
   rw [if_neg h2] at h
   by_cases h3 : c.f1 > 4
   ·
    rw [if_pos h3] at h; cases h
   ·
    rw [if_neg h3] at h
    refine ⟨h1, by omega, by omega, fun hk => ?_⟩
    rw [if_pos hk] at h
    by_cases h4 : c.f1 > 0
    ·
     rw [if_pos h4] at h; cases h
    ·
     omega
theorem errs_ok : ∀ {l : List Cel}, errs l = 0 → ∀ c ∈ l, Okc c
 | [], _, _, h => by cases h
 | a :: l, h, c, hc => by
  unfold errs at h
  by_cases h1 : cellErr a = 0
  ·
   rw [if_pos h1] at h
   rcases List.mem_cons.1 hc with rfl | hc
   ·
    exact okc_of h1
   ·
    exact errs_ok h c hc
  ·
   rw [if_neg h1] at h
   exact absurd h h1
theorem ev_cell (c : Cel) : Ev (fun k => term_cell.f k c.f0 c.f1) (cellErr c) := by
 unfold term_cell.f
 refine Ev.bind (ev_kind c.f0) ?_
 refine Ev.congr (f := fun _ => some (cellErr c)) (fun k => ?_) (Ev.now _)
 unfold cellErr
 simp only [apply_ite some]
def behS (t : List Cel) (a n : Nat) : Int := match segN (t.drop a) n with
 | none => -1
 | some r => ((t.length - r.length : Nat) : Int)
theorem ev_behind_loop (t : List Cel) (ht : t.length ≤ 64) (hok : ∀ c ∈ t, Okc c) : ∀ (s : List Cel) (a n : Nat), a ≤ t.length → t.drop a = s → n ≤ 1 + 4 * a →
 Ev (fun k => term_behind.l0 k t (a : Int) (n : Int)) (behS t a n)
 | s, a, 0, ha, hs, hn => by
  refine Ev.step (f := fun _ => some (a : Int)) (fun k => by simp only [term_behind.l0]; rw [if_neg (by omega)]) ?_
  have : behS t a 0 = (a : Int) := by
   unfold behS
   rw [segN_zero]
   simp only [List.length_drop]
   omega
  rw [this]
  exact Ev.now _
 | [], a, n + 1, ha, hs, hn => by
  have hl := drop_nil_len ha hs
  refine Ev.step (f := fun _ => some (-1 : Int)) (fun k => by simp only [term_behind.l0]; rw [if_pos (by omega), if_pos (by omega)]) ?_
  have : behS t a (n + 1) = -1 := by
   unfold behS
   rw [hs]
   rfl
  rw [this]
  exact Ev.now _
 | c :: s, a, n + 1, ha, hs, hn => by
  obtain ⟨h1, h2, h3⟩ := drop_cons hs
  have hc : Okc c := hok c (List.mem_of_mem_drop (hs ▸ List.mem_cons_self ..))
  have har : (ar c : Int) = c.f1 := by unfold ar; have := hc.lo; omega
  have hh := hc.hi
  have hl0 := hc.lo
  refine Ev.step (f := fun k => term_behind.l0 k t ((a + 1 : Nat) : Int) ((n + ar c : Nat) : Int)) (fun k => ?_) ?_
  ·
   simp only [term_behind.l0]
   rw [if_pos (by omega), if_neg (by omega), if_pos (by omega), if_pos (by omega), rd_cel hs, wrap_up (by omega) (by omega)]
   have e : wrap64 (((n + 1 : Nat) : Int) + wrap64 (c.f1 - 1)) = ((n + ar c : Nat) : Int) := by
    rw [wrap_id (i := c.f1 - 1) (by omega) (by omega), wrap_id (by omega) (by omega)]
    omega
   rw [e]
   rfl
  ·
   have : behS t a (n + 1) = behS t (a + 1) (n + ar c) := by
    unfold behS
    rw [hs, h3]
    rfl
   rw [this]
   exact ev_behind_loop t ht hok s (a + 1) (n + ar c) (by omega) h3 (by omega)
theorem ev_behind (t : List Cel) (ht : t.length ≤ 64) (hok : ∀ c ∈ t, Okc c) (a : Nat) (ha : a ≤ t.length) : Ev (fun k => term_behind.f k t (a : Int)) (behS t a 1) := by
 unfold term_behind.f
 exact ev_behind_loop t ht hok _ a 1 ha rfl (by omega)
theorem behS_whole (t : List Cel) : (behS t 0 1 = (t.length : Int)) ↔ segN t 1 = some [] := by
 unfold behS
 rw [List.drop_zero]
 cases h : segN t 1 with
 | none => simp
 | some r =>
  have := segN_len h
  simp only [Option.some.injEq]
  constructor
  ·
   intro h1
   apply List.eq_nil_of_length_eq_zero
   omega
  ·
   rintro rfl
   simp
theorem ev_check_loop (t : List Cel) (ht : t.length ≤ 64) : ∀ (s : List Cel) (a : Nat), a ≤ t.length → t.drop a = s → (∀ c ∈ t.take a, Okc c) →
 Ev (fun k => term_Check.l0 k t t (t.length : Int) (a : Int)) (if errs s = 0 then (if segN t 1 = some [] then 0 else 3) else errs s)
 | [], a, ha, hs, hok => by
  have hl := drop_nil_len ha hs
  rw [hl, List.take_length] at hok
  refine Ev.step (f := fun k => (term_behind.f k t 0).bind fun r => (if r = (t.length : Int) then (some 0) else (some 3))) (fun k => by simp only [term_Check.l0]; rw [if_neg (by omega)]) ?_
  refine Ev.bind (ev_behind t ht hok 0 (by omega)) ?_
  refine Ev.congr (f := fun _ => some (if segN t 1 = some [] then 0 else 3)) (fun k => ?_) (Ev.now _)
  by_cases h : segN t 1 = some []
  ·
   rw [if_pos ((behS_whole t).2 h), if_pos h]
  ·
   rw [if_neg (fun h' => h ((behS_whole t).1 h')), if_neg h]
 | c :: s, a, ha, hs, hok => by
  obtain ⟨h1, h2, h3⟩ := drop_cons hs
  refine Ev.step (f := fun k => (term_cell.f k c.f0 c.f1).bind fun e => (if e = 0 then (term_Check.l0 k t t (t.length : Int) ((a + 1 : Nat) : Int)) else (some e))) (fun k => ?_) ?_
  ·
   simp only [term_Check.l0]
   rw [if_pos (by omega), if_pos (by omega), if_pos (by omega), rd_cel hs, wrap_up (by omega) (by omega)]
   rfl
  ·
   refine Ev.bind (ev_cell c) ?_
   by_cases he : cellErr c = 0
   ·
    refine Ev.congr (f := fun k => term_Check.l0 k t t (t.length : Int) ((a + 1 : Nat) : Int)) (fun k => by rw [if_pos he]) ?_
    have : errs (c :: s) = errs s := by simp only [errs]; rw [if_pos he]
    rw [this]
    refine ev_check_loop t ht s (a + 1) (by omega) h3 (fun x hx => ?_)
    rw [List.take_succ_eq_append_getElem h1] at hx
    rcases List.mem_append.1 hx with hx | hx
    ·
     exact hok x hx
    ·
     have hce : t[a] = c := by have := h2 c; rw [List.getD_eq_getElem?_getD, List.getElem?_eq_getElem h1] at this; exact this
     rw [List.mem_singleton.1 hx, hce]
     exact okc_of he
   ·
    refine Ev.congr (f := fun _ => some (cellErr c)) (fun k => by rw [if_neg he]) ?_
    have : errs (c :: s) = cellErr c := by simp only [errs]; rw [if_neg he]
    rw [this, if_neg he]
    exact Ev.now _
theorem ev_check (t : List Cel) : Ev (fun k => term_Check.f k t) (checkS t) := by
 unfold term_Check.f checkS
 by_cases h : t.length > 64
 ·
  rw [if_pos h]
  exact Ev.congr (f := fun _ => some 6) (fun k => if_pos (by omega)) (Ev.now _)
 ·
  rw [if_neg h]
  exact Ev.congr (f := fun k => term_Check.l0 k t t (t.length : Int) ((0 : Nat) : Int)) (fun k => if_neg (by omega)) (ev_check_loop t (by omega) t 0 (by omega) rfl (by simp))

theorem ev_refBehind_at : ∀ (d : Nat) (t : List Cel) (ht : t.length ≤ 64) (hok : ∀ c ∈ t, Okc c) (a : Nat), t.length - a = d → a ≤ t.length → Ev (fun k => aumbryref04_Behind.f k t (a : Int)) (behS t a 1) := by
 intro d
 induction d using Nat.strongRecOn with
 | _ d ih =>
 intro t ht hok a hd ha
 rcases hs : t.drop a with _ | ⟨c, s⟩
 ·
  have hl := drop_nil_len ha hs
  refine Ev.step (f := fun k => aumbryref04_Behind.j0 k t (a : Int) true) (fun k => by simp only [aumbryref04_Behind.f]; rw [if_neg (by omega)]; congr 1; simp; omega) ?_
  refine Ev.step (f := fun k => some (-1)) (fun k => by simp only [aumbryref04_Behind.j0]; rfl) ?_
  have : behS t a 1 = -1 := by
   unfold behS
   rw [hs]
   rfl
  rw [this]
  exact Ev.now _
 ·
  obtain ⟨h1, h2, h3⟩ := drop_cons hs
  have hc : Okc c := hok c (List.mem_of_mem_drop (hs ▸ List.mem_cons_self ..))
  have har : (ar c : Int) = c.f1 := by unfold ar; have := hc.lo; omega
  have hh := hc.hi
  have hl0 := hc.lo
  refine Ev.step (f := fun k => aumbryref04_Behind.j0 k t (a : Int) false) (fun k => by simp only [aumbryref04_Behind.f]; rw [if_neg (by omega)]; congr 1; simp; omega) ?_
  refine Ev.step (f := fun k => aumbryref04_Behind.l0 k t ((a + 1 : Nat) : Int) (ar c : Int) 0) (fun k => by
   simp only [aumbryref04_Behind.j0]
   rw [if_neg (by simp), if_pos (by omega), if_pos (by omega), rd_cel hs, wrap_up (by omega) (by omega), har]
   rfl) ?_
  have loop : ∀ (m : Nat) (b i : Nat), t.length - b < d → b ≤ t.length → i + m = ar c → Ev (fun k => aumbryref04_Behind.l0 k t (b : Int) (ar c : Int) (i : Int)) (behS t b m) := by
   intro m
   induction m with
   | zero =>
    intro b i hb hbl hi
    refine Ev.step (f := fun _ => some (b : Int)) (fun k => by simp only [aumbryref04_Behind.l0]; rw [if_neg (by omega)]) ?_
    have : behS t b 0 = (b : Int) := by
     unfold behS
     rw [segN_zero]
     simp only [List.length_drop]
     omega
    rw [this]
    exact Ev.now _
   | succ m ihm =>
    intro b i hb hbl hi
    refine Ev.step (f := fun k => (aumbryref04_Behind.f k t (b : Int)).bind fun r => aumbryref04_Behind.l0 k t r (ar c : Int) ((i + 1 : Nat) : Int)) (fun k => by
     simp only [aumbryref04_Behind.l0]
     rw [if_pos (by omega), if_pos (by omega), wrap_up (by omega) (by omega)]
     rfl) ?_
    refine Ev.bind (ih _ hb t ht hok b rfl hbl) ?_
    have hadd : segN (t.drop b) (m + 1) = (segN (t.drop b) 1).bind fun r => segN r m := by rw [show m + 1 = 1 + m by omega]; exact segN_add _ _ _
    cases hr : segN (t.drop b) 1 with
    | none =>
     have e1 : behS t b 1 = -1 := by unfold behS; rw [hr]
     have e2 : behS t b (m + 1) = -1 := by unfold behS; rw [hadd, hr]; rfl
     rw [e1, e2]
     refine Ev.step (f := fun _ => some (-1 : Int)) (fun k => ?_) (Ev.now _)
     simp only [aumbryref04_Behind.l0]
     split <;> simp
    | some r =>
     obtain ⟨q, hq1, hq2⟩ := segN_suffix hr
     rw [List.drop_drop] at hq2
     have hlen := segN_len hr
     simp only [List.length_drop] at hlen hq1
     have hrl : r.length = t.length - (b + q) := by rw [← hq2, List.length_drop]
     have e1 : behS t b 1 = ((b + q : Nat) : Int) := by unfold behS; rw [hr]; simp only; omega
     have e2 : behS t b (m + 1) = behS t (b + q) m := by unfold behS; rw [hadd, hr, hq2]; rfl
     rw [e1, e2]
     exact ihm (b + q) (i + 1) (by omega) (by omega) (by omega)
  have : behS t a 1 = behS t (a + 1) (ar c) := by
   unfold behS
   rw [hs, h3]
   show (match segN s (0 + ar c) with | none => (-1 : Int) | some r => _) = _
   rw [Nat.zero_add]
  rw [this]
  exact loop (ar c) (a + 1) 0 (by omega) (by omega) (by omega)
theorem ev_refBehind (t : List Cel) (ht : t.length ≤ 64) (hok : ∀ c ∈ t, Okc c) (a : Nat) (ha : a ≤ t.length) : Ev (fun k => aumbryref04_Behind.f k t (a : Int)) (behS t a 1) := ev_refBehind_at _ t ht hok a rfl ha
end Go.Proofs.Ytdlkhpfgkghhmaa.P

-- ==== PLs
/- Plain laws: lists of cells as terms, taken apart (for chapters without match). -/
namespace Go.Proofs.Ytdlkhpfgkghhmaa.P
open Go.RowKit Go.Proofs.YtdlkhpfgkghhmaaW.PrintWords

def fstT (t r : List Cel) : List Cel := t.take (t.length - r.length)
theorem segN_append : ∀ {l r : List Cel} {n : Nat} (q : List Cel), segN l n = some r → segN (l ++ q) n = some (r ++ q)
 | l, r, 0, q, h => by
  rw [segN_zero] at h ⊢
  injection h with h
  rw [h]
 | [], r, n + 1, q, h => by cases h
 | c :: l, r, n + 1, q, h => segN_append (l := l) (r := r) (n := n + ar c) q h
theorem segN_split {t : List Cel} {n : Nat} (h : segN t (n + 1) = some []) : ∃ r, segN t 1 = some r ∧ segN r n = some [] := by
 rw [show n + 1 = 1 + n by omega, segN_add] at h
 cases hr : segN t 1 with
 | none => rw [hr] at h; cases h
 | some r => rw [hr] at h; exact ⟨r, rfl, h⟩
theorem segN_fst {t r : List Cel} {n : Nat} (h : segN t n = some r) : t = fstT t r ++ r ∧ segN (fstT t r) n = some [] := by
 obtain ⟨m, hm, hd⟩ := segN_suffix h
 have hl : r.length = t.length - m := by rw [← hd, List.length_drop]
 have he : fstT t r = t.take m := by unfold fstT; rw [show t.length - r.length = m by omega]
 rw [he]
 refine ⟨by rw [← hd]; exact (List.take_append_drop m t).symm, ?_⟩
 have : ∀ (l : List Cel) (n m : Nat), m ≤ l.length → segN l n = some (l.drop m) → segN (l.take m) n = some [] := by
  intro l
  induction l with
  | nil =>
   intro n m hm h
   have hm0 : m = 0 := by simpa using hm
   subst hm0
   simpa using h
  | cons c l ih =>
   intro n m hm h
   cases n with
   | zero =>
    rw [segN_zero] at h ⊢
    injection h with h
    have := congrArg List.length h
    simp only [List.length_cons, List.length_drop] at this
    have hm0 : m = 0 := by simp at hm; omega
    rw [hm0]
    rfl
   | succ n =>
    cases m with
    | zero =>
     have := segN_len h
     simp at this
    | succ m =>
     simp only [List.drop_succ_cons] at h
     exact ih (n + ar c) m (by simpa using hm) h
 rw [← hd] at h
 exact this t n m hm h

theorem bytes_eq (a b : ByteArray) : a.toList = b.toList ↔ a = b := by
 rw [ByteArray.toList_eq, ByteArray.toList_eq]
 constructor
 ·
  intro h
  cases a; cases b
  simp only [ByteArray.mk.injEq]
  exact Array.toList_inj.1 h
 ·
  intro h
  rw [h]
theorem cel_ne (c d : Cel) : ((!((c.f0.toList) == (d.f0.toList)) || (!(c.f1 == d.f1))) = true) ↔ c ≠ d := by
 cases c with | mk a b => cases d with | mk a' b' =>
 simp only [Bool.or_eq_true, Bool.not_eq_true', beq_eq_false_iff_ne, ne_eq, bytes_eq, S54.mk.injEq]
 by_cases h : a = a' <;> simp [h]
theorem ev_cels_loop (F : Nat → List Cel → List Cel → Int → Int → Option Bool)
 (hF : ∀ k x y n i, F (k + 1) x y n i = if i < n then (if 0 ≤ i then (if i < (x.length : Int) then (if i < (y.length : Int) then (if (!((((rd_T54 x i).f0).toList) == (((rd_T54 y i).f0).toList)) || (!(((rd_T54 x i).f1) == ((rd_T54 y i).f1)))) = true then (some false) else (F k x y n (wrap64 (i + 1)))) else (none)) else (none)) else (none)) else (some true))
 (x y : List Cel) (hl : x.length = y.length) (hb : x.length ≤ 9223372036854775806) : ∀ (s u : List Cel) (a : Nat), a ≤ x.length → x.drop a = s → y.drop a = u → Ev (fun k => F k x y (x.length : Int) (a : Int)) (decide (s = u))
 | [], u, a, ha, hs, hu => by
  have h1 := drop_nil_len ha hs
  have h2 : u = [] := by rw [← hu]; exact List.drop_eq_nil_of_le (by omega)
  refine Ev.step (f := fun _ => some true) (fun k => by rw [hF, if_neg (by omega)]) ?_
  rw [h2]
  exact Ev.now _
 | c :: s, u, a, ha, hs, hu => by
  obtain ⟨h1, _, h3⟩ := drop_cons hs
  rcases u with _ | ⟨d, u⟩
  ·
   have := drop_nil_len (by omega) hu
   omega
  obtain ⟨_, _, h4⟩ := drop_cons hu
  by_cases hcd : c = d
  ·
   refine Ev.step (f := fun k => F k x y (x.length : Int) ((a + 1 : Nat) : Int)) (fun k => by
    rw [hF, if_pos (by omega), if_pos (by omega), if_pos (by omega), if_pos (by omega), rd_cel hs, rd_cel hu, if_neg (fun h => (cel_ne c d).1 h hcd), wrap_up (by omega) (by omega)]
    rfl) ?_
   have : decide (c :: s = d :: u) = decide (s = u) := by subst hcd; simp
   rw [this]
   exact ev_cels_loop F hF x y hl hb s u (a + 1) (by omega) h3 h4
  ·
   refine Ev.step (f := fun _ => some false) (fun k => by
    rw [hF, if_pos (by omega), if_pos (by omega), if_pos (by omega), if_pos (by omega), rd_cel hs, rd_cel hu, if_pos ((cel_ne c d).2 hcd)]) ?_
   have : decide (c :: s = d :: u) = false := by simp [hcd]
   rw [this]
   exact Ev.now _
theorem ev_refSame4 (x y : List Cel) (hb : x.length ≤ 9223372036854775806 ∨ y.length ≤ 9223372036854775806) : Ev (fun k => aumbryref04_Same.f k x y) (decide (x = y)) := by
 unfold aumbryref04_Same.f
 by_cases h : (x.length : Int) = (y.length : Int)
 ·
  exact Ev.congr (f := fun k => aumbryref04_Same.l0 k x y (x.length : Int) ((0 : Nat) : Int)) (fun k => by rw [if_pos h]; rfl) (ev_cels_loop _ (fun k x y n i => rfl) x y (by omega) (by omega) x y 0 (by omega) rfl rfl)
 ·
  refine Ev.congr (f := fun _ => some (decide (x = y))) (fun k => ?_) (Ev.now _)
  rw [if_neg h]
  congr 1
  rw [Eq.comm, decide_eq_false_iff_not]
  rintro rfl
  exact h rfl
theorem clone_at (x : List Cel) (h : x.length < 5864062014805) : api_Cell_71.f x = some x := by
 unfold api_Cell_71.f
 rw [if_pos (by simpa using h)]
 rfl
theorem copy_at (x : List Cel) (h : x.length < 5864062014805) : aumbryref04_Copy.f x = some x := by
 unfold aumbryref04_Copy.f
 rw [if_pos (by simpa using h)]
 rfl

theorem checkS_ok {t : List Cel} (h : checkS t = 0) : t.length ≤ 64 ∧ (∀ c ∈ t, Okc c) ∧ segN t 1 = some [] := by
 unfold checkS at h
 by_cases h1 : t.length > 64
 ·
  rw [if_pos h1] at h
  cases h
 ·
  rw [if_neg h1] at h
  by_cases h2 : errs t = 0
  ·
   rw [if_pos h2] at h
   by_cases h3 : segN t 1 = some []
   ·
    exact ⟨by omega, errs_ok h2, h3⟩
   ·
    rw [if_neg h3] at h
    cases h
  ·
   rw [if_neg h2] at h
   exact absurd h h2
def splitT : Nat → List Cel → List (List Cel)
 | 0, _ => []
 | n + 1, l => match segN l 1 with
  | none => []
  | some r => fstT l r :: splitT n r
def kidsS : List Cel → List (List Cel)
 | [] => []
 | c :: l => splitT (ar c) l
theorem splitT_spec : ∀ (n : Nat) (l : List Cel), segN l n = some [] → (splitT n l).flatten = l ∧ (splitT n l).length = n ∧ ∀ a ∈ splitT n l, segN a 1 = some []
 | 0, l, h => by
  rw [segN_zero] at h
  injection h with h
  subst h
  exact ⟨rfl, rfl, fun a ha => by cases ha⟩
 | n + 1, l, h => by
  obtain ⟨r, h1, h2⟩ := segN_split h
  obtain ⟨g1, g2, g3⟩ := splitT_spec n r h2
  have hf := segN_fst h1
  simp only [splitT, h1, List.flatten_cons, List.length_cons, List.mem_cons]
  refine ⟨by rw [g1]; exact hf.1.symm, by omega, fun a ha => ?_⟩
  rcases ha with rfl | ha
  ·
   exact hf.2
  ·
   exact g3 a ha
theorem cellErr_okc {c : Cel} (h : Okc c) : cellErr c = 0 := by
 unfold cellErr
 have h1 := h.lo
 have h2 := h.hi
 rw [if_neg h.kind, if_neg (by omega), if_neg (by omega)]
 by_cases hk : kindS c.f0 = 2
 ·
  rw [if_pos hk, if_neg (by have := h.var hk; omega)]
 ·
  rw [if_neg hk]
theorem ok_errs : ∀ {l : List Cel}, (∀ c ∈ l, Okc c) → errs l = 0
 | [], _ => rfl
 | a :: l, h => by
  unfold errs
  rw [if_pos (cellErr_okc (h a (List.mem_cons_self ..)))]
  exact ok_errs fun c hc => h c (List.mem_cons_of_mem _ hc)
theorem checkS_of {t : List Cel} (h1 : t.length ≤ 64) (h2 : ∀ c ∈ t, Okc c) (h3 : segN t 1 = some []) : checkS t = 0 := by
 unfold checkS
 rw [if_neg (by omega), if_pos (ok_errs h2), if_pos h3]
theorem mem_fstT {t r : List Cel} {c : Cel} (h : c ∈ fstT t r) : c ∈ t := List.mem_of_mem_take h
theorem seg_at : ∀ (t : List Cel) (n a : Nat), segN t n = some [] → a < t.length → ∃ m, segN (t.drop a) (m + 1) = some []
 | [], _, a, _, ha => by simp at ha
 | c :: l, 0, a, h, ha => by rw [segN_zero] at h; injection h with h; cases h
 | c :: l, n + 1, 0, h, ha => ⟨n, h⟩
 | c :: l, n + 1, a + 1, h, ha => by
  have h' : segN l (n + ar c) = some [] := h
  exact seg_at l (n + ar c) a h' (by simpa using ha)
theorem seg_one {t : List Cel} {n a : Nat} (h : segN t n = some []) (ha : a < t.length) : ∃ r, segN (t.drop a) 1 = some r := by
 obtain ⟨m, hm⟩ := seg_at t n a h ha
 obtain ⟨r, hr, _⟩ := segN_split hm
 exact ⟨r, hr⟩
end Go.Proofs.Ytdlkhpfgkghhmaa.P

-- ==== Rw1
namespace Go.Proofs.Ytdlkhpfgkghhmaa.P
open Go.RowKit Go.Proofs.YtdlkhpfgkghhmaaW.PrintWords Go.Proofs.YtdlkhpfgkghhmaaW.PrintLast Go.Proofs.YtdlkhpfgkghhmaaW.PrintMore

def IsMc (B : Nat) (W : World) (g : Nat) (rv tv : Value) (ops : List S70) (vals : List (List S54)) (st : Int) (hd : List ByteArray) (fu : Int) : Prop :=
 ∃ vo vv vh, W.heap[g]? = some (.cells #[vo, vv, .int .i64 st, vh, rv, tv, .int .i64 fu] 94 (0, 0)) ∧ B ≤ g ∧ Kd.R k70 70 W B (fun _ => True) vo ops ∧ Kd.R (Kd.slice 54 k54) 23 W B (fun _ => True) vv vals ∧ Kd.R Kd.string 9 W B (fun _ => True) vh hd

theorem fin_calls {B g : Nat} {w : World} {rv tv : Value} {ops : List S70} {o : S70} {vals args : List (List S54)} {st fu : Int} {hd : List ByteArray} {A : Option Addr} {c : Nat} {t : List S54}
 (h : IsMc B w g rv tv (ops ++ [o]) (vals ++ args) st hd fu) (ht : Kd.R k54 54 w B (fun _ => True) (.slice A t.length c) t) (hl : (vals.length + 1) * 24 ≤ 140737488355328) :
 Calls Try.prog 48 #[.pointer (some ⟨g, 0, none⟩), .int .i64 (args.length : Int), .slice A t.length c] w fun e w' => e = .returned (.tuple #[]) ∧ IsMc B w' g rv tv ops (vals ++ [t]) st hd fu ∧ Below B w w' := by
 obtain ⟨vo, vv, vh, hb, hg, hO, hV, hH⟩ := h
 obtain ⟨Ao, co, rfl⟩ := Kd.R_slice hO
 obtain ⟨Av, cv, rfl⟩ := Kd.R_slice hV
 obtain ⟨_, hco, hCo⟩ := Kd.R_reads' hO
 obtain ⟨_, hcv, hCv⟩ := Kd.R_reads' hV
 obtain ⟨N, hN⟩ : ∃ N, N = (ops ++ [o]).length := ⟨_, rfl⟩
 obtain ⟨M, hM⟩ : ∃ M, M = (vals ++ args).length := ⟨_, rfl⟩
 rw [← hN] at hb hco hCo hO
 rw [← hM] at hb hcv hCv hV
 have hNb := hCo.2.1
 have hMb := hCv.2.1
 have hN1 : N = ops.length + 1 := by rw [hN]; simp
 have hM1 : M = vals.length + args.length := by rw [hM]; simp
 have hc0 : w.cell? ⟨g, 0, none⟩ = some (.slice Ao N co) := (blk_cell hb 0).trans rfl
 have hc1 : w.cell? ⟨g, 1, none⟩ = some (.slice Av M cv) := (blk_cell hb 1).trans rfl
 have hf0 := blk_frozen hb 0
 have hf1 := blk_frozen hb 1
 have hw0 : IntKind.i64.wrap ((N : Int) - 1) = (N : Int) - 1 := IntWalk.i64_in _ (by omega)
 have hw1 : IntKind.i64.wrap ((M : Int) - (args.length : Int)) = (M : Int) - (args.length : Int) := IntWalk.i64_in _ (by omega)
 obtain ⟨i70, hi70, _, hs70, _⟩ := info_parts info70
 obtain ⟨i23, hi23, _, hs23, _⟩ := info_parts info23
 have hcutO := cut_to (P := Try.prog) 24 70 .i64 Try.underlying24 hi70 Ao N co ((N : Int) - 1) (by omega) (by omega) hco
 have hcutV := cut_to (P := Try.prog) 25 23 .i64 Try.underlying25 hi23 Av M cv ((M : Int) - (args.length : Int)) (by omega) (by omega) hcv
 rw [show ((N : Int) - 1).toNat = ops.length by omega] at hcutO
 rw [show ((M : Int) - (args.length : Int)).toNat = vals.length by omega] at hcutV
 have HO := Aside0.mk hO
 have HV := Aside0.mk hV
 have HH := Aside0.mk hH
 have HT := Aside0.mk ht
 have HG := Aside0.mk hg
 have HBK := Aside0.mk hb
 have HL := Aside0.mk (show N = ops.length + 1 ∧ M = vals.length + args.length from ⟨hN1, hM1⟩)
 clear hO hV hH ht hg hb hN1 hM1 hN hM hCo hCv hco hcv
 go_enter Try.func48, Try.ntmps48
 go_wp2
 go_region
 have HBK1 := Aside0.mk (show _ = _ from (by simpa using blk_set HBK.out 0 (.slice Ao ops.length co) : (w.setCell ⟨g, 0, none⟩ (.slice Ao ops.length co)).heap[g]? = some (.cells #[.slice Ao ops.length co, .slice Av M cv, .int .i64 st, vh, rv, tv, .int .i64 fu] 94 (0, 0))) : (w.setCell ⟨g, 0, none⟩ (.slice Ao ops.length co)).drew.heap[g]? = some (.cells #[.slice Ao ops.length co, .slice Av M cv, .int .i64 st, vh, rv, tv, .int .i64 fu] 94 (0, 0)))
 have HO1 := Aside0.mk (Kd.R_drew (Kd.R_set (show Kd.R k70 70 w B (fun _ => True) (.slice Ao ops.length co) ops from by have := Kd.R_take (m := ops.length) HO.out (by simp); rwa [List.take_left] at this) HBK.out (by decide) 0 (.slice Ao ops.length co)))
 have HV1 := Aside0.mk (Kd.R_drew (Kd.R_set (show Kd.R (Kd.slice 54 k54) 23 w B (fun _ => True) (.slice Av vals.length cv) vals from by have := Kd.R_take (m := vals.length) HV.out (by simp); rwa [List.take_left] at this) HBK.out (by decide) 0 (.slice Ao ops.length co)))
 have HH1 := Aside0.mk (Kd.R_drew (Kd.R_set HH.out HBK.out (by decide) 0 (.slice Ao ops.length co)))
 have HT1 := Aside0.mk (Kd.R_drew (Kd.R_set HT.out HBK.out (by decide) 0 (.slice Ao ops.length co)))
 have HB1 := Aside0.mk (below_drew1 ((Below.refl B w).setCell (p := ⟨g, 0, none⟩) HG.out (.slice Ao ops.length co)))
 generalize (w.setCell ⟨g, 0, none⟩ (.slice Ao ops.length co)).drew = w1 at HBK1 HO1 HV1 HH1 HT1 HB1 ⊢
 clear hc0 hc1 hf0 hf1
 have hc1 : w1.cell? ⟨g, 1, none⟩ = some (.slice Av M cv) := (blk_cell HBK1.out 1).trans rfl
 go_wp2
 have FM := Aside0.mk (show Kd.M (Kd.slice 54 k54) w1.drew B (fun k => True ∧ some k ≠ (Value.slice Av vals.length cv).ownBlock) t [.slice A t.length c] from Kd.M_row (Kd.R_drew (Kd.R_apartR HT1.out HV1.out (by decide))))
 have FO := Aside0.mk (show Kd.R (Kd.slice 54 k54) 23 w1.drew B (fun _ => True) (.slice Av vals.length cv) vals from Kd.R_drew HV1.out)
 have FB := Aside0.mk (show Below B w w1.drew from below_drew1 HB1.out)
 have FS := Aside0.mk (show B ≤ w1.drew.heap.size from Nat.le_trans HG.out (Nat.le_of_lt (blk_lt HBK1.out)))
 have AFT : ∀ (w4 : World), w1.drew.grownBy w4 (Value.slice Av vals.length cv).ownBlock → w4.heap[g]? = some (.cells #[.slice Ao ops.length co, .slice Av M cv, .int .i64 st, vh, rv, tv, .int .i64 fu] 94 (0, 0)) ∧ Kd.R k70 70 w4 B (fun _ => True) (.slice Ao ops.length co) ops ∧ Kd.R Kd.string 9 w4 B (fun _ => True) vh hd := fun w4 hgr =>
  ⟨blk_grown (w := w1.drew) HBK1.out hgr (Kd.R_ne FO.out HBK1.out (by decide)), Kd.R_over (Kd.R_drew HO1.out) FO.out (by decide) hgr, Kd.R_over (Kd.R_drew HH1.out) FO.out (by decide) hgr⟩
 have AF := Aside0.mk AFT
 clear AFT
 have hca : (w1.alloc (.cells #[.slice A t.length c] 23)).cell? ⟨g, 1, none⟩ = some (.slice Av M cv) := pw_cell_below (below_alloc (Below.refl _ _) _) hc1
 go_region_law ((refine Kd.R_append_step (W := w1.drew) (Kd.slice 54 k54) (w0 := w) B rfl (.tmp 37) (.tmp 39) 25 23 (.slice none 0 0) 24 rfl Try.underlying25 info23 rfl (by decide) (by decide) (.slice Av vals.length cv) vals t [.slice A t.length c] (fun _ => True) (fun k => True ∧ some k ≠ (Value.slice Av vals.length cv).ownBlock) rfl rfl FM.out (fun _ hk => hk) (fun _ _ => trivial) FO.out FB.out FS.out hl ?_; intro v2 w4 ho hb hgr hat; obtain ⟨A2, c2, rfl⟩ := Kd.R_slice ho; have HA := Aside0.mk (AF.out w4 hgr); have HV2 := Aside0.mk ho; have HB2 := Aside0.mk hb; have hf2 := blk_frozen HA.out.1 1; have hc2 := (blk_cell HA.out.1 1).trans rfl; clear ho hb hgr hat))
 all_goals
  (first | refine bodyPost_ret (results_none rfl _ _ _) rfl ?_ | refine bodyPost_end (results_none rfl _ _ _) rfl ?_)
  exact ⟨rfl, ⟨_, _, _, by simpa using blk_set HA.out.1 1 _, HG.out, Kd.R_set HA.out.2.1 HA.out.1 (by decide) 1 _, Kd.R_set HV2.out HA.out.1 (by decide) 1 _, Kd.R_set HA.out.2.2 HA.out.1 (by decide) 1 _⟩, HB2.out.setCell (p := ⟨g, 1, none⟩) HG.out _⟩

-- ==== Rw2
theorem isMc_below {B g : Nat} {W W' : World} {rv tv : Value} {ops : List S70} {vals : List (List S54)} {st fu : Int} {hd : List ByteArray} (h : IsMc B W g rv tv ops vals st hd fu) (hb' : Below W.heap.size W W') : IsMc B W' g rv tv ops vals st hd fu := by
 obtain ⟨vo, vv, vh, hb, hg, hO, hV, hH⟩ := h
 exact ⟨vo, vv, vh, (hb'.block g (blk_lt hb)).trans hb, hg, Kd.R_below hO hb', Kd.R_below hV hb', Kd.R_below hH hb'⟩
theorem isMc_lt {B g : Nat} {W : World} {rv tv : Value} {ops : List S70} {vals : List (List S54)} {st fu : Int} {hd : List ByteArray} (h : IsMc B W g rv tv ops vals st hd fu) : B ≤ W.heap.size := by
 obtain ⟨vo, vv, vh, hb, hg, _⟩ := h
 exact Nat.le_trans hg (Nat.le_of_lt (blk_lt hb))
theorem R_one (W : World) (B a : Nat) (ha : a = W.heap.size) (hB : B ≤ a) (x : S54) : Kd.R k54 54 (W.alloc (.cells #[.string x.f0, .int .i64 x.f1] 54)) B (fun _ => True) (.slice (some ⟨a, 0, none⟩) [x].length 1) [x] := by
 subst ha
 refine ⟨fun _ _ => trivial, [.string x.f0, .int .i64 x.f1], ?_, ?_⟩
 ·
  exact World.ownsRow_lit (base := B) (e := 54) (size := 2) W #[.string x.f0, .int .i64 x.f1] 1 hB (by decide) (by rfl)
 ·
  refine ⟨rfl, fun j p hj => ?_⟩
  match j, hj with
  | 0, hj => obtain rfl := Option.some.inj hj; exact k54_mkM _ _ _ x
  | j + 1, hj => simp at hj
def nodeStep (out v : List S54) : List S54 := if out.length ≤ 64 then out ++ v else out
def nodeL (c : S54) (args : List (List S54)) : List S54 := args.foldl nodeStep [c]
theorem nodeStep_le {out v : List S54} (h : out.length ≤ 128) (hv : v.length ≤ 64) : (nodeStep out v).length ≤ 128 := by
 unfold nodeStep
 split
 ·
  rw [List.length_append]; omega
 ·
  exact h
def NodeEnd (l : List S54) (base : Nat) (w' : World) (v : Value) : Prop := if l.length > 64 then v = .slice none 0 0 else Kd.R k54 54 w' base (fun _ => True) v l
theorem node_calls {B g : Nat} {w : World} {rv tv : Value} {ops : List S70} {vals args : List (List S54)} {st fu : Int} {hd : List ByteArray} {nm : ByteArray}
 (h : IsMc B w g rv tv ops (vals ++ args) st hd fu) (hv : ∀ v ∈ args, v.length ≤ 64) :
 Calls Try.prog 72 #[.pointer (some ⟨g, 0, none⟩), .agg #[.string nm, .int .i64 (args.length : Int)]] w fun e w' => ∃ v : Value, e = .returned v ∧
  NodeEnd (nodeL ⟨nm, args.length⟩ args) w.heap.size w' v ∧ Below w.heap.size w w' := by
 obtain ⟨vo, vv, vh, hb, hg, hO, hV, hH⟩ := h
 obtain ⟨Av, cv, rfl⟩ := Kd.R_slice hV
 obtain ⟨_, hcv, hCv⟩ := Kd.R_reads' hV
 obtain ⟨M, hM⟩ : ∃ M, M = (vals ++ args).length := ⟨_, rfl⟩
 rw [← hM] at hb hcv
 have hMb : M ≤ 9223372036854775807 := by rw [hM]; exact hCv.2.1
 have hM1 : M = vals.length + args.length := by rw [hM]; simp
 obtain ⟨i23, hi23, _, hs23, _⟩ := info_parts info23
 have hcut := cut_from (P := Try.prog) 25 23 .i64 Try.underlying25 hi23 1 hs23 Av M cv ((M : Int) - (args.length : Int)) (by omega) (by omega)
 have hC2 := Kd.C_drop (c := cv) (m := vals.length) hCv (by simp) (by rw [← hM]; exact hcv)
 rw [List.drop_left] at hC2
 rw [show ((M : Int) - (args.length : Int)).toNat = vals.length by omega] at hcut
 rw [show M - vals.length = args.length by omega] at hcut
 obtain ⟨A2, hA2⟩ : ∃ A2 : Option Addr, A2 = (if cv = vals.length then Av else Av.map (·.add (vals.length * 1))) := ⟨_, rfl⟩
 rw [← hA2] at hcut
 have hC3 : Kd.C (Kd.slice 54 k54) w A2 args.length args := by rw [hA2]; exact hC2
 have hw1 : IntKind.i64.wrap ((M : Int) - (args.length : Int)) = (M : Int) - (args.length : Int) := IntWalk.i64_in _ (by omega)
 obtain ⟨fin, hfin⟩ : ∃ fin, fin = nodeL ⟨nm, args.length⟩ args := ⟨_, rfl⟩
 rw [← hfin]
 have HC := Aside0.mk hC3
 have HV := Aside0.mk hv
 have HF := Aside0.mk hfin
 have HM := Aside0.mk (show (args.length : Int) ≤ 9223372036854775807 by omega)
 obtain ⟨bx, hbx⟩ : ∃ bx : Obj, bx = .cells #[.string nm, .int .i64 (args.length : Int)] 54 := ⟨_, rfl⟩
 have hbw := below_alloc (Below.refl w.heap.size w) (.cells #[.string nm, .int .i64 (args.length : Int)] 54)
 have hbw2 := below_alloc hbw (.cells #[.string nm, .int .i64 (args.length : Int)] 54)
 have hv1 : ((w.alloc (.cells #[.string nm, .int .i64 (args.length : Int)] 54)).alloc (.cells #[.string nm, .int .i64 (args.length : Int)] 54)).cell? ⟨g, 1, none⟩ = some (.slice Av M cv) := pw_cell_below hbw2 ((blk_cell hb 1).trans rfl)
 have hk0 := heap_alloc_new w (.cells #[.string nm, .int .i64 (args.length : Int)] 54)
 have hk1 : ((w.alloc (.cells #[.string nm, .int .i64 (args.length : Int)] 54)).alloc (.cells #[.string nm, .int .i64 (args.length : Int)] 54)).cell? ⟨w.heap.size, 1, none⟩ = some (.int .i64 (args.length : Int)) := pw_cell_below (below_alloc (Below.refl _ _) _) ((blk_cell hk0 1).trans rfl)
 have HO := Aside0.mk (R_one (w.alloc (.cells #[.string nm, .int .i64 (args.length : Int)] 54)) w.heap.size (w.heap.size + 1) (by simp) (by omega) ⟨nm, args.length⟩)
 have HB := Aside0.mk hbw2
 clear hO hV hH hb hg hC2 hC3 hA2 hCv hcv hM hM1 hv hfin hbw hbw2 hk0 hbx bx
 go_enter Try.func72, Try.ntmps72
 go_wp2
 go_region
 have HO1 := Aside0.mk (Kd.R_drew HO.out)
 have HB1 := Aside0.mk (below_drew1 HB.out)
 clear hv1 hk1 HO HB
 go_wp2
 go_loopg [5, 26] args.length (fun kq v5 v26 w' => ∃ (x : Int) (Ao : Option Addr) (co : Nat) (out : List S54), v26 = .int .i64 x ∧ v5 = .slice Ao out.length co ∧ Aside0 (0 ≤ x ∧ x + kq = (args.length : Int)) ∧ Aside0 ((args.drop x.toNat).foldl nodeStep out = fin) ∧ Aside0 (out.length ≤ 128) ∧ Aside0 (Kd.R k54 54 w' w.heap.size (fun _ => True) (.slice Ao out.length co) out) ∧ Aside0 (Below w.heap.size w w'))
 case atStart => exact ⟨0, _, _, [⟨nm, args.length⟩], rfl, rfl, ⟨by omega⟩, ⟨by rw [HF.out]; rfl⟩, ⟨by simp⟩, HO1, HB1⟩
 case round =>
  clear HO1 HB1 HF
  obtain ⟨x, Ao, co, out, rfl, rfl, HI, HF, HL, HO, HB⟩ := hrel
  cases gk with
  | succ k1 =>
   have hi : 0 ≤ x ∧ x < (args.length : Int) := by have := HI.out; omega
   obtain ⟨ad, A0, c0, rfl, hx0, hl0, hc0⟩ := at_L3 (Kd.C_below HC.out HB.out) x hi.1 hi.2
   have hd : args.drop x.toNat = rd_L3 args x :: args.drop (x.toNat + 1) := by
    rw [List.drop_eq_getElem_cons (show x.toNat < args.length by omega)]
    congr 1
    simp [rd_L3, List.getD_eq_getElem?_getD, show x.toNat < args.length by omega]
   have hf := HF.out
   rw [hd, List.foldl_cons] at hf
   have HF2 := Aside0.mk hf
   have hvl : (rd_L3 args x).length ≤ 64 := HV.out _ (by have := List.mem_of_mem_drop (i := x.toNat) (l := args) (a := rd_L3 args x) (by rw [hd]; exact List.mem_cons_self); exact this)
   have HVL := Aside0.mk hvl
   have HX := Aside0.mk hi
   have HCv := Aside0.mk hc0
   generalize rd_L3 args x = v at hx0 hl0 HF2 HVL HCv
   have hb0 : decide (x < (args.length : Int)) = true := decide_eq_true hi.2
   have hpp := eq_true hi.1
   have hqq := eq_true hi.2
   clear hd hf hvl hi hc0
   by_cases hq : out.length ≤ 64
   ·
    have hb1 : decide ((out.length : Int) ≤ 64) = true := decide_eq_true (by omega)
    have HS := Aside0.mk (show nodeStep out v = out ++ v from if_pos hq)
    clear hq
    go_wp2_with (first | (at_builtin; refine Kd.R_append_rows k54 (w0 := w) w.heap.size rfl (.tmp 33) (.tmp 34) 23 54 (.agg #[.string ⟨#[]⟩, .int .i64 0]) 24 rfl Try.underlying23 info54 rfl (by decide) (by decide) (.slice Ao out.length co) out v A0 v.length c0 (fun _ => True) (fun _ => False) rfl rfl HO.out HCv.out (fun x cs hk => ?aK) (fun _ hk => hk.elim) (fun _ _ => trivial) HB.out HB.out.size ?aL ?_; (case aK => obtain rfl := k54_open hk; exact k54_mkM _ _ _ _); (case aL => have := HL.out; have := HVL.out; omega); intro v2 w4 ho hb hgr hat; obtain ⟨A2_, c2_, rfl⟩ := Kd.R_slice ho; have HO2 := Aside0.mk ho; have HB2 := Aside0.mk hb; clear ho hb hgr hat))
    go_roundg k1
    case measure => have := HI.out; omega
    case rel => exact ⟨x + 1, _, _, out ++ v, by have e_ : wrap64 (x + 1) = x + 1 := (by have := HX.out; have := HM.out; unfold wrap64; omega); first | rfl | rw [e_] | (simp [e_]; done), by rw [List.length_append], ⟨by have := HI.out; omega⟩, ⟨by rw [show (x + 1).toNat = x.toNat + 1 by have := HX.out; omega, ← HS.out]; exact HF2.out⟩, ⟨by have := nodeStep_le HL.out HVL.out; rwa [HS.out] at this⟩, HO2, HB2⟩
   ·
    have hb1 : decide ((out.length : Int) ≤ 64) = false := decide_eq_false (by omega)
    have HS := Aside0.mk (show nodeStep out v = out from if_neg hq)
    clear hq
    go_wp2
    go_roundg k1
    case measure => have := HI.out; omega
    case rel => exact ⟨x + 1, _, _, out, by have e_ : wrap64 (x + 1) = x + 1 := (by have := HX.out; have := HM.out; unfold wrap64; omega); first | rfl | rw [e_] | (simp [e_]; done), rfl, ⟨by have := HI.out; omega⟩, ⟨by rw [show (x + 1).toNat = x.toNat + 1 by have := HX.out; omega]; have h_ := HF2.out; rw [HS.out] at h_; exact h_⟩, HL, HO, HB⟩
  | zero =>
   have hb0 : decide (x < (args.length : Int)) = false := decide_eq_false (by have := HI.out; omega)
   have hf := HF.out
   rw [List.drop_eq_nil_of_le (by have := HI.out; omega)] at hf
   have hf : out = fin := hf
   subst hf
   by_cases hq : out.length > 64
   ·
    have hb1 : decide ((64 : Int) < (out.length : Int)) = true := decide_eq_true (by omega)
    have hb2 : decide (64 < out.length) = true := decide_eq_true (by omega)
    have HQ := Aside0.mk hq
    clear hq
    go_wp2
    go_ret
    exact ⟨_, rfl, (by unfold NodeEnd; rw [if_pos HQ.out]; rfl), HB.out⟩
   ·
    have hb1 : decide ((64 : Int) < (out.length : Int)) = false := decide_eq_false (by omega)
    have hb2 : decide (64 < out.length) = false := decide_eq_false (by omega)
    have HQ := Aside0.mk hq
    clear hq
    go_wp2
    go_ret
    exact ⟨_, rfl, (by unfold NodeEnd; rw [if_neg HQ.out]; exact HO.out), HB.out⟩

-- ==== Rw3
def KT (T : Nat) (w w' : World) : Prop := Kept w w' (fun k => ∃ cells, w.heap[k]? = some (.cells cells T (0, 0)))
theorem KT.refl (T : Nat) (w : World) : KT T w w := Kept.refl _ _
theorem KT.trans {T : Nat} {w w1 w2 : World} (h : KT T w w1) (k : KT T w1 w2) : KT T w w2 := by
 refine Kept.then_ h k (fun i hi => ?_)
 rcases Nat.lt_or_ge i w.heap.size with hl | hl
 ·
  by_cases hs : ∃ cells, w.heap[i]? = some (.cells cells T (0, 0))
  ·
   exact .inl hs
  ·
   obtain ⟨cells, hc⟩ := hi
   rw [h.2 i hl hs] at hc
   exact absurd ⟨cells, hc⟩ hs
 ·
  exact .inr hl
theorem KT.below {T : Nat} {w w1 w2 : World} (h : KT T w w1) (hb : Below w1.heap.size w1 w2) : KT T w w2 := h.trans (Kept.of_below hb _)
theorem KT.alloc {T : Nat} {w w1 : World} (h : KT T w w1) (o : Obj) : KT T w (w1.alloc o) := h.below (below_alloc (Below.refl _ _) o)
theorem KT.drew {T : Nat} {w w1 : World} (h : KT T w w1) : KT T w w1.drew := h
theorem KT.grown {α : Type} {d : Kd α} {T B : Nat} {ok : Nat → Prop} {w w1 w2 : World} {v : Value} {xs : List α} (h : KT T w w1) (hr : d.R T w1 B ok v xs) (hg : w1.grownBy w2 v.ownBlock) : KT T w w2 :=
 h.trans ⟨hg.size, fun i hi hn => hg.block i hi (fun he => hn (Kd.R_typed hr i he.symm))⟩
theorem KT.blk {T t g : Nat} {cs : Array Value} {w w1 : World} (h : KT T w w1) (hb : w.heap[g]? = some (.cells cs t (0, 0))) (ht : t ≠ T) : w1.heap[g]? = some (.cells cs t (0, 0)) :=
 blk_kept hb h (fun ⟨cells, hc⟩ => by rw [hb] at hc; injection hc with hc; injection hc with _ hc; exact ht hc)
def todoN (f : Int → List S70 → Option (List S70 × Int)) : Nat → Int → List S70 → Option (List S70 × Int)
 | 0, i, out => some (out, i)
 | n + 1, i, out => (f i out).bind fun r => todoN f n r.2 r.1
def todoL (H : ByteArray → List S54) (t : List S54) : Nat → Int → List S70 → Option (List S70 × Int)
 | 0, _, _ => none
 | k + 1, i, out => if 0 ≤ i ∧ i < (t.length : Int) then
  (if (H (rd_T54 t i).f0).length > 0 then (if out.length < 2513169434900 then some (out ++ [⟨2, z54, H (rd_T54 t i).f0⟩], i + 1) else none)
   else if (rd_T54 t i).f1 ≤ 4 then ((todoN (todoL H t k) (rd_T54 t i).f1.toNat (i + 1) out).bind fun r => if r.1.length < 2513169434900 then some (r.1 ++ [⟨1, rd_T54 t i, []⟩], r.2) else none) else none)
  else none
theorem below_trB {B : Nat} {w w1 w2 : World} (h : Below B w w1) (k : Below B w1 w2) : Below B w w2 :=
 ⟨k.os.trans h.os, k.tape.trans h.tape, k.output.trans h.output, Nat.le_trans h.size k.size, fun i hi => (k.block i hi).trans (h.block i hi)⟩
theorem below_less {B C : Nat} {w w1 : World} (h : Below C w w1) (hB : B ≤ C) : Below B w w1 := ⟨h.os, h.tape, h.output, h.size, fun i hi => h.block i (Nat.lt_of_lt_of_le hi hB)⟩

theorem todo_calls0 {w0 : World} {A : Option Addr} {c : Nat} {t : List S54} {H : ByteArray → List S54} (ht : Kd.C k54 w0 A t.length t) (hc : t.length ≤ c)
 (HC : ∀ (s : ByteArray) (W : World), Below w0.heap.size w0 W → Calls Try.prog 33 #[.string s] W fun e W' => ∃ v0 : Value, e = .returned v0 ∧ Kd.R k54 54 W' W.heap.size (fun _ => True) v0 (H s) ∧ Below W.heap.size W W') (k : Nat) : ∀ (i : Int) (vo : Value) (out : List S70) (r : List S70 × Int) (w : World), Below w0.heap.size w0 w → Kd.R k70 70 w w0.heap.size (fun _ => True) vo out → todoL H t k i out = some r →
 Calls Try.prog 63 #[.slice A t.length c, .int .i64 i, vo, .func (.func 33) #[] #[]] w fun e w' => ∃ v0 : Value, e = .returned (.tuple #[v0, .int .i64 r.2]) ∧ Kd.R k70 70 w' w0.heap.size (fun _ => True) v0 r.1 ∧ Below w0.heap.size w0 w' ∧ KT 70 w w' := by
 induction k with
 | zero => intro i vo out r w hb ho h; simp [todoL] at h
 | succ k ih =>
  intro i vo out r w hb ho h
  have HT := Aside0.mk ht
  have IH := Aside0.mk ih
  have HHC := Aside0.mk HC
  obtain ⟨Ao, co, rfl⟩ := Kd.R_slice ho
  have HO := Aside0.mk ho
  have HB := Aside0.mk hb
  have HKT := Aside0.mk (KT.refl 70 w)
  have HM := Aside0.mk (show (t.length : Int) ≤ 9223372036854775807 by have := ht.2.1; omega)
  rw [todoL] at h
  by_cases hi : 0 ≤ i ∧ i < (t.length : Int)
  case neg => rw [if_neg hi] at h; cases h
  rw [if_pos hi] at h
  obtain ⟨ad, rfl, hx0, hx1⟩ := at_T54 (Kd.C_below ht hb) i hi.1 hi.2
  generalize rd_T54 t i = cc at hx0 hx1 h
  have hpp := eq_true hi.1
  have hqq := eq_true hi.2
  have hwr : wrap64 (i + 1) = i + 1 := by have := HM.out; unfold wrap64; omega
  have HX := Aside0.mk hi
  have H0 := Aside0.mk h
  clear ho hb ih ht h HC
  have HF := fun (W : World) (hW : Below w0.heap.size w0 W) => HHC.out cc.f0 W hW
  clear hi
  by_cases h1 : (H cc.f0).length > 0
  ·
   have h := H0.out
   rw [if_pos h1] at h
   by_cases h2 : out.length < 2513169434900
   case neg => rw [if_neg h2] at h; cases h
   rw [if_pos h2] at h
   obtain rfl := Option.some.inj h
   have HN := Aside0.mk h2
   have hd : decide (0 < ((H cc.f0).length : Int)) = true := decide_eq_true (by omega)
   have hd2 : decide (0 < (H cc.f0).length) = true := decide_eq_true h1
   have hp1 : 0 < (H cc.f0).length := h1
   clear h h2 H0
   generalize H cc.f0 = hv at HF hd hd2 h1 hp1 ⊢
   go_enter Try.func63, Try.ntmps63
   go_wp2_with (first | (go_at_call 33; (with_reducible refine (HF _ ?side1).mono ?_); (case side1 => exact (zq HB.out)); rintro e w1 ⟨v1, rfl, hr1, hb1⟩; obtain ⟨A1, c1, rfl⟩ := Kd.R_slice hr1; have HR1 := Aside0.mk (Kd.R_lower hr1 ((zq HB.out) : Below w0.heap.size w0 _).size); have n0_ := Aside0.mk (Kd.R_below (zr HO.out) hb1); have n1_ := Aside0.mk (below_trB (zq HB.out) (below_less hb1 ((zq HB.out) : Below w0.heap.size w0 _).size)); have n2_ := Aside0.mk (KT.below (KT.below HKT.out zg) hb1); clear HO HB HKT hr1 hb1; have HO := n0_; have HB := n1_; have HKT := n2_; clear n0_ n1_ n2_) | (at_builtin; (with_reducible refine gate_builtin (b := .append) (xs := #[.tmp 25, .tmp 28]) rfl ?_); refine Kd.R_append k70 (w0 := w0) w0.heap.size rfl (.tmp 25) (.tmp 28) 24 70 (.agg #[.int .i64 0, .string ⟨#[]⟩, .int .i64 0, .slice none 0 0]) 56 rfl Try.underlying24 info70 rfl (by decide) (by decide) (Value.slice Ao out.length co) out (⟨2, z54, hv⟩ : S70) [.int .i64 2, .string ⟨#[]⟩, .int .i64 0, .slice A1 hv.length c1] (fun _ => True) (fun k => True ∧ some k ≠ (Value.slice Ao out.length co).ownBlock) rfl rfl ?aP (fun _ hk => hk) (fun _ _ => trivial) ?aO ?aB ?aS ?aL ?_; (case aP => exact k70_mkM _ _ _ (⟨2, z54, hv⟩ : S70) (Kd.R_apartR (zr HR1.out) (show Kd.R k70 70 _ w0.heap.size (fun _ => True) (.slice Ao out.length co) out from (zr HO.out)) (by decide))); (case aO => exact (zr HO.out)); (case aB => exact (zq HB.out)); (case aS => exact (show Below w0.heap.size w0 _ from (zq HB.out)).size); (case aL => have := HN.out; omega); intro v2 w4 ho hb hgr hat; obtain ⟨A2_, c2_, rfl⟩ := Kd.R_slice ho; have HO2 := Aside0.mk ho; have HB2 := Aside0.mk hb; have hk_ : KT 70 w w4 := (by refine KT.grown (d := k70) (B := w0.heap.size) (ok := fun _ => True) (xs := out) ?_ ?_ hgr; exact (KT.below HKT.out zg); exact (zr HO.out)); have HK2 := Aside0.mk hk_; clear hk_; clear ho hb hgr hat))
   go_ret2
   exact ⟨_, rfl, by have h_ := HO2.out; simp only [List.length_append, List.length_cons, List.length_nil, Nat.zero_add] at h_; exact h_, HB2.out, HK2.out⟩
  ·
   have h := H0.out
   rw [if_neg h1] at h
   by_cases h4 : cc.f1 ≤ 4
   case neg => rw [if_neg h4] at h; cases h
   rw [if_pos h4] at h
   have HAR := Aside0.mk h4
   clear h4
   obtain ⟨⟨out', i'⟩, hn, h⟩ := Option.bind_eq_some_iff.mp h
   by_cases h2 : out'.length < 2513169434900
   case neg => rw [if_neg h2] at h; cases h
   rw [if_pos h2] at h
   obtain rfl := Option.some.inj h
   have HN := Aside0.mk h2
   have HH := Aside0.mk hn
   have hd : decide (0 < ((H cc.f0).length : Int)) = false := decide_eq_false (by omega)
   have hd2 : decide (0 < (H cc.f0).length) = false := decide_eq_false h1
   have hp1 : (H cc.f0).length = 0 := by omega
   clear h h2 H0 hn
   generalize hgv : H cc.f0 = hv at HF hd hd2 h1 hp1
   obtain rfl : hv = [] := List.eq_nil_of_length_eq_zero hp1
   clear h1 hp1 hgv
   go_enter Try.func63, Try.ntmps63
   go_wp2_with (first | (go_at_call 33; (with_reducible refine (HF _ ?side1).mono ?_); (case side1 => exact (zq HB.out)); rintro e w1 ⟨v1, rfl, hr1, hb1⟩; obtain ⟨A1, c1, rfl⟩ := Kd.R_slice hr1; have n0_ := Aside0.mk (Kd.R_below (zr HO.out) hb1); have n1_ := Aside0.mk (below_trB (zq HB.out) (below_less hb1 ((zq HB.out) : Below w0.heap.size w0 _).size)); have hk1 := pw_cell_below hb1 ((blk_cell (heap_alloc_new w (.cells #[.string cc.f0, .int .i64 cc.f1] 54)) 0).trans rfl); have hk2 := pw_cell_below hb1 ((blk_cell (heap_alloc_new w (.cells #[.string cc.f0, .int .i64 cc.f1] 54)) 1).trans rfl); have HK := Aside0.mk (hb1.block w.heap.size (by simp)); have n2_ := Aside0.mk (KT.below (KT.below HKT.out zg) hb1); clear HO HB HKT hr1 hb1; have HO := n0_; have HB := n1_; have HKT := n2_; clear n0_ n1_ n2_))
   go_loopg [1, 2, 33] cc.f1.toNat (fun kq v1 v2 v33 w' => ∃ (j a : Int) (o : List S70) (Ao2 : Option Addr) (co2 : Nat), v1 = .int .i64 a ∧ v2 = .slice Ao2 o.length co2 ∧ v33 = .int .i64 j ∧ Aside0 (0 ≤ j ∧ j + kq = (cc.f1.toNat : Int)) ∧ Aside0 (todoN (todoL H t k) kq a o = some (out', i')) ∧ Aside0 (Kd.R k70 70 w' w0.heap.size (fun _ => True) (.slice Ao2 o.length co2) o) ∧ Aside0 (Below w0.heap.size w0 w') ∧ Aside0 (KT 70 w w') ∧ Aside0 (w'.heap[w.heap.size]? = some (.cells #[.string cc.f0, .int .i64 cc.f1] 54 (0, 0))))
   case atStart => exact ⟨0, i + 1, out, _, _, rfl, rfl, rfl, ⟨by omega⟩, HH, HO, HB, HKT, ⟨HK.out.trans (heap_alloc_new w _)⟩⟩
   case round =>
    clear HO HB HKT HH HK hk1 hk2
    obtain ⟨j, a, o, Ao2, co2, rfl, rfl, rfl, HI, HH, HO, HB, HKT, HK⟩ := hrel
    cases gk with
    | succ k1 =>
     have hj : 0 ≤ j ∧ j < cc.f1 := by have := HI.out; omega
     have hd3 : decide (j < cc.f1) = true := decide_eq_true hj.2
     have HJ := Aside0.mk hj
     have h := HH.out
     rw [todoN] at h
     obtain ⟨⟨o2, a2⟩, hf, h⟩ := Option.bind_eq_some_iff.mp h
     have HH2 := Aside0.mk h
     have I1 := fun (W : World) (hW : Below w0.heap.size w0 W) (hr : Kd.R k70 70 W w0.heap.size (fun _ => True) (.slice Ao2 o.length co2) o) => IH.out a _ o _ W hW hr hf
     have hjw : wrap64 (j + 1) = j + 1 := by
      have := HAR.out
      unfold wrap64; omega
     clear h hf hj
     go_wp2_with (first | (go_at_call 63; (with_reducible refine (I1 _ ?side1 ?side2).mono ?_); (case side1 => exact (zq HB.out)); (case side2 => exact (zr HO.out)); rintro e w2 ⟨v2, rfl, hr2, hb2, hk2⟩; obtain ⟨A2, c2, rfl⟩ := Kd.R_slice hr2; have HO2 := Aside0.mk hr2; have HB2 := Aside0.mk hb2; have HKT2 := Aside0.mk (KT.trans (KT.below HKT.out zg) hk2); have HK2 := Aside0.mk (KT.blk hk2 HK.out (by decide)); clear hr2 hb2 hk2))
     go_roundg k1
     case measure => have := HI.out; omega
     case rel => exact ⟨j + 1, a2, o2, _, _, rfl, rfl, by first | rfl | rw [hjw], ⟨by have := HI.out; have := HJ.out; omega⟩, HH2, HO2, HB2, HKT2, HK2⟩
    | zero =>
     have hj : ¬ j < cc.f1 := by have := HI.out; omega
     have hd3 : decide (j < cc.f1) = false := decide_eq_false hj
     have h := HH.out
     rw [todoN] at h
     obtain ⟨rfl, rfl⟩ := Prod.mk.inj (Option.some.inj h)
     have hk3 := (blk_cell HK.out 0).trans rfl
     have hk4 := (blk_cell HK.out 1).trans rfl
     clear h hj HH
     go_wp2_with (first | (at_builtin; (with_reducible refine gate_builtin (b := .append) (xs := #[.tmp 44, .tmp 47]) rfl ?_); refine Kd.R_append k70 (w0 := w0) w0.heap.size rfl (.tmp 44) (.tmp 47) 24 70 (.agg #[.int .i64 0, .string ⟨#[]⟩, .int .i64 0, .slice none 0 0]) 56 rfl Try.underlying24 info70 rfl (by decide) (by decide) (Value.slice Ao2 o.length co2) o (⟨1, cc, []⟩ : S70) [.int .i64 1, .string cc.f0, .int .i64 cc.f1, .slice none 0 0] (fun _ => True) (fun k => True ∧ some k ≠ (Value.slice Ao2 o.length co2).ownBlock) rfl rfl ?aP (fun _ hk => hk) (fun _ _ => trivial) ?aO ?aB ?aS ?aL ?_; (case aP => exact k70_mkM _ _ _ (⟨1, cc, []⟩ : S70) (Kd.R_nil _ _ _ _ _)); (case aO => exact (zr HO.out)); (case aB => exact (zq HB.out)); (case aS => exact (show Below w0.heap.size w0 _ from (zq HB.out)).size); (case aL => have := HN.out; omega); intro v2 w4 ho hb hgr hat; obtain ⟨A2_, c2_, rfl⟩ := Kd.R_slice ho; have HO2 := Aside0.mk ho; have HB2 := Aside0.mk hb; have hk_ : KT 70 w w4 := (by refine KT.grown (d := k70) (B := w0.heap.size) (ok := fun _ => True) (xs := o) ?_ ?_ hgr; exact (KT.below HKT.out zg); exact (zr HO.out)); have HK2 := Aside0.mk hk_; clear hk_; clear ho hb hgr hat))
     go_ret2
     exact ⟨_, rfl, by have h_ := HO2.out; simp only [List.length_append, List.length_cons, List.length_nil, Nat.zero_add] at h_; exact h_, HB2.out, HK2.out⟩

theorem todo_calls1 {w0 : World} {A : Option Addr} {c : Nat} {t : List S54} {H : ByteArray → List S54} {pb : Nat} (ht : Kd.C k54 w0 A t.length t) (hc : t.length ≤ c)
 (HC : ∀ (s : ByteArray) (W : World), Below w0.heap.size w0 W → Calls Try.prog 75 #[.string s, .pointer (some ⟨pb, 0, none⟩)] W fun e W' => ∃ v0 : Value, e = .returned v0 ∧ Kd.R k54 54 W' W.heap.size (fun _ => True) v0 (H s) ∧ Below W.heap.size W W') (k : Nat) : ∀ (i : Int) (vo : Value) (out : List S70) (r : List S70 × Int) (w : World), Below w0.heap.size w0 w → Kd.R k70 70 w w0.heap.size (fun _ => True) vo out → todoL H t k i out = some r →
 Calls Try.prog 63 #[.slice A t.length c, .int .i64 i, vo, .func (.func 75) #[] #[.pointer (some ⟨pb, 0, none⟩)]] w fun e w' => ∃ v0 : Value, e = .returned (.tuple #[v0, .int .i64 r.2]) ∧ Kd.R k70 70 w' w0.heap.size (fun _ => True) v0 r.1 ∧ Below w0.heap.size w0 w' ∧ KT 70 w w' := by
 induction k with
 | zero => intro i vo out r w hb ho h; simp [todoL] at h
 | succ k ih =>
  intro i vo out r w hb ho h
  have HT := Aside0.mk ht
  have IH := Aside0.mk ih
  have HHC := Aside0.mk HC
  obtain ⟨Ao, co, rfl⟩ := Kd.R_slice ho
  have HO := Aside0.mk ho
  have HB := Aside0.mk hb
  have HKT := Aside0.mk (KT.refl 70 w)
  have HM := Aside0.mk (show (t.length : Int) ≤ 9223372036854775807 by have := ht.2.1; omega)
  rw [todoL] at h
  by_cases hi : 0 ≤ i ∧ i < (t.length : Int)
  case neg => rw [if_neg hi] at h; cases h
  rw [if_pos hi] at h
  obtain ⟨ad, rfl, hx0, hx1⟩ := at_T54 (Kd.C_below ht hb) i hi.1 hi.2
  generalize rd_T54 t i = cc at hx0 hx1 h
  have hpp := eq_true hi.1
  have hqq := eq_true hi.2
  have hwr : wrap64 (i + 1) = i + 1 := by have := HM.out; unfold wrap64; omega
  have HX := Aside0.mk hi
  have H0 := Aside0.mk h
  clear ho hb ih ht h HC
  have HF := fun (W : World) (hW : Below w0.heap.size w0 W) => HHC.out cc.f0 W hW
  clear hi
  by_cases h1 : (H cc.f0).length > 0
  ·
   have h := H0.out
   rw [if_pos h1] at h
   by_cases h2 : out.length < 2513169434900
   case neg => rw [if_neg h2] at h; cases h
   rw [if_pos h2] at h
   obtain rfl := Option.some.inj h
   have HN := Aside0.mk h2
   have hd : decide (0 < ((H cc.f0).length : Int)) = true := decide_eq_true (by omega)
   have hd2 : decide (0 < (H cc.f0).length) = true := decide_eq_true h1
   have hp1 : 0 < (H cc.f0).length := h1
   clear h h2 H0
   generalize H cc.f0 = hv at HF hd hd2 h1 hp1 ⊢
   go_enter Try.func63, Try.ntmps63
   go_wp2_with (first | (go_at_call 75; (with_reducible refine (HF _ ?side1).mono ?_); (case side1 => exact (zq HB.out)); rintro e w1 ⟨v1, rfl, hr1, hb1⟩; obtain ⟨A1, c1, rfl⟩ := Kd.R_slice hr1; have HR1 := Aside0.mk (Kd.R_lower hr1 ((zq HB.out) : Below w0.heap.size w0 _).size); have n0_ := Aside0.mk (Kd.R_below (zr HO.out) hb1); have n1_ := Aside0.mk (below_trB (zq HB.out) (below_less hb1 ((zq HB.out) : Below w0.heap.size w0 _).size)); have n2_ := Aside0.mk (KT.below (KT.below HKT.out zg) hb1); clear HO HB HKT hr1 hb1; have HO := n0_; have HB := n1_; have HKT := n2_; clear n0_ n1_ n2_) | (at_builtin; (with_reducible refine gate_builtin (b := .append) (xs := #[.tmp 25, .tmp 28]) rfl ?_); refine Kd.R_append k70 (w0 := w0) w0.heap.size rfl (.tmp 25) (.tmp 28) 24 70 (.agg #[.int .i64 0, .string ⟨#[]⟩, .int .i64 0, .slice none 0 0]) 56 rfl Try.underlying24 info70 rfl (by decide) (by decide) (Value.slice Ao out.length co) out (⟨2, z54, hv⟩ : S70) [.int .i64 2, .string ⟨#[]⟩, .int .i64 0, .slice A1 hv.length c1] (fun _ => True) (fun k => True ∧ some k ≠ (Value.slice Ao out.length co).ownBlock) rfl rfl ?aP (fun _ hk => hk) (fun _ _ => trivial) ?aO ?aB ?aS ?aL ?_; (case aP => exact k70_mkM _ _ _ (⟨2, z54, hv⟩ : S70) (Kd.R_apartR (zr HR1.out) (show Kd.R k70 70 _ w0.heap.size (fun _ => True) (.slice Ao out.length co) out from (zr HO.out)) (by decide))); (case aO => exact (zr HO.out)); (case aB => exact (zq HB.out)); (case aS => exact (show Below w0.heap.size w0 _ from (zq HB.out)).size); (case aL => have := HN.out; omega); intro v2 w4 ho hb hgr hat; obtain ⟨A2_, c2_, rfl⟩ := Kd.R_slice ho; have HO2 := Aside0.mk ho; have HB2 := Aside0.mk hb; have hk_ : KT 70 w w4 := (by refine KT.grown (d := k70) (B := w0.heap.size) (ok := fun _ => True) (xs := out) ?_ ?_ hgr; exact (KT.below HKT.out zg); exact (zr HO.out)); have HK2 := Aside0.mk hk_; clear hk_; clear ho hb hgr hat))
   go_ret2
   exact ⟨_, rfl, by have h_ := HO2.out; simp only [List.length_append, List.length_cons, List.length_nil, Nat.zero_add] at h_; exact h_, HB2.out, HK2.out⟩
  ·
   have h := H0.out
   rw [if_neg h1] at h
   by_cases h4 : cc.f1 ≤ 4
   case neg => rw [if_neg h4] at h; cases h
   rw [if_pos h4] at h
   have HAR := Aside0.mk h4
   clear h4
   obtain ⟨⟨out', i'⟩, hn, h⟩ := Option.bind_eq_some_iff.mp h
   by_cases h2 : out'.length < 2513169434900
   case neg => rw [if_neg h2] at h; cases h
   rw [if_pos h2] at h
   obtain rfl := Option.some.inj h
   have HN := Aside0.mk h2
   have HH := Aside0.mk hn
   have hd : decide (0 < ((H cc.f0).length : Int)) = false := decide_eq_false (by omega)
   have hd2 : decide (0 < (H cc.f0).length) = false := decide_eq_false h1
   have hp1 : (H cc.f0).length = 0 := by omega
   clear h h2 H0 hn
   generalize hgv : H cc.f0 = hv at HF hd hd2 h1 hp1
   obtain rfl : hv = [] := List.eq_nil_of_length_eq_zero hp1
   clear h1 hp1 hgv
   go_enter Try.func63, Try.ntmps63
   go_wp2_with (first | (go_at_call 75; (with_reducible refine (HF _ ?side1).mono ?_); (case side1 => exact (zq HB.out)); rintro e w1 ⟨v1, rfl, hr1, hb1⟩; obtain ⟨A1, c1, rfl⟩ := Kd.R_slice hr1; have n0_ := Aside0.mk (Kd.R_below (zr HO.out) hb1); have n1_ := Aside0.mk (below_trB (zq HB.out) (below_less hb1 ((zq HB.out) : Below w0.heap.size w0 _).size)); have hk1 := pw_cell_below hb1 ((blk_cell (heap_alloc_new w (.cells #[.string cc.f0, .int .i64 cc.f1] 54)) 0).trans rfl); have hk2 := pw_cell_below hb1 ((blk_cell (heap_alloc_new w (.cells #[.string cc.f0, .int .i64 cc.f1] 54)) 1).trans rfl); have HK := Aside0.mk (hb1.block w.heap.size (by simp)); have n2_ := Aside0.mk (KT.below (KT.below HKT.out zg) hb1); clear HO HB HKT hr1 hb1; have HO := n0_; have HB := n1_; have HKT := n2_; clear n0_ n1_ n2_))
   go_loopg [1, 2, 33] cc.f1.toNat (fun kq v1 v2 v33 w' => ∃ (j a : Int) (o : List S70) (Ao2 : Option Addr) (co2 : Nat), v1 = .int .i64 a ∧ v2 = .slice Ao2 o.length co2 ∧ v33 = .int .i64 j ∧ Aside0 (0 ≤ j ∧ j + kq = (cc.f1.toNat : Int)) ∧ Aside0 (todoN (todoL H t k) kq a o = some (out', i')) ∧ Aside0 (Kd.R k70 70 w' w0.heap.size (fun _ => True) (.slice Ao2 o.length co2) o) ∧ Aside0 (Below w0.heap.size w0 w') ∧ Aside0 (KT 70 w w') ∧ Aside0 (w'.heap[w.heap.size]? = some (.cells #[.string cc.f0, .int .i64 cc.f1] 54 (0, 0))))
   case atStart => exact ⟨0, i + 1, out, _, _, rfl, rfl, rfl, ⟨by omega⟩, HH, HO, HB, HKT, ⟨HK.out.trans (heap_alloc_new w _)⟩⟩
   case round =>
    clear HO HB HKT HH HK hk1 hk2
    obtain ⟨j, a, o, Ao2, co2, rfl, rfl, rfl, HI, HH, HO, HB, HKT, HK⟩ := hrel
    cases gk with
    | succ k1 =>
     have hj : 0 ≤ j ∧ j < cc.f1 := by have := HI.out; omega
     have hd3 : decide (j < cc.f1) = true := decide_eq_true hj.2
     have HJ := Aside0.mk hj
     have h := HH.out
     rw [todoN] at h
     obtain ⟨⟨o2, a2⟩, hf, h⟩ := Option.bind_eq_some_iff.mp h
     have HH2 := Aside0.mk h
     have I1 := fun (W : World) (hW : Below w0.heap.size w0 W) (hr : Kd.R k70 70 W w0.heap.size (fun _ => True) (.slice Ao2 o.length co2) o) => IH.out a _ o _ W hW hr hf
     have hjw : wrap64 (j + 1) = j + 1 := by
      have := HAR.out
      unfold wrap64; omega
     clear h hf hj
     go_wp2_with (first | (go_at_call 63; (with_reducible refine (I1 _ ?side1 ?side2).mono ?_); (case side1 => exact (zq HB.out)); (case side2 => exact (zr HO.out)); rintro e w2 ⟨v2, rfl, hr2, hb2, hk2⟩; obtain ⟨A2, c2, rfl⟩ := Kd.R_slice hr2; have HO2 := Aside0.mk hr2; have HB2 := Aside0.mk hb2; have HKT2 := Aside0.mk (KT.trans (KT.below HKT.out zg) hk2); have HK2 := Aside0.mk (KT.blk hk2 HK.out (by decide)); clear hr2 hb2 hk2))
     go_roundg k1
     case measure => have := HI.out; omega
     case rel => exact ⟨j + 1, a2, o2, _, _, rfl, rfl, by first | rfl | rw [hjw], ⟨by have := HI.out; have := HJ.out; omega⟩, HH2, HO2, HB2, HKT2, HK2⟩
    | zero =>
     have hj : ¬ j < cc.f1 := by have := HI.out; omega
     have hd3 : decide (j < cc.f1) = false := decide_eq_false hj
     have h := HH.out
     rw [todoN] at h
     obtain ⟨rfl, rfl⟩ := Prod.mk.inj (Option.some.inj h)
     have hk3 := (blk_cell HK.out 0).trans rfl
     have hk4 := (blk_cell HK.out 1).trans rfl
     clear h hj HH
     go_wp2_with (first | (at_builtin; (with_reducible refine gate_builtin (b := .append) (xs := #[.tmp 44, .tmp 47]) rfl ?_); refine Kd.R_append k70 (w0 := w0) w0.heap.size rfl (.tmp 44) (.tmp 47) 24 70 (.agg #[.int .i64 0, .string ⟨#[]⟩, .int .i64 0, .slice none 0 0]) 56 rfl Try.underlying24 info70 rfl (by decide) (by decide) (Value.slice Ao2 o.length co2) o (⟨1, cc, []⟩ : S70) [.int .i64 1, .string cc.f0, .int .i64 cc.f1, .slice none 0 0] (fun _ => True) (fun k => True ∧ some k ≠ (Value.slice Ao2 o.length co2).ownBlock) rfl rfl ?aP (fun _ hk => hk) (fun _ _ => trivial) ?aO ?aB ?aS ?aL ?_; (case aP => exact k70_mkM _ _ _ (⟨1, cc, []⟩ : S70) (Kd.R_nil _ _ _ _ _)); (case aO => exact (zr HO.out)); (case aB => exact (zq HB.out)); (case aS => exact (show Below w0.heap.size w0 _ from (zq HB.out)).size); (case aL => have := HN.out; omega); intro v2 w4 ho hb hgr hat; obtain ⟨A2_, c2_, rfl⟩ := Kd.R_slice ho; have HO2 := Aside0.mk ho; have HB2 := Aside0.mk hb; have hk_ : KT 70 w w4 := (by refine KT.grown (d := k70) (B := w0.heap.size) (ok := fun _ => True) (xs := o) ?_ ?_ hgr; exact (KT.below HKT.out zg); exact (zr HO.out)); have HK2 := Aside0.mk hk_; clear hk_; clear ho hb hgr hat))
     go_ret2
     exact ⟨_, rfl, by have h_ := HO2.out; simp only [List.length_append, List.length_cons, List.length_nil, Nat.zero_add] at h_; exact h_, HB2.out, HK2.out⟩

-- ==== Rw4
def Turning (xs cur : List S70) (i j : Int) : Prop := cur.length = xs.length ∧ ∀ m : Nat, m < xs.length → cur[m]? = if (m : Int) < i ∨ (m : Int) > j then xs[xs.length - 1 - m]? else xs[m]?
theorem turning_done {xs cur : List S70} {i j : Int} (h : Turning xs cur i j) (hij : i + j = (xs.length : Int) - 1) (hd : ¬ i < j) : cur = xs.reverse := by
 apply List.ext_getElem?
 intro m
 rcases Nat.lt_or_ge m xs.length with hm | hm
 ·
  rw [h.2 m hm, List.getElem?_reverse hm]
  split
  ·
   rfl
  ·
   rename_i hn
   have : m = xs.length - 1 - m := by omega
   rw [← this]
 ·
  rw [List.getElem?_eq_none (by rw [h.1]; exact hm), List.getElem?_eq_none (by simpa using hm)]
theorem turning_step {xs cur : List S70} {i j : Int} (h : Turning xs cur i j) (hij : i + j = (xs.length : Int) - 1) (h0 : 0 ≤ i) (hd : i < j) :
 Turning xs ((cur.set i.toNat (rd_T70 cur j)).set j.toNat (rd_T70 cur i)) (i + 1) (j - 1) := by
 refine ⟨by simp [h.1], fun m hm => ?_⟩
 have hl := h.1
 have hi : i.toNat < cur.length := by omega
 have hj : j.toNat < cur.length := by omega
 have hri : some (rd_T70 cur i) = xs[xs.length - 1 - j.toNat]? := by
  have := h.2 i.toNat (by omega)
  rw [if_neg (by omega)] at this
  rw [show xs.length - 1 - j.toNat = i.toNat by omega, ← this]
  simp [rd_T70, List.getD_eq_getElem?_getD, hi]
 have hrj : some (rd_T70 cur j) = xs[xs.length - 1 - i.toNat]? := by
  have := h.2 j.toNat (by omega)
  rw [if_neg (by omega)] at this
  rw [show xs.length - 1 - i.toNat = j.toNat by omega, ← this]
  simp [rd_T70, List.getD_eq_getElem?_getD, hj]
 by_cases e1 : m = j.toNat
 ·
  subst e1
  rw [List.getElem?_set_self (by simpa using hj), if_pos (by omega)]
  exact hri
 ·
  rw [List.getElem?_set_ne (Ne.symm e1)]
  by_cases e2 : m = i.toNat
  ·
   subst e2
   rw [List.getElem?_set_self hi, if_pos (by omega)]
   exact hrj
  ·
   rw [List.getElem?_set_ne (Ne.symm e2), h.2 m hm]
   by_cases c : (m : Int) < i ∨ (m : Int) > j
   ·
    rw [if_pos c, if_pos (by omega)]
   ·
    rw [if_neg c, if_neg (by omega)]
theorem rev_calls {B : Nat} {w : World} {A : Option Addr} {c : Nat} {xs : List S70} (hr : Kd.R k70 70 w B (fun _ => True) (.slice A xs.length c) xs) :
 Calls Try.prog 64 #[.slice A xs.length c] w fun e w' => e = .returned (.tuple #[]) ∧ Kd.R k70 70 w' B (fun _ => True) (.slice A xs.length c) xs.reverse ∧ Below B w w' ∧ KT 70 w w' := by
 have HO := Aside0.mk hr
 have HB := Aside0.mk (Below.refl B w)
 have HKT := Aside0.mk (KT.refl 70 w)
 have HM := Aside0.mk (show (xs.length : Int) ≤ 9223372036854775807 by have := (Kd.R_reads' hr).2.2.2.1; omega)
 have hw0 : wrap64 ((xs.length : Int) - 1) = (xs.length : Int) - 1 := by have := HM.out; unfold wrap64; omega
 clear hr
 go_enter Try.func64, Try.ntmps64
 go_wp2
 go_loopg [2, 3] (xs.length / 2) (fun kq v2 v3 w' => ∃ (i j : Int) (cur : List S70), v2 = .int .i64 i ∧ v3 = .int .i64 j ∧ Aside0 (0 ≤ i ∧ i + j = (xs.length : Int) - 1 ∧ (kq : Int) = (j - i + 1) / 2 ∧ i ≤ j + 1) ∧ Aside0 (Turning xs cur i j) ∧ Aside0 (Kd.R k70 70 w' B (fun _ => True) (.slice A xs.length c) cur) ∧ Aside0 (Below B w w') ∧ Aside0 (KT 70 w w'))
 case atStart => exact ⟨0, (xs.length : Int) - 1, xs, rfl, by first | rfl | rw [hw0], ⟨by omega⟩, ⟨rfl, fun m hm => by rw [if_neg (by omega)]⟩, HO, HB, HKT⟩
 case round =>
  clear HO HB HKT hw0
  obtain ⟨i, j, cur, rfl, rfl, HI, HT, HO, HB, HKT⟩ := hrel
  cases gk with
  | succ k1 =>
   have hi : 0 ≤ i ∧ i < j ∧ j < (xs.length : Int) ∧ i < (xs.length : Int) ∧ 0 ≤ j := by have := HI.out; omega
   have hcl := HT.out.1
   obtain ⟨g, cap, eg, hge, hgl, _⟩ := Kd.R_form HO.out (by omega)
   injection eg with ea el ec
   clear el
   subst ea ec
   obtain ⟨ci, hcli, hMi, hcci, hfri⟩ := Kd.R_elem HO.out z70 i hi.1 (by omega)
   obtain ⟨vi, rfl, hRi⟩ := k70_openM hMi
   obtain ⟨Ai, di, rfl⟩ := Kd.R_slice hRi
   obtain ⟨cj, hclj, hMj, hccj, hfrj⟩ := Kd.R_elem HO.out z70 j hi.2.2.2.2 (by omega)
   obtain ⟨vj, rfl, hRj⟩ := k70_openM hMj
   obtain ⟨Aj, dj, rfl⟩ := Kd.R_slice hRj
   have HEI := Aside0.mk (show Kd.M k70 wr B (fun k => True ∧ k ≠ g) (rd_T70 cur i) [.int .i64 (rd_T70 cur i).f0, .string (rd_T70 cur i).f1.f0, .int .i64 (rd_T70 cur i).f1.f1, .slice Ai (rd_T70 cur i).f2.length di] from hMi)
   have HEJ := Aside0.mk (show Kd.M k70 wr B (fun k => True ∧ k ≠ g) (rd_T70 cur j) [.int .i64 (rd_T70 cur j).f0, .string (rd_T70 cur j).f1.f0, .int .i64 (rd_T70 cur j).f1.f1, .slice Aj (rd_T70 cur j).f2.length dj] from hMj)
   have i0 : wr.cell? ⟨g, i.toNat * 4, none⟩ = some (.int .i64 (rd_T70 cur i).f0) := hcci 0 _ rfl
   have i1 : wr.cell? ⟨g, i.toNat * 4 + 1, none⟩ = some (.string (rd_T70 cur i).f1.f0) := hcci 1 _ rfl
   have i2 : wr.cell? ⟨g, i.toNat * 4 + 2, none⟩ = some (.int .i64 (rd_T70 cur i).f1.f1) := hcci 2 _ rfl
   have i3 : wr.cell? ⟨g, i.toNat * 4 + 3, none⟩ = some (.slice Ai (rd_T70 cur i).f2.length di) := hcci 3 _ rfl
   have j0 : wr.cell? ⟨g, j.toNat * 4, none⟩ = some (.int .i64 (rd_T70 cur j).f0) := hccj 0 _ rfl
   have j1 : wr.cell? ⟨g, j.toNat * 4 + 1, none⟩ = some (.string (rd_T70 cur j).f1.f0) := hccj 1 _ rfl
   have j2 : wr.cell? ⟨g, j.toNat * 4 + 2, none⟩ = some (.int .i64 (rd_T70 cur j).f1.f1) := hccj 2 _ rfl
   have j3 : wr.cell? ⟨g, j.toNat * 4 + 3, none⟩ = some (.slice Aj (rd_T70 cur j).f2.length dj) := hccj 3 _ rfl
   have HCI := Aside0.mk (show ∀ (q : Nat) (u : Value), [Value.int .i64 (rd_T70 cur i).f0, .string (rd_T70 cur i).f1.f0, .int .i64 (rd_T70 cur i).f1.f1, .slice Ai (rd_T70 cur i).f2.length di][q]? = some u → wr.cell? ⟨g, i.toNat * 4 + q, none⟩ = some u from hcci)
   have HFI := Aside0.mk hfri
   have HFJ := Aside0.mk hfrj
   have HX := Aside0.mk hi
   have HGB := Aside0.mk (show B ≤ g ∧ g < wr.heap.size from ⟨hge, hgl⟩)
   have HLEN := Aside0.mk hcl
   have hb0 : decide (i < j) = true := decide_eq_true hi.2.1
   have t0 := eq_true hi.1
   have t1 := eq_true hi.2.2.1
   have t2 := eq_true hi.2.2.2.1
   have t3 := eq_true hi.2.2.2.2
   have f0 : ∀ b, wr.frozen? ⟨g, b, none⟩ = false := fun b => by
    obtain ⟨cells, hc⟩ := Kd.R_typed HO.out g (by simp [Value.ownBlock])
    exact blk_frozen hc b
   clear hcci hccj hfri hfrj hMi hMj hRi hRj hcli hclj hcl hi
   obtain ⟨ei, hei⟩ : ∃ ei, ei = rd_T70 cur i := ⟨_, rfl⟩
   obtain ⟨ej, hej⟩ : ∃ ej, ej = rd_T70 cur j := ⟨_, rfl⟩
   rw [← hei] at i0 i1 i2 i3 HEI HCI
   rw [← hej] at j0 j1 j2 j3 HEJ
   have HEI2 := Aside0.mk hei.symm
   have HEJ2 := Aside0.mk hej.symm
   clear hei hej
   have hn1 : ¬ (i.toNat = j.toNat) := by have := HX.out; omega
   have hn2 : ¬ (j.toNat = i.toNat) := by have := HX.out; omega
   go_wp2
   go_region
   have s1 := Kd.R_seg (okp := fun k => True ∧ k ≠ g) HO.out i HX.out.1 HX.out.2.2.2.1 (seg := [.int .i64 ej.f0, .string ej.f1.f0, .int .i64 ej.f1.f1, .slice Aj ej.f2.length dj]) (j := 0) rfl HCI.out (Nat.le_refl 4) (x' := ej) HEJ.out (fun _ hk => hk)
   obtain ⟨c2, hcl2, _, hcc2, _⟩ := Kd.R_elem s1.1 z70 j HX.out.2.2.2.2 HX.out.2.2.1
   have s2 := Kd.R_seg (okp := fun k => True ∧ k ≠ g) s1.1 j HX.out.2.2.2.2 HX.out.2.2.1 (seg := [.int .i64 ei.f0, .string ei.f1.f0, .int .i64 ei.f1.f1, .slice Ai ei.f2.length di]) (j := 0) hcl2 hcc2 (Nat.le_refl 4) (x' := ei) (by
    have e_ : c2.drop (0 + 4) = [] := List.drop_eq_nil_of_le (by rw [hcl2]; exact Nat.le_refl 4)
    rw [show (0 : Nat) + [Value.int .i64 ei.f0, .string ei.f1.f0, .int .i64 ei.f1.f1, .slice Ai ei.f2.length di].length = 0 + 4 from rfl, e_]
    rw [List.append_nil]
    exact Kd.M_grown HEI.out s1.2 (fun k hk he => hk.2 (by injection he))) (fun _ hk => hk)
   have HO2 := Aside0.mk (Kd.R_drew s2.1)
   have HGR := Aside0.mk (World.grownBy.trans s1.2 s2.2)
   have HK2 := Aside0.mk (KT.drew (KT.grown HKT.out HO.out (by simpa [Value.ownBlock] using HGR.out)))
   have HB2 := Aside0.mk (below_drew1 (HB.out.grown HGR.out (Nat.le_trans HGB.out.1 (Nat.le_of_lt HGB.out.2)) (fun k hk => by injection hk with hk; rw [← hk]; exact HGB.out.1)))
   clear s1 s2 hcl2 hcc2
   go_wp2
   go_roundg k1
   case measure => have := HI.out; omega
   case rel => exact ⟨i + 1, j - 1, _, by have e_ : wrap64 (i + 1) = i + 1 := (by have := HX.out; have := HM.out; unfold wrap64; omega); first | rfl | rw [e_] | (simp [e_]; done), by have e_ : wrap64 (j - 1) = j - 1 := (by have := HX.out; have := HM.out; unfold wrap64; omega); first | rfl | rw [e_] | (simp [e_]; done), ⟨by have := HI.out; omega⟩, ⟨turning_step HT.out HI.out.2.1 HX.out.1 HX.out.2.1⟩, by rw [HEI2.out, HEJ2.out]; exact HO2, HB2, HK2⟩
  | zero =>
   have hb0 : decide (i < j) = false := decide_eq_false (by have := HI.out; omega)
   have hcx := turning_done HT.out HI.out.2.1 (by have := HI.out; omega)
   subst hcx
   go_wp2
   (first | refine bodyPost_ret (results_none rfl _ _ _) rfl ?_ | refine bodyPost_end (results_none rfl _ _ _) rfl ?_)
   exact ⟨rfl, HO.out, HB.out, HKT.out⟩

-- ==== Rw5
theorem set4_blk {W : World} {b : Nat} {a1 a2 a3 a4 : Value} (h : W.heap[b]? = some (.cells #[a1, a2, a3, a4] 28 (0, 0))) (b1 b2 b3 b4 : Value) :
 ((((W.setCell ⟨b, 0, none⟩ b1).setCell ⟨b, 1, none⟩ b2).setCell ⟨b, 2, none⟩ b3).setCell ⟨b, 3, none⟩ b4).heap[b]? = some (.cells #[b1, b2, b3, b4] 28 (0, 0)) := by
 refine blk_put (cs := #[b1, b2, b3, a4]) ?_ 3 _ rfl
 refine blk_put (cs := #[b1, b2, a3, a4]) ?_ 2 _ rfl
 refine blk_put (cs := #[b1, a2, a3, a4]) ?_ 1 _ rfl
 exact blk_put (cs := #[a1, a2, a3, a4]) h 0 _ rfl
theorem set4_R {α : Type} {d : Kd α} {e B b : Nat} {ok : Nat → Prop} {W : World} {v : Value} {xs : List α} {cs : Array Value} (h : d.R e W B ok v xs) (hb : W.heap[b]? = some (.cells cs 28 (0, 0))) (ht : ∀ q, q ∈ e :: d.E → q ≠ 28) (b1 b2 b3 b4 : Value) :
 d.R e ((((W.setCell ⟨b, 0, none⟩ b1).setCell ⟨b, 1, none⟩ b2).setCell ⟨b, 2, none⟩ b3).setCell ⟨b, 3, none⟩ b4) B ok v xs :=
 Kd.R_mono (Kd.R_far (p := ⟨b, 3, none⟩) (Kd.R_far (p := ⟨b, 2, none⟩) (Kd.R_far (p := ⟨b, 1, none⟩) (Kd.R_far (p := ⟨b, 0, none⟩) (Kd.R_types h hb ht) (fun _ hk => hk.2) _) (fun _ hk => hk.2) _) (fun _ hk => hk.2) _) (fun _ hk => hk.2) _) (fun _ hk => hk.1)
theorem set4_below {B b : Nat} {w W : World} (h : Below B w W) (hb : B ≤ b) (b1 b2 b3 b4 : Value) : Below B w ((((W.setCell ⟨b, 0, none⟩ b1).setCell ⟨b, 1, none⟩ b2).setCell ⟨b, 2, none⟩ b3).setCell ⟨b, 3, none⟩ b4) :=
 (((h.setCell (p := ⟨b, 0, none⟩) hb _).setCell (p := ⟨b, 1, none⟩) hb _).setCell (p := ⟨b, 2, none⟩) hb _).setCell (p := ⟨b, 3, none⟩) hb _
def StEnd (B : Nat) (w' : World) (v0 v1 v3 : Value) (ops : List S70) (vals : List (List S54)) (hd : List ByteArray) : Prop :=
 Kd.N k70 70 w' B (fun k_ => (B ≤ k_) ∧ some k_ ≠ (v1 : Value).ownBlock ∧ some k_ ≠ (v3 : Value).ownBlock) v0 ops ∧ Kd.N (Kd.slice 54 k54) 23 w' B (fun k_ => (B ≤ k_) ∧ some k_ ≠ (v0 : Value).ownBlock ∧ some k_ ≠ (v3 : Value).ownBlock) v1 vals ∧ Kd.R Kd.string 9 w' B (fun k_ => (B ≤ k_)) v3 hd
theorem stEnd_of {B : Nat} {w' : World} {v0 v1 v3 : Value} {ops : List S70} {vals : List (List S54)} {hd : List ByteArray} (h0 : Kd.R k70 70 w' B (fun _ => True) v0 ops) (h1 : Kd.R (Kd.slice 54 k54) 23 w' B (fun _ => True) v1 vals) (h3 : Kd.R Kd.string 9 w' B (fun _ => True) v3 hd) : StEnd B w' v0 v1 v3 ops vals hd :=
 ⟨Kd.N_mono (Kd.R_N (Kd.R_bound (Kd.R_apartR (Kd.R_apartR h0 h1 (by decide)) h3 (by decide)))) (fun k hk => ⟨hk.2.1, hk.1.1.2, hk.1.2⟩),
  Kd.N_mono (Kd.R_N (Kd.R_bound (Kd.R_apartR (Kd.R_apartR h1 h0 (by decide)) h3 (by decide)))) (fun k hk => ⟨hk.2.1, hk.1.1.2, hk.1.2⟩),
  Kd.R_mono (Kd.R_bound h3) (fun k hk => hk.2.1)⟩
theorem stEnd_nil (B : Nat) (w' : World) : StEnd B w' (.slice none 0 0) (.slice none 0 0) (.slice none 0 0) [] [] [] := stEnd_of (Kd.R_nil _ _ _ _ _) (Kd.R_nil _ _ _ _ _) (Kd.R_nil _ _ _ _ _)

theorem ops_calls0 {w : World} {A : Option Addr} {c k : Nat} {t : List S54} {H : ByteArray → List S54} {out : List S70} {i : Int} (ht : Kd.C k54 w A t.length t) (hc : t.length ≤ c)
 (HC : ∀ (s : ByteArray) (W : World), Below w.heap.size w W → Calls Try.prog 33 #[.string s] W fun e W' => ∃ v0 : Value, e = .returned v0 ∧ Kd.R k54 54 W' W.heap.size (fun _ => True) v0 (H s) ∧ Below W.heap.size W W') (h : todoL H t k 0 [] = some (out, i)) :
 Calls Try.prog 32 #[.slice A t.length c, .func (.func 33) #[] #[]] w fun e w' => ∃ v0 : Value, e = .returned v0 ∧ Kd.R k70 70 w' w.heap.size (fun _ => True) v0 out.reverse ∧ Below w.heap.size w w' := by
 have T1 := todo_calls0 ht hc HC k 0 (.slice none 0 0) [] (out, i) w (Below.refl _ _) (Kd.R_nil _ _ _ _ _) h
 clear ht hc HC h
 go_enter Try.func32, Try.ntmps32
 go_wp2_with (first | (go_at_call 63; (with_reducible refine T1.mono ?_); rintro e w1 ⟨v1, rfl, hr1, hb1, _⟩; obtain ⟨A1, c1, rfl⟩ := Kd.R_slice hr1; have HR1 := Aside0.mk hr1; have HB1 := Aside0.mk hb1; have V1 := rev_calls hr1; clear hr1 hb1) | (go_at_call 64; (with_reducible refine V1.mono ?_); rintro e w2 ⟨rfl, hr2, hb2, _⟩; have HR2 := Aside0.mk hr2; have HB2 := Aside0.mk (below_trB HB1.out hb2); clear hr2 hb2))
 go_ret
 exact ⟨_, rfl, HR2.out, HB2.out⟩

theorem ops_calls1 {w : World} {A : Option Addr} {c k : Nat} {t : List S54} {H : ByteArray → List S54} {out : List S70} {i : Int} {pb : Nat} (ht : Kd.C k54 w A t.length t) (hc : t.length ≤ c)
 (HC : ∀ (s : ByteArray) (W : World), Below w.heap.size w W → Calls Try.prog 75 #[.string s, .pointer (some ⟨pb, 0, none⟩)] W fun e W' => ∃ v0 : Value, e = .returned v0 ∧ Kd.R k54 54 W' W.heap.size (fun _ => True) v0 (H s) ∧ Below W.heap.size W W') (h : todoL H t k 0 [] = some (out, i)) :
 Calls Try.prog 32 #[.slice A t.length c, .func (.func 75) #[] #[.pointer (some ⟨pb, 0, none⟩)]] w fun e w' => ∃ v0 : Value, e = .returned v0 ∧ Kd.R k70 70 w' w.heap.size (fun _ => True) v0 out.reverse ∧ Below w.heap.size w w' := by
 have T1 := todo_calls1 ht hc HC k 0 (.slice none 0 0) [] (out, i) w (Below.refl _ _) (Kd.R_nil _ _ _ _ _) h
 clear ht hc HC h
 go_enter Try.func32, Try.ntmps32
 go_wp2_with (first | (go_at_call 63; (with_reducible refine T1.mono ?_); rintro e w1 ⟨v1, rfl, hr1, hb1, _⟩; obtain ⟨A1, c1, rfl⟩ := Kd.R_slice hr1; have HR1 := Aside0.mk hr1; have HB1 := Aside0.mk hb1; have V1 := rev_calls hr1; clear hr1 hb1) | (go_at_call 64; (with_reducible refine V1.mono ?_); rintro e w2 ⟨rfl, hr2, hb2, _⟩; have HR2 := Aside0.mk hr2; have HB2 := Aside0.mk (below_trB HB1.out hb2); clear hr2 hb2))
 go_ret
 exact ⟨_, rfl, HR2.out, HB2.out⟩

theorem rwst1_calls (s : ByteArray) (W : World) : Calls Try.prog 33 #[.string s] W fun e W' => ∃ v0 : Value, e = .returned v0 ∧ Kd.R k54 54 W' W.heap.size (fun _ => True) v0 ((fun _ => []) s) ∧ Below W.heap.size W W' := by
 go_enter Try.func33, Try.ntmps33
 go_wp2
 go_ret
 exact ⟨_, rfl, Kd.R_nil _ _ _ _ _, Below.refl _ _⟩
def startF (k : Nat) (t : List S54) : Option (List S70 × List (List S54) × Int × List ByteArray × Int) :=
 (term_Check.f k t).bind fun e => if e = 0 then ((rewrite_ground.f k t).bind fun g => if g = true then ((todoL (fun _ => []) t k 0 []).bind fun r => some (r.1.reverse, [], 0, [], 0)) else some ([], [], 0, [], 7)) else some ([], [], 0, [], e)
theorem start_calls (k : Nat) (A : Option Addr) (c : Nat) (t : List S54) (r1 : List S70) (r2 : List (List S54)) (r3 : Int) (r4 : List ByteArray) (r5 : Int) (w : World) (ht : Kd.C k54 w A t.length t) (hc : t.length ≤ c) (h : startF k t = some (r1, r2, r3, r4, r5)) :
 Calls Try.prog 12 #[.slice A t.length c] w fun e w' => ∃ v0 v1 v3 : Value, e = .returned (.tuple #[.agg #[v0, v1, .int .i64 r3, v3], .int .i64 r5]) ∧ StEnd w.heap.size w' v0 v1 v3 r1 r2 r4 ∧ Below w.heap.size w w' := by
 unfold startF at h
 obtain ⟨e, he, h⟩ := Option.bind_eq_some_iff.mp h
 have T1 := fun W (hW : Below w.heap.size w W) => term_Check.calls k A c t e W (Kd.C_below ht hW) hc he
 have HB := Aside0.mk (Below.refl w.heap.size w)
 clear he
 by_cases c0 : e = 0
 case neg =>
  rw [if_neg c0] at h
  simp only [Option.some.injEq, Prod.mk.injEq] at h
  obtain ⟨rfl, rfl, rfl, rfl, rfl⟩ := h
  have d0 : (e != 0) = true := bne_iff_ne.mpr c0
  clear c0 ht
  go_enter Try.func12, Try.ntmps12
  go_wp2_with (first | (go_at_call 30; (with_reducible refine (T1 _ ?side1).mono ?_); (case side1 => exact (zq HB.out)); rintro e w1 ⟨rfl, hb⟩; have hz := (hb.block w.heap.size (by simp)).trans (heap_alloc_new w _); obtain ⟨q0, q1, q2, q3⟩ := zc4 hz; obtain ⟨f0, f1, f2, f3⟩ := zf4 hz; have HK := Aside0.mk hz; have n0_ := Aside0.mk (below_step (below_alloc HB.out _) hb); clear HB hb hz; have HB := n0_; clear n0_))
  refine bodyPost_ret (results_ct rfl _ _ w.heap.size 28 _ (0, 0) _ rfl (set4_blk HK.out _ _ _ _) Try.underlying28 rfl (by kernel_rfl)) rfl ?_
  exact ⟨_, _, _, rfl, stEnd_nil _ _, set4_below HB.out (Nat.le_refl _) _ _ _ _⟩
 case pos =>
  subst c0
  rw [if_pos rfl] at h
  obtain ⟨g, hg, h⟩ := Option.bind_eq_some_iff.mp h
  have G1 := fun W (hW : Below w.heap.size w W) => rewrite_ground.calls k A c t g W (Kd.C_below ht hW) hc hg
  clear hg
  by_cases c1 : g = true
  case neg =>
   rw [if_neg c1] at h
   simp only [Option.some.injEq, Prod.mk.injEq] at h
   obtain ⟨rfl, rfl, rfl, rfl, rfl⟩ := h
   obtain rfl : g = false := by simpa using c1
   clear c1 ht
   go_enter Try.func12, Try.ntmps12
   go_wp2_with (first | (go_at_call 30; (with_reducible refine (T1 _ ?side1).mono ?_); (case side1 => exact (zq HB.out)); rintro e w1 ⟨rfl, hb⟩; have hz := (hb.block w.heap.size (by simp)).trans (heap_alloc_new w _); obtain ⟨q0, q1, q2, q3⟩ := zc4 hz; obtain ⟨f0, f1, f2, f3⟩ := zf4 hz; have HK := Aside0.mk hz; have n0_ := Aside0.mk (below_step (below_alloc HB.out _) hb); clear HB hb hz; have HB := n0_; clear n0_) | (go_at_call 31; (with_reducible refine (G1 _ ?side2).mono ?_); (case side2 => exact (zq HB.out)); rintro e w2 ⟨rfl, hb⟩; have hz := (hb.block w.heap.size (blk_lt HK.out)).trans HK.out; clear HK q0 q1 q2 q3 f0 f1 f2 f3; obtain ⟨q0, q1, q2, q3⟩ := zc4 hz; obtain ⟨f0, f1, f2, f3⟩ := zf4 hz; have HK := Aside0.mk hz; have n0_ := Aside0.mk (below_step HB.out hb); clear HB hb hz; have HB := n0_; clear n0_))
   refine bodyPost_ret (results_ct rfl _ _ w.heap.size 28 _ (0, 0) _ rfl (set4_blk HK.out _ _ _ _) Try.underlying28 rfl (by kernel_rfl)) rfl ?_
   exact ⟨_, _, _, rfl, stEnd_nil _ _, set4_below HB.out (Nat.le_refl _) _ _ _ _⟩
  case pos =>
   subst c1
   rw [if_pos rfl] at h
   obtain ⟨⟨out, i⟩, ho, h⟩ := Option.bind_eq_some_iff.mp h
   simp only [Option.some.injEq, Prod.mk.injEq] at h
   obtain ⟨rfl, rfl, rfl, rfl, rfl⟩ := h
   have O1 := fun W (hW : Below w.heap.size w W) => ops_calls0 (w := W) (c := c) (Kd.C_below ht hW) hc (fun s W2 _ => rwst1_calls s W2) ho
   clear ho ht
   go_enter Try.func12, Try.ntmps12
   go_wp2_with (first | (go_at_call 30; (with_reducible refine (T1 _ ?side1).mono ?_); (case side1 => exact (zq HB.out)); rintro e w1 ⟨rfl, hb⟩; have hz := (hb.block w.heap.size (by simp)).trans (heap_alloc_new w _); obtain ⟨q0, q1, q2, q3⟩ := zc4 hz; obtain ⟨f0, f1, f2, f3⟩ := zf4 hz; have HK := Aside0.mk hz; have n0_ := Aside0.mk (below_step (below_alloc HB.out _) hb); clear HB hb hz; have HB := n0_; clear n0_) | (go_at_call 31; (with_reducible refine (G1 _ ?side2).mono ?_); (case side2 => exact (zq HB.out)); rintro e w2 ⟨rfl, hb⟩; have hz := (hb.block w.heap.size (blk_lt HK.out)).trans HK.out; clear HK q0 q1 q2 q3 f0 f1 f2 f3; obtain ⟨q0, q1, q2, q3⟩ := zc4 hz; obtain ⟨f0, f1, f2, f3⟩ := zf4 hz; have HK := Aside0.mk hz; have n0_ := Aside0.mk (below_step HB.out hb); clear HB hb hz; have HB := n0_; clear n0_) | (go_at_call 32; (with_reducible refine (O1 _ ?side3).mono ?_); (case side3 => exact (zq HB.out)); rintro e w3 ⟨v3, rfl, hr, hb⟩; obtain ⟨A3, c3, rfl⟩ := Kd.R_slice hr; have h3 := Kd.R_lower hr HB.out.size; rw [List.length_reverse] at h3; have HR3 := Aside0.mk h3; clear h3; have hz := (hb.block w.heap.size (blk_lt HK.out)).trans HK.out; clear HK q0 q1 q2 q3 f0 f1 f2 f3; obtain ⟨q0, q1, q2, q3⟩ := zc4 hz; obtain ⟨f0, f1, f2, f3⟩ := zf4 hz; have HK := Aside0.mk hz; have n0_ := Aside0.mk (below_step HB.out hb); clear HB hb hz hr; have HB := n0_; clear n0_))
   refine bodyPost_ret (results_ct rfl _ _ w.heap.size 28 _ (0, 0) _ rfl (set4_blk HK.out _ _ _ _) Try.underlying28 rfl (by kernel_rfl)) rfl ?_
   exact ⟨_, _, _, rfl, stEnd_of (set4_R HR3.out HK.out (by decide) _ _ _ _) (Kd.R_nil _ _ _ _ _) (Kd.R_nil _ _ _ _ _), set4_below HB.out (Nat.le_refl _) _ _ _ _⟩

-- ==== Rw6
theorem cloneT_same (m : List S54) (h : m.length < 5864062014805) : api_Cell_71.f m = some m := by
 unfold api_Cell_71.f
 rw [if_pos (by simpa using h)]
 rfl
theorem cloneS_same (m : List ByteArray) (h : m.length < 8796093022208) : slices_Clone_string_string.f m = some m := by
 unfold slices_Clone_string_string.f
 rw [if_pos (by simpa using h)]
 rfl
theorem cloneT_calls {A : Option Addr} {c : Nat} {t : List S54} {w : World} (hr : Kd.C k54 w A t.length t) (hc : t.length ≤ c) (h : t.length < 5864062014805) :
 Calls Try.prog 71 #[.slice A t.length c] w fun e w' => ∃ A' c', e = .returned (.slice A' t.length c') ∧ Kd.R k54 54 w' w.heap.size (fun _ => True) (.slice A' t.length c') t ∧ Below w.heap.size w w' := by
 refine (api_Cell_71.calls A c t t w hr hc (cloneT_same t h)).mono ?_
 rintro e w' ⟨v, rfl, hR, hb⟩
 obtain ⟨A', c', rfl⟩ := Kd.R_slice hR
 exact ⟨A', c', rfl, hR, hb⟩
end Go.Proofs.Ytdlkhpfgkghhmaa.P
