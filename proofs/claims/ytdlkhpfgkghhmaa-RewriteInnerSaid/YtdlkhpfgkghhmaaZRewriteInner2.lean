/- RewriteInner: the law answers true at every input that the given row speaks of. Conditions: those of the given row, none besides. (Part 3 of 6; written by programs of this session, which drive the kit's print, and by hand.) -/
import Derived.Scope
import Derived.KernelRfl
import Derived.Test.YtdlkhpfgkghhmaaZRewriteInner0
import Derived.Test.YtdlkhpfgkghhmaaZRewriteInner1
set_option maxHeartbeats 8000000
set_option maxRecDepth 100000
set_option linter.unusedVariables false
set_option linter.unusedSimpArgs false
-- ==== PF47
namespace Go.Proofs.Ytdlkhpfgkghhmaa.P
open Go.RowKit Go.Proofs.YtdlkhpfgkghhmaaW.PrintWords Go.Proofs.YtdlkhpfgkghhmaaW.PrintLast Go.Proofs.YtdlkhpfgkghhmaaW.PrintMore
attribute [local go_sem] max2_int min2_int max_two min_two max_three min_three max_four min_four

/-! ### rewrite_clone: function 47 -/
mutual
def rewrite_clone.l0 : Nat → List (S70) → Int → Int → List (S70) → List (List (S54)) → Int → List ByteArray → List (S70) → Int → List ByteArray → Option ((List (S70)) × (List (List (S54))) × Int × List ByteArray)
 | 0, _, _, _, _, _, _, _, _, _, _ => none
 | k + 1, x15, x16, x17, x102000, x102001, x102002, x102003, x107000, x107002, x107003 => if x17 < x16 then (if 0 ≤ x17 then (if x17 < (x15.length : Int) then ((api_Cell_71.f ((rd_T70 x15 x17).f2)).bind fun t109 => (if x107000.length < 2513169434916 then (rewrite_clone.l0 k x15 x16 (wrap64 (x17 + 1)) x102000 x102001 x102002 x102003 (x107000 ++ [(⟨(rd_T70 x15 x17).f0, (⟨(rd_T70 x15 x17).f1.f0, (rd_T70 x15 x17).f1.f1⟩ : S54), t109⟩ : S70)]) x107002 x107003) else (none))) else (none)) else (none)) else (rewrite_clone.l1 k x102001 (x102001.length : Int) 0 x107000 ([] : List (List (S54))) x107002 x107003)
def rewrite_clone.l1 : Nat → List (List (S54)) → Int → Int → List (S70) → List (List (S54)) → Int → List ByteArray → Option ((List (S70)) × (List (List (S54))) × Int × List ByteArray)
 | 0, _, _, _, _, _, _, _ => none
 | k + 1, x33, x34, x35, x107000, x107001, x107002, x107003 => if x35 < x34 then (if 0 ≤ x35 then (if x35 < (x33.length : Int) then ((api_Cell_71.f (rd_L3 x33 x35)).bind fun t116 => (if x107001.length < 5864062014805 then (rewrite_clone.l1 k x33 x34 (wrap64 (x35 + 1)) x107000 (x107001 ++ [t116]) x107002 x107003) else (none))) else (none)) else (none)) else (some (x107000, x107001, x107002, x107003))
end
def rewrite_clone.f (k : Nat) (l0_0 : List (S70)) (l0_1 : List (List (S54))) (a0_2 : Int) (l0_3 : List ByteArray) : Option ((List (S70)) × (List (List (S54))) × Int × List ByteArray) := (slices_Clone_string_string.f l0_3).bind fun t103 => (rewrite_clone.l0 k l0_0 (l0_0.length : Int) 0 l0_0 l0_1 a0_2 l0_3 ([] : List (S70)) a0_2 t103)
theorem rewrite_clone.mono_l : ∀ k, (∀ y0 y1 y2 y3 y4 y5 y6 y7 y8 y9, LeO (rewrite_clone.l0 k y0 y1 y2 y3 y4 y5 y6 y7 y8 y9) (rewrite_clone.l0 (k + 1) y0 y1 y2 y3 y4 y5 y6 y7 y8 y9)) ∧ (∀ y0 y1 y2 y3 y4 y5 y6, LeO (rewrite_clone.l1 k y0 y1 y2 y3 y4 y5 y6) (rewrite_clone.l1 (k + 1) y0 y1 y2 y3 y4 y5 y6))
 | 0 => ⟨fun _ _ _ _ _ _ _ _ _ _ r h => by simp [rewrite_clone.l0] at h, fun _ _ _ _ _ _ _ r h => by simp [rewrite_clone.l1] at h⟩
 | k + 1 => by
  obtain ⟨ih0, ih1⟩ := rewrite_clone.mono_l k
  refine ⟨?_, ?_⟩
  ·
   intro y0 y1 y2 y3 y4 y5 y6 y7 y8 y9
   unfold rewrite_clone.l0
   repeat' first
   | (with_reducible exact ih0 _ _ _ _ _ _ _ _ _ _)
   | (with_reducible exact ih1 _ _ _ _ _ _ _)
   | (with_reducible exact LeO.refl _)
   | (with_reducible exact LeO.none _)
   | (with_reducible refine LeO.ite ?_ ?_)
   | (with_reducible refine LeO.bind ?_ (fun _ => ?_))
  ·
   intro y0 y1 y2 y3 y4 y5 y6
   unfold rewrite_clone.l1
   repeat' first
   | (with_reducible exact ih0 _ _ _ _ _ _ _ _ _ _)
   | (with_reducible exact ih1 _ _ _ _ _ _ _)
   | (with_reducible exact LeO.refl _)
   | (with_reducible exact LeO.none _)
   | (with_reducible refine LeO.ite ?_ ?_)
   | (with_reducible refine LeO.bind ?_ (fun _ => ?_))
theorem rewrite_clone.mono : ∀ a0 a1 a2 a3 k, LeO (rewrite_clone.f k a0 a1 a2 a3) (rewrite_clone.f (k + 1) a0 a1 a2 a3) := by
 intro a0 a1 a2 a3 k
 obtain ⟨ih0, ih1⟩ := rewrite_clone.mono_l k
 unfold rewrite_clone.f
 repeat' first
  | (with_reducible exact ih0 _ _ _ _ _ _ _ _ _ _)
  | (with_reducible exact ih1 _ _ _ _ _ _ _)
  | (with_reducible exact LeO.refl _)
  | (with_reducible exact LeO.none _)
  | (with_reducible refine LeO.ite ?_ ?_)
  | (with_reducible refine LeO.bind ?_ (fun _ => ?_))
def rewrite_clone.T1 : Bool × List (List Nat × List Nat) := (true, [([], []), ([0], [0]), ([], []), ([2], [2]), ([3], [3]), ([1, 4], [1, 4]), ([], []), ([6, 5, 4, 0, 1, 2, 3, 4, 5, 6], [5, 6])])
def rewrite_clone.B1 : List Nat := [0, 1, 0, 4, 12, 31, 0, 127]
theorem rewrite_clone.tab1 : rtab .any (opsOf Try.f47 1) = rewrite_clone.T1 := by kernel_rfl
theorem rewrite_clone.bits1 : waitsOk rewrite_clone.T1.2 rewrite_clone.B1 = true := by kernel_rfl
def rewrite_clone.T11 : Bool × List (List Nat × List Nat) := (true, [([], []), ([0], [0]), ([], []), ([2], [2]), ([3], [3]), ([1, 4, 3], [1, 4]), ([0, 1, 2, 3, 4, 5], []), ([6, 5, 5, 0, 1, 2, 3, 4, 5], [5, 6])])
def rewrite_clone.B11 : List Nat := [0, 1, 0, 4, 12, 31, 63, 127]
theorem rewrite_clone.tab11 : rtab .any (opsOf Try.f47 11) = rewrite_clone.T11 := by kernel_rfl
theorem rewrite_clone.bits11 : waitsOk rewrite_clone.T11.2 rewrite_clone.B11 = true := by kernel_rfl
theorem rewrite_clone.calls (k : Nat) (A0_0 : Option Addr) (c0_0 : Nat) (l0_0 : List (S70)) (A0_1 : Option Addr) (c0_1 : Nat) (l0_1 : List (List (S54))) (a0_2 : Int) (A0_3 : Option Addr) (c0_3 : Nat) (l0_3 : List ByteArray) (r1 : List (S70)) (r2 : List (List (S54))) (r3 : Int) (r4 : List ByteArray) (w : World) (hr0_0 : Kd.C k70 w A0_0 l0_0.length l0_0) (hc0_0 : l0_0.length ≤ c0_0) (hr0_1 : Kd.C (Kd.slice 54 k54) w A0_1 l0_1.length l0_1) (hc0_1 : l0_1.length ≤ c0_1) (hr0_3 : Kd.C Kd.string w A0_3 l0_3.length l0_3) (hc0_3 : l0_3.length ≤ c0_3) (h : rewrite_clone.f k l0_0 l0_1 a0_2 l0_3 = some (r1, r2, r3, r4)) :
 Calls Try.prog 47 #[.agg #[.slice A0_0 l0_0.length c0_0, .slice A0_1 l0_1.length c0_1, .int .i64 a0_2, .slice A0_3 l0_3.length c0_3]] w fun e w' => ∃ v0_ v1_ v3_ : Value, e = .returned (.agg #[v0_, v1_, .int .i64 r3, v3_]) ∧ Kd.S k70 70 w' w.heap.size (fun _ => True) v0_ r1 ∧ Kd.S (Kd.slice 54 k54) 23 w' w.heap.size (fun _ => True) v1_ r2 ∧ Kd.R Kd.string 9 w' w.heap.size (fun _ => True) v3_ r4 ∧ Below w.heap.size w w' := by
 have hu28 := Try.underlying28
 have hu70 := Try.underlying70
 have HR0_0 := zM hr0_0
 have HC0_0 := zM hc0_0
 clear hr0_0 hc0_0
 have HR0_1 := zM hr0_1
 have HC0_1 := zM hc0_1
 clear hr0_1 hc0_1
 have HR0_3 := zM hr0_3
 have HC0_3 := zM hc0_3
 clear hr0_3 hc0_3
 have HB := zM (Below.refl w.heap.size w)
 have H : ((slices_Clone_string_string.f l0_3).bind fun t103 => (rewrite_clone.l0 k l0_0 (l0_0.length : Int) 0 l0_0 l0_1 a0_2 l0_3 ([] : List (S70)) a0_2 t103)) = some (r1, r2, r3, r4) := h
 clear h
 replace H := zB H
 obtain ⟨t103, A20, H⟩ := H
 try dsimp only at H
 have A2 := zM A20
 clear A20
 have H' := zM H
 clear H
 go_enter Try.func47, Try.ntmps47
 try go_wp2_with (first | ((with_reducible refine gate_dst (N := 1) rfl ?_); refine box_event ?hg (N := 1) ?hd (cs := #[.slice A0_0 l0_0.length c0_0, .slice A0_1 l0_1.length c0_1, .int .i64 a0_2, .slice A0_3 l0_3.length c0_3]) (t := 28) ?hr ?_; (case hd => rfl); (case hg => rfl); (case hr => first | (go_simp; done) | (go_simp; rfl)); intro gb101 hg w3 hbox hb; have BK101 := zM (hbox); have GW101 := zM (zh hg : w.heap.size ≤ gb101); have GE101 := zM (zh hg : w.heap.size ≤ gb101); replace HB := zM (below_step zb hb); clear hb hbox hg) | ((with_reducible refine gate_dst (N := 2) rfl ?_); refine box_event ?hg (N := 2) ?hd (cs := #[.slice none 0 0, .slice none 0 0, .int .i64 0, .slice none 0 0]) (t := 28) ?hr ?_; (case hd => rfl); (case hg => rfl); (case hr => first | (go_simp; done) | (go_simp; rfl)); intro gb102 hg w4 hbox hb; have BK102 := zM (hbox); have GW102 := zM (zh hg : w.heap.size ≤ gb102); have GE102 := zM (zh hg : w.heap.size ≤ gb102); replace HB := zM (below_step zb hb); have NB101_102 := zM ((by rw [hg]; exact Nat.ne_of_lt (blk_lt (zk BK101.out)) : gb101 ≠ gb102)); have NB102_101 := zM ((by rw [hg]; exact Nat.ne_of_gt (blk_lt (zk BK101.out)) : gb102 ≠ gb101)); replace BK101 := zM (blk_below (zk BK101.out) hb); clear hb hbox hg))
 have n0_ := zM (blk_drew BK101.out)
 have n1_ := zM (blk_drew BK102.out)
 have n2_ := zM (zD HB.out)
 clear BK101
 clear BK102
 clear HB
 have BK101 := n0_
 have BK102 := n1_
 have HB := n2_
 clear n0_ n1_ n2_
 refine start_ (n := 8) (S := fun w' => w'.cell? ⟨gb101, 0, none⟩ = some (.slice A0_0 l0_0.length c0_0) ∧ w'.cell? ⟨gb101, 1, none⟩ = some (.slice A0_1 l0_1.length c0_1) ∧ w'.cell? ⟨gb101, 2, none⟩ = some (.int .i64 a0_2) ∧ w'.cell? ⟨gb101, 3, none⟩ = some (.slice A0_3 l0_3.length c0_3)) (ds := []) #[false, false, false, false, false, false, false, false] (by kernel_rfl) rfl rfl ⟨(zX BK101.out 0).trans rfl, (zX BK101.out 1).trans rfl, (zX BK101.out 2).trans rfl, (zX BK101.out 3).trans rfl⟩ (fun hHeld => ?_); refine with_tabW rewrite_clone.tab1 rewrite_clone.bits1 (fun HT_ HW_ => ?_)
 generalize w4.drew = w5 at BK101 BK102 HB hHeld ⊢
 refine pure_ (i := 0) (N := some 8) (v := ?_) (a' := ?_) #[true, false, false, false, false, false, false, false] rfl rfl (any_of HT_.out (by kernel_rfl)) (fun _ _ _ h => h) (Or.inl ⟨by rfl, ?_⟩) ?_ ?_
 rotate_left
 ·
  intro w'
  go_simp
  with_reducible rfl
 rotate_left
 ·
  simp only [Act.put, zp1, zp2, zp3, i64_w, i32_w]
  rfl
 refine pure_ (i := 2) (N := some 10) (v := ?_) (a' := ?_) #[true, false, true, false, false, false, false, false] rfl rfl (any_of HT_.out (by kernel_rfl)) (fun _ _ _ h => h) (Or.inl ⟨by rfl, ?_⟩) ?_ ?_
 rotate_left
 ·
  intro w'
  go_simp
  with_reducible rfl
 rotate_left
 ·
  simp only [Act.put, zp1, zp2, zp3, i64_w, i32_w]
  rfl
 refine take_ (i := 1) (N := some 9) (v := ?_) (a' := ?_) #[true, true, true, false, false, false, false, false] rfl rfl (take_ofW HT_.out HW_.out (by kernel_rfl)) (fun _ _ _ h => h) (Or.inl ⟨by rfl, ?_⟩) hHeld ?_ ?_
 rotate_left
 ·
  rintro w' ⟨s0, s1, s2, s3⟩
  go_simp
  with_reducible rfl
 rotate_left
 ·
  simp only [Act.put, zp1, zp2, zp3, i64_w, i32_w]
  rfl
 refine take_ (i := 3) (N := some 11) (v := ?_) (a' := ?_) #[true, true, true, true, false, false, false, false] rfl rfl (take_ofW HT_.out HW_.out (by kernel_rfl)) (fun _ _ _ h => h) (Or.inl ⟨by rfl, ?_⟩) hHeld ?_ ?_
 rotate_left
 ·
  rintro w' ⟨s0, s1, s2, s3⟩
  go_simp
  with_reducible rfl
 rotate_left
 ·
  simp only [Act.put, zp1, zp2, zp3, i64_w, i32_w]
  rfl
 refine join_ (σ := Value × Nat) 1 #[true, true, true, true, true, true, true, false] (fun s_ => [(12, s_.1), (3, .pointer (some ⟨s_.2, 0, none⟩)), (13, .agg #[.slice none 0 0, .slice none 0 0, .int .i64 a0_2, s_.1])]) (fun s_ w' => (w'.cell? ⟨gb101, 0, none⟩ = some (.slice A0_0 l0_0.length c0_0) ∧ w'.cell? ⟨gb101, 1, none⟩ = some (.slice A0_1 l0_1.length c0_1) ∧ w'.cell? ⟨gb101, 2, none⟩ = some (.int .i64 a0_2) ∧ w'.cell? ⟨gb101, 3, none⟩ = some (.slice A0_3 l0_3.length c0_3)) ∧ (Kd.R Kd.string 9 w' w.heap.size (fun _ => True) s_.1 t103) ∧ (w'.heap[gb101]? = some (.cells #[.slice A0_0 l0_0.length c0_0, .slice A0_1 l0_1.length c0_1, .int .i64 a0_2, .slice A0_3 l0_3.length c0_3] 28 (0, 0))) ∧ (w'.heap[gb102]? = some (.cells #[.slice none 0 0, .slice none 0 0, .int .i64 0, .slice none 0 0] 28 (0, 0))) ∧ (w'.heap[s_.2]? = some (.cells #[.slice none 0 0, .slice none 0 0, .int .i64 0, .slice none 0 0] 28 (0, 0))) ∧ (w.heap.size ≤ s_.2) ∧ (w.heap.size ≤ s_.2) ∧ (gb101 ≠ s_.2) ∧ (s_.2 ≠ gb101) ∧ (gb102 ≠ s_.2) ∧ (s_.2 ≠ gb102) ∧ (Below w.heap.size w w')) ?_ ?_
 rotate_left
 ·
  intro hCont
  refine two_ (i := 4) (j := 6) (Ni := some 12) (Nj := some 3) #[true, true, true, true, true, false, false, false] #[true, true, true, true, false, false, true, false] rfl rfl rfl rfl (two_of HT_.out (by kernel_rfl)) (by decide) (by decide) (fun K hK => ?_) (fun K hK => ?_)
  ·
   skip
   refine goes_ Try.func70 (by kernel_rfl) rfl #[.slice A0_3 l0_3.length c0_3] (by rfl) rfl rfl zl ?_
   with_reducible refine (slices_Clone_string_string.calls _ _ l0_3 t103 _ ?side1 ?side2 A2.out).mono ?_
   (case side1 => exact Kd.C_below HR0_3.out zb)
   (case side2 => exact HC0_3.out)
   rintro e w6 ⟨v104, rfl, ho0, hb⟩
   refine ⟨_, rfl, ?_⟩
   have n0_ := zM (Kd.R_lower ho0 (below_size zb))
   have n1_ := zM (blk_below (zk BK101.out) hb)
   have n2_ := zM (blk_below (zk BK102.out) hb)
   have n3_ := zM (below_step zb hb)
   clear BK101
   clear BK102
   clear HB
   have HO105 := n0_
   have BK101 := n1_
   have BK102 := n2_
   have HB := n3_
   clear n0_ n1_ n2_ n3_
   (try clear hb)
   (try clear hb2)
   (try clear hk)
   (try clear hi)
   (try clear ho0)
   obtain ⟨Ao7, co7, eo7⟩ := Kd.R_slice HO105.out
   (first | subst eo7 | (injection eo7 with f1_ f2_ f3_; have f4_ := f1_.symm; have f5_ := f3_.symm; clear f1_ f2_ f3_; subst f4_; subst f5_))
   refine hK.out _ _ ⟨(zX BK101.out 0).trans rfl, (zX BK101.out 1).trans rfl, (zX BK101.out 2).trans rfl, (zX BK101.out 3).trans rfl⟩ (fun hHeld => ?_)
   clear hK K
   refine norm_ (a' := ?_) ?_ ?_
   rotate_left
   ·
    show Act.put _ (some 12) _ = _
    simp only [Act.put, zp1, zp2, zp3, i64_w, i32_w]
    rfl
   refine pure_ (i := 5) (N := some 13) (v := ?_) (a' := ?_) #[true, true, true, true, true, true, false, false] rfl rfl (any_of HT_.out (by kernel_rfl)) (fun _ _ _ h => h) (Or.inl ⟨by rfl, ?_⟩) ?_ ?_
   rotate_left
   ·
    intro w'
    go_simp
    with_reducible rfl
   rotate_left
   ·
    simp only [Act.put, zp1, zp2, zp3, i64_w, i32_w]
    rfl
   refine one_ (i := 6) (N := some 3) #[true, true, true, true, true, true, true, false] rfl rfl (one_of HT_.out (by kernel_rfl)) (by decide) (fun K hK => ?_)
   refine box_step ?hg (N := 3) ?hd (cs := #[.slice none 0 0, .slice none 0 0, .int .i64 0, .slice none 0 0]) (t := 28) ?hr ?_; (case hd => rfl); (case hg => rfl); (case hr => first | (go_simp; done) | (go_simp; rfl))
   intro gb106 hg w8 hbox hb
   have n0_ := zM (Kd.R_below (zr HO105.out) hb)
   have n1_ := zM (blk_below (zk BK101.out) hb)
   have n2_ := zM (blk_below (zk BK102.out) hb)
   have n3_ := zM (below_step zb hb)
   have n4_ := zM (hbox)
   have n5_ := zM (zh hg : w.heap.size ≤ gb106)
   have n6_ := zM (zh hg : w.heap.size ≤ gb106)
   have n7_ := zM ((by rw [hg]; exact Nat.ne_of_lt (blk_lt (zk BK101.out)) : gb101 ≠ gb106))
   have n8_ := zM ((by rw [hg]; exact Nat.ne_of_gt (blk_lt (zk BK101.out)) : gb106 ≠ gb101))
   have n9_ := zM ((by rw [hg]; exact Nat.ne_of_lt (blk_lt (zk BK102.out)) : gb102 ≠ gb106))
   have n10_ := zM ((by rw [hg]; exact Nat.ne_of_gt (blk_lt (zk BK102.out)) : gb106 ≠ gb102))
   clear HO105
   clear BK101
   clear BK102
   clear HB
   have HO105 := n0_
   have BK101 := n1_
   have BK102 := n2_
   have HB := n3_
   have BK106 := n4_
   have GW106 := n5_
   have GE106 := n6_
   have NB101_106 := n7_
   have NB106_101 := n8_
   have NB102_106 := n9_
   have NB106_102 := n10_
   clear n0_ n1_ n2_ n3_ n4_ n5_ n6_ n7_ n8_ n9_ n10_
   clear hb hbox hg
   refine hK.out _ _ ⟨(zX BK101.out 0).trans rfl, (zX BK101.out 1).trans rfl, (zX BK101.out 2).trans rfl, (zX BK101.out 3).trans rfl⟩ (fun hHeld => ?_)
   clear hK K
   refine norm_ (a' := ?_) ?_ ?_
   rotate_left
   ·
    show Act.put _ (some 3) _ = _
    simp only [Act.put, zp1, zp2, zp3, i64_w, i32_w]
    rfl
   exact norm_ (by simp only [putAll, Act.put, List.setIfInBounds_toArray, List.set_cons_zero, List.set_cons_succ]) (hCont (.slice Ao7 t103.length co7, gb106) _ ⟨hHeld, (zr HO105.out), (zk BK101.out), (zk BK102.out), (zk BK106.out), GW106.out, GE106.out, NB101_106.out, NB106_101.out, NB102_106.out, NB106_102.out, zb⟩)
  ·
   skip
   refine box_step ?hg (N := 3) ?hd (cs := #[.slice none 0 0, .slice none 0 0, .int .i64 0, .slice none 0 0]) (t := 28) ?hr ?_; (case hd => rfl); (case hg => rfl); (case hr => first | (go_simp; done) | (go_simp; rfl))
   intro gb106 hg w6 hbox hb
   have n0_ := zM (blk_below (zk BK101.out) hb)
   have n1_ := zM (blk_below (zk BK102.out) hb)
   have n2_ := zM (below_step zb hb)
   have n3_ := zM (hbox)
   have n4_ := zM (zh hg : w.heap.size ≤ gb106)
   have n5_ := zM (zh hg : w.heap.size ≤ gb106)
   have n6_ := zM ((by rw [hg]; exact Nat.ne_of_lt (blk_lt (zk BK101.out)) : gb101 ≠ gb106))
   have n7_ := zM ((by rw [hg]; exact Nat.ne_of_gt (blk_lt (zk BK101.out)) : gb106 ≠ gb101))
   have n8_ := zM ((by rw [hg]; exact Nat.ne_of_lt (blk_lt (zk BK102.out)) : gb102 ≠ gb106))
   have n9_ := zM ((by rw [hg]; exact Nat.ne_of_gt (blk_lt (zk BK102.out)) : gb106 ≠ gb102))
   clear BK101
   clear BK102
   clear HB
   have BK101 := n0_
   have BK102 := n1_
   have HB := n2_
   have BK106 := n3_
   have GW106 := n4_
   have GE106 := n5_
   have NB101_106 := n6_
   have NB106_101 := n7_
   have NB102_106 := n8_
   have NB106_102 := n9_
   clear n0_ n1_ n2_ n3_ n4_ n5_ n6_ n7_ n8_ n9_
   clear hb hbox hg
   refine hK.out _ _ ⟨(zX BK101.out 0).trans rfl, (zX BK101.out 1).trans rfl, (zX BK101.out 2).trans rfl, (zX BK101.out 3).trans rfl⟩ (fun hHeld => ?_)
   clear hK K
   refine norm_ (a' := ?_) ?_ ?_
   rotate_left
   ·
    show Act.put _ (some 3) _ = _
    simp only [Act.put, zp1, zp2, zp3, i64_w, i32_w]
    rfl
   refine one_ (i := 4) (N := some 12) #[true, true, true, true, true, false, true, false] rfl rfl (one_of HT_.out (by kernel_rfl)) (by decide) (fun K hK => ?_)
   refine goes_ Try.func70 (by kernel_rfl) rfl #[.slice A0_3 l0_3.length c0_3] (by rfl) rfl rfl zl ?_
   with_reducible refine (slices_Clone_string_string.calls _ _ l0_3 t103 _ ?side1 ?side2 A2.out).mono ?_
   (case side1 => exact Kd.C_below HR0_3.out zb)
   (case side2 => exact HC0_3.out)
   rintro e w7 ⟨v104, rfl, ho0, hb⟩
   refine ⟨_, rfl, ?_⟩
   have n0_ := zM (Kd.R_lower ho0 (below_size zb))
   have n1_ := zM (blk_below (zk BK101.out) hb)
   have n2_ := zM (blk_below (zk BK102.out) hb)
   have n3_ := zM (blk_below (zk BK106.out) hb)
   have n4_ := zM (below_step zb hb)
   clear BK101
   clear BK102
   clear BK106
   clear HB
   have HO105 := n0_
   have BK101 := n1_
   have BK102 := n2_
   have BK106 := n3_
   have HB := n4_
   clear n0_ n1_ n2_ n3_ n4_
   (try clear hb)
   (try clear hb2)
   (try clear hk)
   (try clear hi)
   (try clear ho0)
   obtain ⟨Ao8, co8, eo8⟩ := Kd.R_slice HO105.out
   (first | subst eo8 | (injection eo8 with f1_ f2_ f3_; have f4_ := f1_.symm; have f5_ := f3_.symm; clear f1_ f2_ f3_; subst f4_; subst f5_))
   refine hK.out _ _ ⟨(zX BK101.out 0).trans rfl, (zX BK101.out 1).trans rfl, (zX BK101.out 2).trans rfl, (zX BK101.out 3).trans rfl⟩ (fun hHeld => ?_)
   clear hK K
   refine norm_ (a' := ?_) ?_ ?_
   rotate_left
   ·
    show Act.put _ (some 12) _ = _
    simp only [Act.put, zp1, zp2, zp3, i64_w, i32_w]
    rfl
   refine pure_ (i := 5) (N := some 13) (v := ?_) (a' := ?_) #[true, true, true, true, true, true, true, false] rfl rfl (any_of HT_.out (by kernel_rfl)) (fun _ _ _ h => h) (Or.inl ⟨by rfl, ?_⟩) ?_ ?_
   rotate_left
   ·
    intro w'
    go_simp
    with_reducible rfl
   rotate_left
   ·
    simp only [Act.put, zp1, zp2, zp3, i64_w, i32_w]
    rfl
   exact norm_ (by simp only [putAll, Act.put, List.setIfInBounds_toArray, List.set_cons_zero, List.set_cons_succ]) (hCont (.slice Ao8 t103.length co8, gb106) _ ⟨hHeld, (zr HO105.out), (zk BK101.out), (zk BK102.out), (zk BK106.out), GW106.out, GE106.out, NB101_106.out, NB106_101.out, NB102_106.out, NB106_102.out, zb⟩)
 rintro ⟨v104, gb106⟩ w9 ⟨hS_, h0_, h1_, h2_, h3_, h4_, h5_, h6_, h7_, h8_, h9_, h10_⟩
 have n0_ : Aside0 (Kd.R Kd.string 9 w9 w.heap.size (fun _ => True) v104 t103) := ⟨h0_⟩
 have n1_ : Aside0 (w9.heap[gb101]? = some (.cells #[.slice A0_0 l0_0.length c0_0, .slice A0_1 l0_1.length c0_1, .int .i64 a0_2, .slice A0_3 l0_3.length c0_3] 28 (0, 0))) := ⟨h1_⟩
 have n2_ : Aside0 (w9.heap[gb102]? = some (.cells #[.slice none 0 0, .slice none 0 0, .int .i64 0, .slice none 0 0] 28 (0, 0))) := ⟨h2_⟩
 have n3_ : Aside0 (w9.heap[gb106]? = some (.cells #[.slice none 0 0, .slice none 0 0, .int .i64 0, .slice none 0 0] 28 (0, 0))) := ⟨h3_⟩
 have n4_ : Aside0 (w.heap.size ≤ gb106) := ⟨h4_⟩
 have n5_ : Aside0 (w.heap.size ≤ gb106) := ⟨h5_⟩
 have n6_ : Aside0 (gb101 ≠ gb106) := ⟨h6_⟩
 have n7_ : Aside0 (gb106 ≠ gb101) := ⟨h7_⟩
 have n8_ : Aside0 (gb102 ≠ gb106) := ⟨h8_⟩
 have n9_ : Aside0 (gb106 ≠ gb102) := ⟨h9_⟩
 have n10_ : Aside0 (Below w.heap.size w w9) := ⟨h10_⟩
 clear BK101
 clear BK102
 clear HB
 clear h0_ h1_ h2_ h3_ h4_ h5_ h6_ h7_ h8_ h9_ h10_
 have HO105 := n0_
 have BK101 := n1_
 have BK102 := n2_
 have BK106 := n3_
 have GW106 := n4_
 have GE106 := n5_
 have NB101_106 := n6_
 have NB106_101 := n7_
 have NB102_106 := n8_
 have NB106_102 := n9_
 have HB := n10_
 clear n0_ n1_ n2_ n3_ n4_ n5_ n6_ n7_ n8_ n9_ n10_
 have hHeld : w9.cell? ⟨gb101, 0, none⟩ = some (.slice A0_0 l0_0.length c0_0) ∧ w9.cell? ⟨gb101, 1, none⟩ = some (.slice A0_1 l0_1.length c0_1) ∧ w9.cell? ⟨gb101, 2, none⟩ = some (.int .i64 a0_2) ∧ w9.cell? ⟨gb101, 3, none⟩ = some (.slice A0_3 l0_3.length c0_3) := hS_
 obtain ⟨Ao10, co10, eo10⟩ := Kd.R_slice HO105.out
 (first | subst eo10 | (injection eo10 with f1_ f2_ f3_; have f4_ := f1_.symm; have f5_ := f3_.symm; clear f1_ f2_ f3_; subst f4_; subst f5_))
 refine norm_ (a' := ?_) ?_ ?_
 rotate_left
 ·
  simp only [putAll, Act.put, List.setIfInBounds_toArray, List.set_cons_zero, List.set_cons_succ]
  rfl
 refine one_ (i := 7) (N := none) #[true, true, true, true, true, true, true, true] rfl rfl (one_of HT_.out (by kernel_rfl)) (by decide) (fun K hK => ?_)
 have hs11 : w9.cell? ⟨gb106, 0, none⟩ = some (.slice none 0 0) := (zX BK106.out 0).trans rfl
 have hfs11 := zY BK106.out 0
 have hns11_0 := NB101_106.out
 have hns11_1 := NB102_106.out
 have hms11_0 := NB106_101.out
 have hms11_1 := NB106_102.out
 have hs12 : w9.cell? ⟨gb106, 1, none⟩ = some (.slice none 0 0) := (zX BK106.out 1).trans rfl
 have hfs12 := zY BK106.out 1
 have hns12_0 := NB101_106.out
 have hns12_1 := NB102_106.out
 have hms12_0 := NB106_101.out
 have hms12_1 := NB106_102.out
 have hs13 : w9.cell? ⟨gb106, 2, none⟩ = some (.int .i64 0) := (zX BK106.out 2).trans rfl
 have hfs13 := zY BK106.out 2
 have hns13_0 := NB101_106.out
 have hns13_1 := NB102_106.out
 have hms13_0 := NB106_101.out
 have hms13_1 := NB106_102.out
 have hs14 : w9.cell? ⟨gb106, 3, none⟩ = some (.slice none 0 0) := (zX BK106.out 3).trans rfl
 have hfs14 := zY BK106.out 3
 have hns14_0 := NB101_106.out
 have hns14_1 := NB102_106.out
 have hms14_0 := NB106_101.out
 have hms14_1 := NB106_102.out
 refine skip_ (w1 := ?_) (by rfl) rfl ?_ ?_
 rotate_left
 ·
  go_simp
  rfl
 refine hK.out _ _ ⟨((cell_far (p := ⟨gb106, _, none⟩) NB101_106.out _).trans (((cell_far (p := ⟨gb106, _, none⟩) NB101_106.out _).trans (((cell_far (p := ⟨gb106, _, none⟩) NB101_106.out _).trans (((cell_far (p := ⟨gb106, _, none⟩) NB101_106.out _).trans (hHeld.1)))))))), ((cell_far (p := ⟨gb106, _, none⟩) NB101_106.out _).trans (((cell_far (p := ⟨gb106, _, none⟩) NB101_106.out _).trans (((cell_far (p := ⟨gb106, _, none⟩) NB101_106.out _).trans (((cell_far (p := ⟨gb106, _, none⟩) NB101_106.out _).trans (hHeld.2.1)))))))), ((cell_far (p := ⟨gb106, _, none⟩) NB101_106.out _).trans (((cell_far (p := ⟨gb106, _, none⟩) NB101_106.out _).trans (((cell_far (p := ⟨gb106, _, none⟩) NB101_106.out _).trans (((cell_far (p := ⟨gb106, _, none⟩) NB101_106.out _).trans (hHeld.2.2.1)))))))), ((cell_far (p := ⟨gb106, _, none⟩) NB101_106.out _).trans (((cell_far (p := ⟨gb106, _, none⟩) NB101_106.out _).trans (((cell_far (p := ⟨gb106, _, none⟩) NB101_106.out _).trans (((cell_far (p := ⟨gb106, _, none⟩) NB101_106.out _).trans (hHeld.2.2.2))))))))⟩ (fun hHeld => ?_)
 clear hK K
 refine done_ (done_of HT_.out (by kernel_rfl)) ?_
 have hnb15 := NB101_102.out
 have hnc15 := NB102_101.out
 have hnb16 := NB101_106.out
 have hnc16 := NB106_101.out
 have hcz17_0 : w9.cell? ⟨gb101, 0, none⟩ = some (.slice A0_0 l0_0.length c0_0) := (zX BK101.out 0).trans rfl
 have hcz17_1 : w9.cell? ⟨gb101, 1, none⟩ = some (.slice A0_1 l0_1.length c0_1) := (zX BK101.out 1).trans rfl
 have hcz17_2 : w9.cell? ⟨gb101, 2, none⟩ = some (.int .i64 a0_2) := (zX BK101.out 2).trans rfl
 have hcz17_3 : w9.cell? ⟨gb101, 3, none⟩ = some (.slice A0_3 l0_3.length c0_3) := (zX BK101.out 3).trans rfl
 have hfz17_0 := zY BK101.out 0
 have hfz17_1 := zY BK101.out 1
 have hfz17_2 := zY BK101.out 2
 have hfz17_3 := zY BK101.out 3
 try go_wp2
 go_loopg [17] k (fun kq v17 w' => ∃ (x17_1 : Int) (x107000_1 : List (S70)) (u107000 : Value), v17 = .int .i64 x17_1 ∧ Aside0 (rewrite_clone.l0 kq l0_0 (l0_0.length : Int) x17_1 l0_0 l0_1 a0_2 l0_3 x107000_1 a0_2 t103 = some (r1, r2, r3, r4)) ∧ Aside0 (kq ≤ k) ∧ Aside0 (Kd.S k70 70 w' w.heap.size (fun _ => True) u107000 x107000_1) ∧ Aside0 (Kd.R Kd.string 9 w' w.heap.size (fun _ => True) (.slice Ao10 t103.length co10) t103) ∧ Aside0 (w'.heap[gb101]? = some (.cells #[(.slice A0_0 l0_0.length c0_0), (.slice A0_1 l0_1.length c0_1), .int .i64 a0_2, (.slice A0_3 l0_3.length c0_3)] 28 (0, 0))) ∧ Aside0 (w'.heap[gb102]? = some (.cells #[(.slice none 0 0), (.slice none 0 0), .int .i64 0, (.slice none 0 0)] 28 (0, 0))) ∧ Aside0 (w'.heap[gb106]? = some (.cells #[u107000, (.slice none 0 0), .int .i64 a0_2, (.slice Ao10 t103.length co10)] 28 (0, 0))) ∧ Aside0 (Below w.heap.size w w'))
 case atStart => exact ⟨(0), (([] : List (S70))), (.slice none 0 0), zy, H', ⟨Nat.le_refl _⟩, ⟨by first | exact Kd.S_nil _ _ _ _ _ | exact Kd.N_nil _ _ _ _ _ | exact Kd.V_nil _ _ _ _ _ | exact Kd.Q_nil _ _ _ _ _ | exact Kd.R_nil _ _ _ _ _⟩, ⟨by (with_reducible repeat (first | apply Kd.R_alloc | apply Kd.R_drewN | apply Kd.R_drew)); exact Kd.R_mono (Kd.R_far (p := ⟨gb106, 3, none⟩) (Kd.R_far (p := ⟨gb106, 2, none⟩) (Kd.R_far (p := ⟨gb106, 1, none⟩) (Kd.R_far (p := ⟨gb106, 0, none⟩) (Kd.R_types HO105.out BK106.out (by decide)) (fun _ hk => hk.2) (.slice none 0 0)) (fun _ hk => hk.2) (.slice none 0 0)) (fun _ hk => hk.2) (.int .i64 a0_2)) (fun _ hk => hk.2) (.slice Ao10 t103.length co10)) (fun _ hk => trivial)⟩, ⟨by refine zk ?_; refine blk_far ?_ NB101_106.out _; refine zk ?_; refine blk_far ?_ NB101_106.out _; refine zk ?_; refine blk_far ?_ NB101_106.out _; refine zk ?_; refine blk_far ?_ NB101_106.out _; refine zk ?_; exact BK101.out⟩, ⟨by refine zk ?_; refine blk_far ?_ NB102_106.out _; refine zk ?_; refine blk_far ?_ NB102_106.out _; refine zk ?_; refine blk_far ?_ NB102_106.out _; refine zk ?_; refine blk_far ?_ NB102_106.out _; refine zk ?_; exact BK102.out⟩, ⟨by refine zk ?_; refine blk_put (cs := #[.slice none 0 0, .slice none 0 0, .int .i64 a0_2, .slice none 0 0]) ?_ 3 _ rfl; refine zk ?_; refine blk_put (cs := #[.slice none 0 0, .slice none 0 0, .int .i64 0, .slice none 0 0]) ?_ 2 _ rfl; refine zk ?_; refine blk_put (cs := #[.slice none 0 0, .slice none 0 0, .int .i64 0, .slice none 0 0]) ?_ 1 _ rfl; refine zk ?_; refine blk_put (cs := #[.slice none 0 0, .slice none 0 0, .int .i64 0, .slice none 0 0]) ?_ 0 _ rfl; refine zk ?_; exact BK106.out⟩, ⟨zb⟩⟩
 case round =>
  clear H'
  try clear c1
  try clear p2
  try clear c4
  try clear c7
  try clear c15
  try clear c16
  try clear hcz17_0
  try clear hcz17_1
  try clear hcz17_2
  try clear hcz17_3
  try clear hfz17_0
  try clear hfz17_1
  try clear hfz17_2
  try clear hfz17_3
  obtain ⟨x17_1, x107000_1, u107000, rfl, HA, HK1, HO_107000, HO_107003, BK101, BK102, BK106, HB⟩ := hrel
  cases gk with
  | zero => exact absurd HA.out (by simp [rewrite_clone.l0])
  | succ k1 =>
   have H := HA.out
   clear HA
   simp only [rewrite_clone.l0] at H
   by_cases c18 : x17_1 < (l0_0.length : Int)
   ·
    rw [if_pos c18] at H
    have c18b0 : decide (x17_1 < (l0_0.length : Int)) = true := zQ c18
    clear c18
    by_cases c19 : 0 ≤ x17_1
    ·
     rw [if_pos c19] at H
     have c19b0 : decide (0 ≤ x17_1) = true := zQ c19
     clear c19
     by_cases c20 : x17_1 < (l0_0.length : Int)
     ·
      rw [if_pos c20] at H
      have c20b0 : decide (x17_1 < (l0_0.length : Int)) = true := zQ c20
      clear c20
      replace H := zB H
      obtain ⟨t109, A210, H⟩ := H
      try dsimp only at H
      have A21 := zM A210
      clear A210
      by_cases c22 : x107000_1.length < 2513169434916
      ·
       rw [if_pos c22] at H
       have LMc22 := zM c22
       clear c22
       obtain ⟨y112, hy112⟩ : ∃ y_ : List (S70), y_ = (x107000_1 ++ [(⟨(rd_T70 l0_0 x17_1).f0, (⟨(rd_T70 l0_0 x17_1).f1.f0, (rd_T70 l0_0 x17_1).f1.f1⟩ : S54), t109⟩ : S70)]) := ⟨_, rfl⟩
       replace H : (rewrite_clone.l0 k1 l0_0 (l0_0.length : Int) (wrap64 (x17_1 + 1)) l0_0 l0_1 a0_2 l0_3 y112 a0_2 t103) = some (r1, r2, r3, r4) := by first | (rw [hy112]; with_reducible exact H) | (have H2_ := (Option.bind_some _ _).symm.trans H; rw [hy112]; with_reducible exact H2_) | (have H2_ := (Option.bind_some _ _).symm.trans H; with_reducible exact H2_) | with_reducible exact H | (rw [hy112]; exact H) | exact H
       have Ny112 := zM hy112
       clear hy112
       have H' := zM H
       clear H
       have p107 : 0 ≤ (x17_1 : Int) := zT zv
       have q107 : x17_1 < (l0_0.length : Int) := zT zv
       obtain ⟨ad107, A107_3, c107_3, e107, hx107_0, hx107_1, hx107_2, hx107_3, hl107_3, hi107_3⟩ := at_T70 HR0_0.out x17_1 p107 q107
       cases e107
       replace hx107_0 := (HB.out.cell (World.block_lt_of_cell? w _ hx107_0)).trans hx107_0
       replace hx107_1 := (HB.out.cell (World.block_lt_of_cell? w _ hx107_1)).trans hx107_1
       replace hx107_2 := (HB.out.cell (World.block_lt_of_cell? w _ hx107_2)).trans hx107_2
       replace hx107_3 := (HB.out.cell (World.block_lt_of_cell? w _ hx107_3)).trans hx107_3
       have HR107_3 := zM hi107_3
       have HC107_3 := zM hl107_3
       clear hi107_3 hl107_3
       replace p107 := eq_true p107
       replace q107 := eq_true q107
       go_wp2_with (first | ((with_reducible refine gate_dst (N := 5) rfl ?_); refine box_event ?hg (N := 5) ?hd (cs := #[.int .i64 0, .string (⟨#[]⟩ : ByteArray), .int .i64 0, .slice none 0 0]) (t := 70) ?hr ?_; (case hd => rfl); (case hg => rfl); (case hr => first | (go_simp; done) | (go_simp; rfl)); intro gb108 hg w23 hbox hb; replace HO_107000 := zM (Kd.S_below (Kd.S_elderB (Kd.S_below HO_107000.out zg) gb108 (Nat.le_of_eq hg.symm)) hb); replace HO_107003 := zM (Kd.R_below (zr HO_107003.out) hb); have BK108 := zM (hbox); have GW108 := zM (zh hg : w.heap.size ≤ gb108); have GE108 := zM (zh hg : w.heap.size ≤ gb108); replace HB := zM (below_step zb hb); have NB101_108 := zM ((by rw [hg]; exact Nat.ne_of_lt (blk_lt (zk BK101.out)) : gb101 ≠ gb108)); have NB108_101 := zM ((by rw [hg]; exact Nat.ne_of_gt (blk_lt (zk BK101.out)) : gb108 ≠ gb101)); replace BK101 := zM (blk_below (zk BK101.out) hb); have NB102_108 := zM ((by rw [hg]; exact Nat.ne_of_lt (blk_lt (zk BK102.out)) : gb102 ≠ gb108)); have NB108_102 := zM ((by rw [hg]; exact Nat.ne_of_gt (blk_lt (zk BK102.out)) : gb108 ≠ gb102)); replace BK102 := zM (blk_below (zk BK102.out) hb); have NB106_108 := zM ((by rw [hg]; exact Nat.ne_of_lt (blk_lt (zk BK106.out)) : gb106 ≠ gb108)); have NB108_106 := zM ((by rw [hg]; exact Nat.ne_of_gt (blk_lt (zk BK106.out)) : gb108 ≠ gb106)); replace BK106 := zM (blk_below (zk BK106.out) hb); clear hb hbox hg; have hnb24 := NB108_101.out; have hnc24 := NB101_108.out; have hnb25 := NB108_102.out; have hnc25 := NB102_108.out; have hnb26 := NB108_106.out; have hnc26 := NB106_108.out; have hcz27_0 : w23.cell? ⟨gb108, 0, none⟩ = some (.int .i64 0) := (zX BK108.out 0).trans rfl; have hcz27_1 : w23.cell? ⟨gb108, 1, none⟩ = some (.string (⟨#[]⟩ : ByteArray)) := (zX BK108.out 1).trans rfl; have hcz27_2 : w23.cell? ⟨gb108, 2, none⟩ = some (.int .i64 0) := (zX BK108.out 2).trans rfl; have hcz27_3 : w23.cell? ⟨gb108, 3, none⟩ = some (.slice none 0 0) := (zX BK108.out 3).trans rfl; have hfz27_0 := zY BK108.out 0; have hfz27_1 := zY BK108.out 1; have hfz27_2 := zY BK108.out 2; have hfz27_3 := zY BK108.out 3) | ((with_reducible refine gate_callee (f := 71) rfl ?_); refine goesL_ (some 23) rfl rfl Try.func71 (by kernel_rfl) rfl #[.slice A107_3 ((rd_T70 l0_0 x17_1).f2).length c107_3] rfl zl ?_; (with_reducible refine (api_Cell_71.calls _ _ ((rd_T70 l0_0 x17_1).f2) t109 _ ?side1 ?side2 A21.out).mono ?_); (case side1 => exact Kd.C_below HR107_3.out zb); (case side2 => exact HC107_3.out); rintro e w28 ⟨v110, rfl, ho0, hb⟩; refine ⟨_, rfl, ?_⟩; replace HO_107000 := zM (Kd.S_elder' (by (with_reducible repeat (first | apply Kd.S_alloc | apply Kd.S_drewN | apply Kd.S_drew)); exact (Kd.S_mono (Kd.S_far (p := ⟨gb108, 3, none⟩) (Kd.S_far (p := ⟨gb108, 2, none⟩) (Kd.S_far (p := ⟨gb108, 1, none⟩) (Kd.S_far (p := ⟨gb108, 0, none⟩) (Kd.S_mono HO_107000.out (fun k_ hk => (⟨hk, hk.2⟩ : _ ∧ k_ ≠ gb108))) (fun _ hk => hk.2) (.int .i64 ((rd_T70 l0_0 x17_1).f0))) (fun _ hk => hk.2) (.string ((rd_T70 l0_0 x17_1).f1.f0))) (fun _ hk => hk.2) (.int .i64 ((rd_T70 l0_0 x17_1).f1.f1))) (fun _ hk => hk.2) (.slice A107_3 ((rd_T70 l0_0 x17_1).f2).length c107_3)) (fun _ h_ => h_.1))) (Kd.R_base ho0) hb); replace HO_107003 := zM (Kd.R_below (by (with_reducible repeat (first | apply Kd.R_alloc | apply Kd.R_drewN | apply Kd.R_drew)); exact (Kd.R_mono (Kd.R_far (p := ⟨gb108, 3, none⟩) (Kd.R_far (p := ⟨gb108, 2, none⟩) (Kd.R_far (p := ⟨gb108, 1, none⟩) (Kd.R_far (p := ⟨gb108, 0, none⟩) (Kd.R_types HO_107003.out BK108.out (by decide)) (fun _ hk => hk.2) (.int .i64 ((rd_T70 l0_0 x17_1).f0))) (fun _ hk => hk.2) (.string ((rd_T70 l0_0 x17_1).f1.f0))) (fun _ hk => hk.2) (.int .i64 ((rd_T70 l0_0 x17_1).f1.f1))) (fun _ hk => hk.2) (.slice A107_3 ((rd_T70 l0_0 x17_1).f2).length c107_3)) (fun _ h_ => h_.1))) hb); have HO111 := zM (Kd.R_lower ho0 (below_size zb)); replace BK101 := zM (blk_below (g := gb101) (o := .cells #[.slice (some ad107) l0_0.length c0_0, .slice A0_1 l0_1.length c0_1, .int .i64 a0_2, .slice A0_3 l0_3.length c0_3] 28 (0, 0)) (by refine zk ?_; refine blk_far ?_ NB101_108.out _; refine zk ?_; refine blk_far ?_ NB101_108.out _; refine zk ?_; refine blk_far ?_ NB101_108.out _; refine zk ?_; refine blk_far ?_ NB101_108.out _; refine zk ?_; exact BK101.out) hb); replace BK102 := zM (blk_below (g := gb102) (o := .cells #[.slice none 0 0, .slice none 0 0, .int .i64 0, .slice none 0 0] 28 (0, 0)) (by refine zk ?_; refine blk_far ?_ NB102_108.out _; refine zk ?_; refine blk_far ?_ NB102_108.out _; refine zk ?_; refine blk_far ?_ NB102_108.out _; refine zk ?_; refine blk_far ?_ NB102_108.out _; refine zk ?_; exact BK102.out) hb); replace BK106 := zM (blk_below (g := gb106) (o := .cells #[u107000, .slice none 0 0, .int .i64 a0_2, .slice Ao10 t103.length co10] 28 (0, 0)) (by refine zk ?_; refine blk_far ?_ NB106_108.out _; refine zk ?_; refine blk_far ?_ NB106_108.out _; refine zk ?_; refine blk_far ?_ NB106_108.out _; refine zk ?_; refine blk_far ?_ NB106_108.out _; refine zk ?_; exact BK106.out) hb); replace BK108 := zM (blk_below (g := gb108) (o := .cells #[.int .i64 ((rd_T70 l0_0 x17_1).f0), .string ((rd_T70 l0_0 x17_1).f1.f0), .int .i64 ((rd_T70 l0_0 x17_1).f1.f1), .slice A107_3 ((rd_T70 l0_0 x17_1).f2).length c107_3] 70 (0, 0)) (by refine zk ?_; refine blk_put (cs := #[.int .i64 ((rd_T70 l0_0 x17_1).f0), .string ((rd_T70 l0_0 x17_1).f1.f0), .int .i64 ((rd_T70 l0_0 x17_1).f1.f1), .slice none 0 0]) ?_ 3 _ rfl; refine zk ?_; refine blk_put (cs := #[.int .i64 ((rd_T70 l0_0 x17_1).f0), .string ((rd_T70 l0_0 x17_1).f1.f0), .int .i64 0, .slice none 0 0]) ?_ 2 _ rfl; refine zk ?_; refine blk_put (cs := #[.int .i64 ((rd_T70 l0_0 x17_1).f0), .string (⟨#[]⟩ : ByteArray), .int .i64 0, .slice none 0 0]) ?_ 1 _ rfl; refine zk ?_; refine blk_put (cs := #[.int .i64 0, .string (⟨#[]⟩ : ByteArray), .int .i64 0, .slice none 0 0]) ?_ 0 _ rfl; refine zk ?_; exact BK108.out) hb); replace HB := zM (below_step zb hb); (try clear hb); (try clear ho0); obtain ⟨Ao29, co29, eo29⟩ := Kd.R_slice HO111.out; subst eo29; have hcz30_0 : w28.cell? ⟨gb108, 0, none⟩ = some (.int .i64 ((rd_T70 l0_0 x17_1).f0)) := (zX BK108.out 0).trans rfl; have hcz30_1 : w28.cell? ⟨gb108, 1, none⟩ = some (.string ((rd_T70 l0_0 x17_1).f1.f0)) := (zX BK108.out 1).trans rfl; have hcz30_2 : w28.cell? ⟨gb108, 2, none⟩ = some (.int .i64 ((rd_T70 l0_0 x17_1).f1.f1)) := (zX BK108.out 2).trans rfl; have hcz30_3 : w28.cell? ⟨gb108, 3, none⟩ = some (.slice A107_3 ((rd_T70 l0_0 x17_1).f2).length c107_3) := (zX BK108.out 3).trans rfl; have hfz30_0 := zY BK108.out 0; have hfz30_1 := zY BK108.out 1; have hfz30_2 := zY BK108.out 2; have hfz30_3 := zY BK108.out 3) | ((with_reducible refine gate_store (t := 23) (p := 24) rfl ?_); refine store_event (t := 23) (p := 24) (v := ?vo_w31) (w1 := (w28.setCell ⟨gb108, 3, none⟩ (.slice Ao29 t109.length co29))) ?hg ?ho ?hn ?hr ?_; (case ho => rfl); (case hg => rfl); (case hn => rfl); (case hr => first | (go_simp; done) | (go_simp; rfl)); intro w31 hw; have n0_ : Aside0 (Kd.S k70 70 w31 w.heap.size (fun k_ => some k_ ≠ (.slice Ao29 t109.length co29 : Value).ownBlock ∧ k_ ≠ gb108) u107000 x107000_1) := ⟨(by rw [hw]; exact (by (with_reducible repeat (first | apply Kd.S_alloc | apply Kd.S_drewN | apply Kd.S_drew)); exact Kd.S_mono (Kd.S_far (p := ⟨gb108, 3, none⟩) (Kd.S_mono HO_107000.out (fun k_ hk => (⟨hk, hk.1.2⟩ : _ ∧ k_ ≠ gb108))) (fun _ hk => hk.2) (.slice Ao29 t109.length co29)) (fun _ hk => ⟨hk.1.2, hk.1.1.2⟩)))⟩; have n1_ : Aside0 (Kd.R Kd.string 9 w31 w.heap.size (fun _ => True) (.slice Ao10 t103.length co10) t103) := ⟨(by rw [hw]; exact (by (with_reducible repeat (first | apply Kd.R_alloc | apply Kd.R_drewN | apply Kd.R_drew)); exact Kd.R_mono (Kd.R_far (p := ⟨gb108, 3, none⟩) (Kd.R_types HO_107003.out BK108.out (by decide)) (fun _ hk => hk.2) (.slice Ao29 t109.length co29)) (fun _ hk => trivial)))⟩; have n2_ : Aside0 (Kd.R k54 54 w31 w.heap.size (fun _ => True) (.slice Ao29 t109.length co29) t109) := ⟨(by rw [hw]; exact (by (with_reducible repeat (first | apply Kd.R_alloc | apply Kd.R_drewN | apply Kd.R_drew)); exact Kd.R_mono (Kd.R_far (p := ⟨gb108, 3, none⟩) (Kd.R_types HO111.out BK108.out (by decide)) (fun _ hk => hk.2) (.slice Ao29 t109.length co29)) (fun _ hk => trivial)))⟩; have n3_ : Aside0 (w31.heap[gb101]? = some (.cells #[.slice (some ad107) l0_0.length c0_0, .slice A0_1 l0_1.length c0_1, .int .i64 a0_2, .slice A0_3 l0_3.length c0_3] 28 (0, 0))) := ⟨(by rw [hw]; exact (by refine zk ?_; refine blk_far ?_ NB101_108.out _; refine zk ?_; exact BK101.out))⟩; have n4_ : Aside0 (w31.heap[gb102]? = some (.cells #[.slice none 0 0, .slice none 0 0, .int .i64 0, .slice none 0 0] 28 (0, 0))) := ⟨(by rw [hw]; exact (by refine zk ?_; refine blk_far ?_ NB102_108.out _; refine zk ?_; exact BK102.out))⟩; have n5_ : Aside0 (w31.heap[gb106]? = some (.cells #[u107000, .slice none 0 0, .int .i64 a0_2, .slice Ao10 t103.length co10] 28 (0, 0))) := ⟨(by rw [hw]; exact (by refine zk ?_; refine blk_far ?_ NB106_108.out _; refine zk ?_; exact BK106.out))⟩; have n6_ : Aside0 (w31.heap[gb108]? = some (.cells #[.int .i64 ((rd_T70 l0_0 x17_1).f0), .string ((rd_T70 l0_0 x17_1).f1.f0), .int .i64 ((rd_T70 l0_0 x17_1).f1.f1), .slice Ao29 t109.length co29] 70 (0, 0))) := ⟨(by rw [hw]; exact (by refine zk ?_; refine blk_put (cs := #[.int .i64 ((rd_T70 l0_0 x17_1).f0), .string ((rd_T70 l0_0 x17_1).f1.f0), .int .i64 ((rd_T70 l0_0 x17_1).f1.f1), .slice A107_3 ((rd_T70 l0_0 x17_1).f2).length c107_3]) ?_ 3 _ rfl; refine zk ?_; exact BK108.out))⟩; have n7_ : Aside0 (Below w.heap.size w w31) := ⟨(by rw [hw]; exact zb)⟩; clear hw; clear HO_107000; clear HO_107003; clear HO111; clear BK101; clear BK102; clear BK106; clear BK108; clear HB; have HO_107000 := n0_; have HO_107003 := n1_; have HO111 := n2_; have BK101 := n3_; have BK102 := n4_; have BK106 := n5_; have BK108 := n6_; have HB := n7_; clear n0_ n1_ n2_ n3_ n4_ n5_ n6_ n7_; have hnb32 := NB106_101.out; have hnc32 := NB101_106.out; have hnb33 := NB106_102.out; have hnc33 := NB102_106.out; have hcz34_0 : w31.cell? ⟨gb106, 0, none⟩ = some (u107000) := (zX BK106.out 0).trans rfl; have hcz34_1 : w31.cell? ⟨gb106, 1, none⟩ = some (.slice none 0 0) := (zX BK106.out 1).trans rfl; have hcz34_2 : w31.cell? ⟨gb106, 2, none⟩ = some (.int .i64 a0_2) := (zX BK106.out 2).trans rfl; have hcz34_3 : w31.cell? ⟨gb106, 3, none⟩ = some (.slice Ao10 t103.length co10) := (zX BK106.out 3).trans rfl; have hfz34_0 := zY BK106.out 0; have hfz34_1 := zY BK106.out 1; have hfz34_2 := zY BK106.out 2; have hfz34_3 := zY BK106.out 3; have hcz35_0 : w31.cell? ⟨gb108, 0, none⟩ = some (.int .i64 ((rd_T70 l0_0 x17_1).f0)) := (zX BK108.out 0).trans rfl; have hcz35_1 : w31.cell? ⟨gb108, 1, none⟩ = some (.string ((rd_T70 l0_0 x17_1).f1.f0)) := (zX BK108.out 1).trans rfl; have hcz35_2 : w31.cell? ⟨gb108, 2, none⟩ = some (.int .i64 ((rd_T70 l0_0 x17_1).f1.f1)) := (zX BK108.out 2).trans rfl; have hcz35_3 : w31.cell? ⟨gb108, 3, none⟩ = some (.slice Ao29 t109.length co29) := (zX BK108.out 3).trans rfl; have hfz35_0 := zY BK108.out 0; have hfz35_1 := zY BK108.out 1; have hfz35_2 := zY BK108.out 2; have hfz35_3 := zY BK108.out 3) | ((with_reducible refine gate_builtin (b := .append) (xs := #[.tmp 26, .tmp 28]) rfl ?_); at_builtin; refine Kd.S_append k70 (w0 := w) w.heap.size rfl (.tmp 26) (.tmp 28) 24 70 (.agg #[(.int .i64 0), (.string ⟨#[]⟩), (.int .i64 0), (.slice none 0 0)]) 56 rfl Try.underlying24 info70 rfl (by decide) (by omega) u107000 x107000_1 (⟨(rd_T70 l0_0 x17_1).f0, (⟨(rd_T70 l0_0 x17_1).f1.f0, (rd_T70 l0_0 x17_1).f1.f1⟩ : S54), t109⟩ : S70) [.int .i64 ((rd_T70 l0_0 x17_1).f0), .string ((rd_T70 l0_0 x17_1).f1.f0), .int .i64 ((rd_T70 l0_0 x17_1).f1.f1), .slice Ao29 t109.length co29] (fun k_ => k_ ≠ gb108) (fun k_ => some k_ = (.slice Ao29 t109.length co29 : Value).ownBlock) rfl rfl ?aP (fun k_ hk_ => ((Kd.R_mono (ok' := fun k_ => ((fun k_ => k_ ≠ gb108)) k_ ∧ some k_ ≠ (u107000 : Value).ownBlock) (Kd.R_types (Kd.R_apart' (HO111.out) (Kd.S_typed HO_107000.out) (by decide)) BK108.out (by decide)) (fun k_ hk => ⟨hk.2, hk.1.2⟩))).1 k_ hk_.symm) ?aF ?aO ?aB ?aS ?aL ?_; (case aP => exact k70_mkM _ _ _ (⟨(rd_T70 l0_0 x17_1).f0, (⟨(rd_T70 l0_0 x17_1).f1.f0, (rd_T70 l0_0 x17_1).f1.f1⟩ : S54), t109⟩ : S70) (Kd.R_mono (Kd.R_tight rfl (Kd.R_mono (ok' := fun k_ => ((fun k_ => k_ ≠ gb108)) k_ ∧ some k_ ≠ (u107000 : Value).ownBlock) (Kd.R_types (Kd.R_apart' (HO111.out) (Kd.S_typed HO_107000.out) (by decide)) BK108.out (by decide)) (fun k_ hk => ⟨hk.2, hk.1.2⟩))) (fun _ h_ => h_))); (case aB => exact zb); (case aF => exact (fun k_ hk => Kd.freshB (g := gb108) (o := .cells #[.int .i64 ((rd_T70 l0_0 x17_1).f0), .string ((rd_T70 l0_0 x17_1).f1.f0), .int .i64 ((rd_T70 l0_0 x17_1).f1.f1), .slice Ao29 t109.length co29] 70 (0, 0)) (zk BK108.out) k_ hk)); (case aO => exact (by (with_reducible repeat (first | apply Kd.S_alloc | apply Kd.S_drewN | apply Kd.S_drew)); exact Kd.S_mono HO_107000.out (fun k_ hk => ⟨hk.2, fun e_ => hk.1 e_⟩))); (case aS => exact (below_size zb)); (case aL => have := LMc22.out; omega); intro v113 w36 ho hb hg hat; rw [← Ny112.out] at ho; replace HO_107003 := zM (Kd.R_over' (zr HO_107003.out) (Kd.S_typed (Kd.S_below HO_107000.out zg)) (by decide) hg); replace BK101 := zM (blk_grown (g := gb101) (o := .cells #[.slice (some ad107) l0_0.length c0_0, .slice A0_1 l0_1.length c0_1, .int .i64 a0_2, .slice A0_3 l0_3.length c0_3] 28 (0, 0)) (zk BK101.out) hg (Kd.S_ne HO_107000.out BK101.out (by decide))); replace BK102 := zM (blk_grown (g := gb102) (o := .cells #[.slice none 0 0, .slice none 0 0, .int .i64 0, .slice none 0 0] 28 (0, 0)) (zk BK102.out) hg (Kd.S_ne HO_107000.out BK102.out (by decide))); replace BK106 := zM (blk_grown (g := gb106) (o := .cells #[u107000, .slice none 0 0, .int .i64 a0_2, .slice Ao10 t103.length co10] 28 (0, 0)) (zk BK106.out) hg (Kd.S_ne HO_107000.out BK106.out (by decide))); replace BK108 := zM (blk_grown (g := gb108) (o := .cells #[.int .i64 ((rd_T70 l0_0 x17_1).f0), .string ((rd_T70 l0_0 x17_1).f1.f0), .int .i64 ((rd_T70 l0_0 x17_1).f1.f1), .slice Ao29 t109.length co29] 70 (0, 0)) (zk BK108.out) hg (Kd.S_away HO_107000.out (fun _ hk => hk.2))); replace HB := zM (hb); have HO114 := zM (ho); clear HO111 HO_107000; clear ho hb hg hat; obtain ⟨Ao37, co37, eo37⟩ := Kd.S_slice HO114.out; subst eo37; have hcz38_0 : w36.cell? ⟨gb106, 0, none⟩ = some (u107000) := (zX BK106.out 0).trans rfl; have hcz38_1 : w36.cell? ⟨gb106, 1, none⟩ = some (.slice none 0 0) := (zX BK106.out 1).trans rfl; have hcz38_2 : w36.cell? ⟨gb106, 2, none⟩ = some (.int .i64 a0_2) := (zX BK106.out 2).trans rfl; have hcz38_3 : w36.cell? ⟨gb106, 3, none⟩ = some (.slice Ao10 t103.length co10) := (zX BK106.out 3).trans rfl; have hfz38_0 := zY BK106.out 0; have hfz38_1 := zY BK106.out 1; have hfz38_2 := zY BK106.out 2; have hfz38_3 := zY BK106.out 3))
       go_roundg k1
       case measure => have := HK1.out; omega
       case rel => exact ⟨(wrap64 (x17_1 + 1)), (y112), (.slice Ao37 y112.length co37), zy, H', ⟨by have := HK1.out; omega⟩, ⟨by (with_reducible repeat (first | apply Kd.S_alloc | apply Kd.S_drewN | apply Kd.S_drew)); exact Kd.S_mono (Kd.S_far (p := ⟨gb106, 0, none⟩) (Kd.S_types HO114.out BK106.out (by decide)) (fun _ hk => hk.2) (.slice Ao37 y112.length co37)) (fun _ hk => trivial)⟩, ⟨by (with_reducible repeat (first | apply Kd.R_alloc | apply Kd.R_drewN | apply Kd.R_drew)); exact Kd.R_mono (Kd.R_far (p := ⟨gb106, 0, none⟩) (Kd.R_types HO_107003.out BK106.out (by decide)) (fun _ hk => hk.2) (.slice Ao37 y112.length co37)) (fun _ hk => trivial)⟩, ⟨by refine zk ?_; refine blk_far ?_ NB101_106.out _; refine zk ?_; exact BK101.out⟩, ⟨by refine zk ?_; refine blk_far ?_ NB102_106.out _; refine zk ?_; exact BK102.out⟩, ⟨by refine zk ?_; refine blk_put (cs := #[u107000, .slice none 0 0, .int .i64 a0_2, .slice Ao10 t103.length co10]) ?_ 0 _ rfl; refine zk ?_; exact BK106.out⟩, ⟨zb⟩⟩
      ·
       rw [if_neg c22] at H
       exact absurd H (by simp)
     ·
      rw [if_neg c20] at H
      exact absurd H (by simp)
    ·
     rw [if_neg c19] at H
     exact absurd H (by simp)
   ·
    rw [if_neg c18] at H
    have c18b0 : decide (x17_1 < (l0_0.length : Int)) = false := zR c18
    clear c18
    have H' := zM H
    clear H
    have hnb39 := NB101_102.out
    have hnc39 := NB102_101.out
    have hnb40 := NB101_106.out
    have hnc40 := NB106_101.out
    have hcz41_0 : wr.cell? ⟨gb101, 0, none⟩ = some (.slice A0_0 l0_0.length c0_0) := (zX BK101.out 0).trans rfl
    have hcz41_1 : wr.cell? ⟨gb101, 1, none⟩ = some (.slice A0_1 l0_1.length c0_1) := (zX BK101.out 1).trans rfl
    have hcz41_2 : wr.cell? ⟨gb101, 2, none⟩ = some (.int .i64 a0_2) := (zX BK101.out 2).trans rfl
    have hcz41_3 : wr.cell? ⟨gb101, 3, none⟩ = some (.slice A0_3 l0_3.length c0_3) := (zX BK101.out 3).trans rfl
    have hfz41_0 := zY BK101.out 0
    have hfz41_1 := zY BK101.out 1
    have hfz41_2 := zY BK101.out 2
    have hfz41_3 := zY BK101.out 3
    go_wp2
    go_loopg [35] k1 (fun kq v35 w' => ∃ (x35_2 : Int) (x107001_2 : List (List (S54))) (u107001 : Value), v35 = .int .i64 x35_2 ∧ Aside0 (rewrite_clone.l1 kq l0_1 (l0_1.length : Int) x35_2 x107000_1 x107001_2 a0_2 t103 = some (r1, r2, r3, r4)) ∧ Aside0 (kq ≤ k1) ∧ Aside0 (Kd.S k70 70 w' w.heap.size (fun _ => True) u107000 x107000_1) ∧ Aside0 (Kd.S (Kd.slice 54 k54) 23 w' w.heap.size (fun _ => True) u107001 x107001_2) ∧ Aside0 (Kd.R Kd.string 9 w' w.heap.size (fun _ => True) (.slice Ao10 t103.length co10) t103) ∧ Aside0 (w'.heap[gb101]? = some (.cells #[(.slice A0_0 l0_0.length c0_0), (.slice A0_1 l0_1.length c0_1), .int .i64 a0_2, (.slice A0_3 l0_3.length c0_3)] 28 (0, 0))) ∧ Aside0 (w'.heap[gb102]? = some (.cells #[(.slice none 0 0), (.slice none 0 0), .int .i64 0, (.slice none 0 0)] 28 (0, 0))) ∧ Aside0 (w'.heap[gb106]? = some (.cells #[u107000, u107001, .int .i64 a0_2, (.slice Ao10 t103.length co10)] 28 (0, 0))) ∧ Aside0 (Below w.heap.size w w'))
    case atStart => exact ⟨(0), (([] : List (List (S54)))), (.slice none 0 0), zy, H', ⟨Nat.le_refl _⟩, ⟨Kd.S_below HO_107000.out zg⟩, ⟨by first | exact Kd.S_nil _ _ _ _ _ | exact Kd.N_nil _ _ _ _ _ | exact Kd.V_nil _ _ _ _ _ | exact Kd.Q_nil _ _ _ _ _ | exact Kd.R_nil _ _ _ _ _⟩, ⟨zr HO_107003.out⟩, ⟨by refine zk ?_; exact BK101.out⟩, ⟨by refine zk ?_; exact BK102.out⟩, ⟨by refine zk ?_; exact BK106.out⟩, ⟨zb⟩⟩
    case round =>
     clear H'
     try clear c1
     try clear p1
     try clear q1
     try clear hx1
     try clear c2
     try clear p2
     try clear c3
     try clear c4
     try clear p6
     try clear c7
     try clear c10
     try clear p10
     try clear q10
     try clear hx10
     try clear c15
     try clear c16
     try clear c18
     try clear c18b0
     try clear c19
     try clear c19b0
     try clear c20
     try clear c20b0
     try clear c22
     try clear c24
     try clear c25
     try clear c26
     try clear c32
     try clear c33
     try clear c39
     try clear c40
     try clear hcz17_0
     try clear hcz17_1
     try clear hcz17_2
     try clear hcz17_3
     try clear hcz27_0
     try clear hcz27_1
     try clear hcz27_2
     try clear hcz27_3
     try clear hcz30_0
     try clear hcz30_1
     try clear hcz30_2
     try clear hcz30_3
     try clear hcz34_0
     try clear hcz34_1
     try clear hcz34_2
     try clear hcz34_3
     try clear hcz35_0
     try clear hcz35_1
     try clear hcz35_2
     try clear hcz35_3
     try clear hcz38_0
     try clear hcz38_1
     try clear hcz38_2
     try clear hcz38_3
     try clear hcz41_0
     try clear hcz41_1
     try clear hcz41_2
     try clear hcz41_3
     try clear hfz17_0
     try clear hfz17_1
     try clear hfz17_2
     try clear hfz17_3
     try clear hfz27_0
     try clear hfz27_1
     try clear hfz27_2
     try clear hfz27_3
     try clear hfz30_0
     try clear hfz30_1
     try clear hfz30_2
     try clear hfz30_3
     try clear hfz34_0
     try clear hfz34_1
     try clear hfz34_2
     try clear hfz34_3
     try clear hfz35_0
     try clear hfz35_1
     try clear hfz35_2
     try clear hfz35_3
     try clear hfz38_0
     try clear hfz38_1
     try clear hfz38_2
     try clear hfz38_3
     try clear hfz41_0
     try clear hfz41_1
     try clear hfz41_2
     try clear hfz41_3
     try clear hx107_0
     try clear hx107_1
     try clear hx107_2
     try clear hx107_3
     try clear p107
     try clear p2
     try clear q107
     obtain ⟨x35_2, x107001_2, u107001, rfl, HA, HK2, HO_107000, HO_107001, HO_107003, BK101, BK102, BK106, HB⟩ := hrel
     cases gk with
     | zero => exact absurd HA.out (by simp [rewrite_clone.l1])
     | succ k2 =>
      have H := HA.out
      clear HA
      simp only [rewrite_clone.l1] at H
      by_cases c42 : x35_2 < (l0_1.length : Int)
      ·
       rw [if_pos c42] at H
       have c42b0 : decide (x35_2 < (l0_1.length : Int)) = true := zQ c42
       clear c42
       by_cases c43 : 0 ≤ x35_2
       ·
        rw [if_pos c43] at H
        have c43b0 : decide (0 ≤ x35_2) = true := zQ c43
        clear c43
        by_cases c44 : x35_2 < (l0_1.length : Int)
        ·
         rw [if_pos c44] at H
         have c44b0 : decide (x35_2 < (l0_1.length : Int)) = true := zQ c44
         clear c44
         replace H := zB H
         obtain ⟨t116, A450, H⟩ := H
         try dsimp only at H
         have A45 := zM A450
         clear A450
         by_cases c46 : x107001_2.length < 5864062014805
         ·
          rw [if_pos c46] at H
          have LMc46 := zM c46
          clear c46
          obtain ⟨y119, hy119⟩ : ∃ y_ : List (List (S54)), y_ = (x107001_2 ++ [t116]) := ⟨_, rfl⟩
          replace H : (rewrite_clone.l1 k2 l0_1 (l0_1.length : Int) (wrap64 (x35_2 + 1)) x107000_1 y119 a0_2 t103) = some (r1, r2, r3, r4) := by first | (rw [hy119]; with_reducible exact H) | (have H2_ := (Option.bind_some _ _).symm.trans H; rw [hy119]; with_reducible exact H2_) | (have H2_ := (Option.bind_some _ _).symm.trans H; with_reducible exact H2_) | with_reducible exact H | (rw [hy119]; exact H) | exact H
          have Ny119 := zM hy119
          clear hy119
          have H' := zM H
          clear H
          have p115 : 0 ≤ (x35_2 : Int) := zT zv
          have q115 : x35_2 < (l0_1.length : Int) := zT zv
          obtain ⟨ad115, A115_0, c115_0, e115, hx115_0, hl115_0, hi115_0⟩ := at_L3 HR0_1.out x35_2 p115 q115
          cases e115
          replace hx115_0 := (HB.out.cell (World.block_lt_of_cell? w _ hx115_0)).trans hx115_0
          have HR115_0 := zM hi115_0
          have HC115_0 := zM hl115_0
          clear hi115_0 hl115_0
          replace p115 := eq_true p115
          replace q115 := eq_true q115
          try go_wp2
          have n0_ := zM (Kd.S_drew HO_107000.out)
          have n1_ := zM (Kd.S_drew HO_107001.out)
          have n2_ := zM (Kd.R_drew HO_107003.out)
          have n3_ := zM (blk_drew BK101.out)
          have n4_ := zM (blk_drew BK102.out)
          have n5_ := zM (blk_drew BK106.out)
          have n6_ := zM (zD HB.out)
          clear HO_107000
          clear HO_107001
          clear HO_107003
          clear BK101
          clear BK102
          clear BK106
          clear HB
          have HO_107000 := n0_
          have HO_107001 := n1_
          have HO_107003 := n2_
          have BK101 := n3_
          have BK102 := n4_
          have BK106 := n5_
          have HB := n6_
          clear n0_ n1_ n2_ n3_ n4_ n5_ n6_
          refine start_ (n := 8) (S := fun w' => w'.cell? ⟨gb106, 0, none⟩ = some (u107000) ∧ w'.cell? ⟨gb106, 1, none⟩ = some (u107001) ∧ w'.cell? ⟨gb106, 2, none⟩ = some (.int .i64 a0_2) ∧ w'.cell? ⟨gb106, 3, none⟩ = some (.slice Ao10 t103.length co10)) (ds := [7]) #[false, false, false, false, false, false, false, false] (by kernel_rfl) rfl rfl ⟨(zX BK106.out 0).trans rfl, (zX BK106.out 1).trans rfl, (zX BK106.out 2).trans rfl, (zX BK106.out 3).trans rfl⟩ (fun hHeld => ?_); refine with_tabW rewrite_clone.tab11 rewrite_clone.bits11 (fun HT_ HW_ => ?_)
          generalize wr.drew = w47 at HO_107000 HO_107001 HO_107003 BK101 BK102 BK106 HB hHeld ⊢
          refine pure_ (i := 0) (N := some 39) (v := ?_) (a' := ?_) #[true, false, false, false, false, false, false, false] rfl rfl (any_of HT_.out (by kernel_rfl)) (fun _ _ _ h => h) (Or.inl ⟨by rfl, ?_⟩) ?_ ?_
          rotate_left
          ·
           intro w'
           go_simp
           with_reducible rfl
          rotate_left
          ·
           simp only [Act.put, zp1, zp2, zp3, i64_w, i32_w]
           rfl
          refine pure_ (i := 2) (N := some 41) (v := ?_) (a' := ?_) #[true, false, true, false, false, false, false, false] rfl rfl (any_of HT_.out (by kernel_rfl)) (fun _ _ _ h => h) (Or.inl ⟨by rfl, ?_⟩) ?_ ?_
          rotate_left
          ·
           intro w'
           go_simp
           with_reducible rfl
          rotate_left
          ·
           simp only [Act.put, zp1, zp2, zp3, i64_w, i32_w]
           rfl
          refine take_ (i := 1) (N := some 40) (v := ?_) (a' := ?_) #[true, true, true, false, false, false, false, false] rfl rfl (take_ofW HT_.out HW_.out (by kernel_rfl)) (fun _ _ _ h => h) (Or.inl ⟨by rfl, ?_⟩) hHeld ?_ ?_
          rotate_left
          ·
           rintro w' ⟨s0, s1, s2, s3⟩
           go_simp
           with_reducible rfl
          rotate_left
          ·
           simp only [Act.put, zp1, zp2, zp3, i64_w, i32_w]
           rfl
          refine one_ (i := 3) (N := some 42) #[true, true, true, true, false, false, false, false] rfl rfl (one_of HT_.out (by kernel_rfl)) (by decide) (fun K hK => ?_)
          refine goes_ Try.func71 (by kernel_rfl) rfl #[.slice A115_0 (rd_L3 l0_1 x35_2).length c115_0] (by rfl) rfl rfl zl ?_
          with_reducible refine (api_Cell_71.calls _ _ (rd_L3 l0_1 x35_2) t116 _ ?side1 ?side2 A45.out).mono ?_
          (case side1 => exact Kd.C_below HR115_0.out zb)
          (case side2 => exact HC115_0.out)
          rintro e w48 ⟨v117, rfl, ho0, hb⟩
          refine ⟨_, rfl, ?_⟩
          have n0_ := zM (Kd.S_elder' (Kd.S_below HO_107000.out zg) (Kd.R_base ho0) hb)
          have n1_ := zM (Kd.S_elder' (Kd.S_below HO_107001.out zg) (Kd.R_base ho0) hb)
          have n2_ := zM (Kd.R_below (zr HO_107003.out) hb)
          have n3_ := zM (Kd.R_lower ho0 (below_size zb))
          have n4_ := zM (blk_below (zk BK101.out) hb)
          have n5_ := zM (blk_below (zk BK102.out) hb)
          have n6_ := zM (blk_below (zk BK106.out) hb)
          have n7_ := zM (below_step zb hb)
          clear HO_107000
          clear HO_107001
          clear HO_107003
          clear BK101
          clear BK102
          clear BK106
          clear HB
          have HO_107000 := n0_
          have HO_107001 := n1_
          have HO_107003 := n2_
          have HO118 := n3_
          have BK101 := n4_
          have BK102 := n5_
          have BK106 := n6_
          have HB := n7_
          clear n0_ n1_ n2_ n3_ n4_ n5_ n6_ n7_
          (try clear hb)
          (try clear hb2)
          (try clear hk)
          (try clear hi)
          (try clear ho0)
          obtain ⟨Ao50, co50, eo50⟩ := Kd.R_slice HO118.out
          (first | subst eo50 | (injection eo50 with f1_ f2_ f3_; have f4_ := f1_.symm; have f5_ := f3_.symm; clear f1_ f2_ f3_; subst f4_; subst f5_))
          refine hK.out _ _ ⟨(zX BK106.out 0).trans rfl, (zX BK106.out 1).trans rfl, (zX BK106.out 2).trans rfl, (zX BK106.out 3).trans rfl⟩ (fun hHeld => ?_)
          clear hK K
          refine norm_ (a' := ?_) ?_ ?_
          rotate_left
          ·
           show Act.put _ (some 42) _ = _
           simp only [Act.put, zp1, zp2, zp3, i64_w, i32_w]
           rfl
          refine one_ (i := 4) (N := some 43) #[true, true, true, true, true, false, false, false] rfl rfl (one_of HT_.out (by kernel_rfl)) (by decide) (fun K hK => ?_)
          refine value_ (w1 := ?_) (v := ?_) (by rfl) rfl ?_ ?_
          rotate_left 2
          ·
           go_simp
           constructor
           ·
            rfl
           ·
            rfl
          refine hK.out _ _ ⟨(zX (blk_alloc BK106.out _) 0).trans rfl, (zX (blk_alloc BK106.out _) 1).trans rfl, (zX (blk_alloc BK106.out _) 2).trans rfl, (zX (blk_alloc BK106.out _) 3).trans rfl⟩ (fun hHeld => ?_)
          clear hK K
          refine norm_ (a' := ?_) ?_ ?_
          rotate_left
          ·
           show Act.put _ (some 43) _ = _
           simp only [Act.put, zp1, zp2, zp3, i64_w, i32_w]
           rfl
          refine one_ (i := 5) (N := some 44) #[true, true, true, true, true, true, false, false] rfl rfl (one_of HT_.out (by kernel_rfl)) (by decide) (fun K hK => ?_)
          refine Kd.S_append_step (Kd.slice 54 k54) (w0 := w) w.heap.size (by rfl) (.tmp 40) (.tmp 43) 25 23 (.slice none 0 0) 24 rfl Try.underlying25 info23 rfl (by decide) (by omega) u107001 x107001_2 t116 [.slice Ao50 t116.length co50] (fun _ => True) (fun k_ => some k_ = (.slice Ao50 t116.length co50 : Value).ownBlock) rfl rfl ?aP (fun k_ hk_ => ((Kd.R_mono (ok' := fun k_ => ((fun _ => True)) k_ ∧ some k_ ≠ (u107001 : Value).ownBlock) (Kd.R_apart' (HO118.out) (Kd.S_typed HO_107001.out) (by decide)) (fun k_ hk => ⟨trivial, hk.2⟩))).1 k_ hk_.symm) ?aF ?aO ?aB ?aS ?aL ?_
          (case aP => exact Kd.M_row (Kd.R_mono (Kd.R_tight rfl (Kd.R_mono (ok' := fun k_ => ((fun _ => True)) k_ ∧ some k_ ≠ (u107001 : Value).ownBlock) (Kd.R_apart' (HO118.out) (Kd.S_typed HO_107001.out) (by decide)) (fun k_ hk => ⟨trivial, hk.2⟩))) (fun _ h_ => h_)))
          (case aB => exact zb)
          (case aF => exact (fun _ _ => trivial))
          (case aO => exact (by (with_reducible repeat (first | apply Kd.S_alloc | apply Kd.S_drewN | apply Kd.S_drew)); exact Kd.S_mono HO_107001.out (fun k_ hk => ⟨trivial, fun e_ => hk.2 e_⟩)))
          (case aS => exact (below_size zb))
          (case aL => have := LMc46.out; omega)
          intro v120 w49 ho hb hg hat
          rw [← Ny119.out] at ho
          have n0_ := zM (Kd.S_over' (Kd.S_below HO_107000.out zg) (Kd.S_typed (Kd.S_below HO_107001.out zg)) (by decide) hg)
          have n1_ := zM (Kd.R_over' (zr HO_107003.out) (Kd.S_typed (Kd.S_below HO_107001.out zg)) (by decide) hg)
          have n2_ := zM (blk_grown (g := gb101) (o := .cells #[.slice A0_0 l0_0.length c0_0, .slice (some ad115) l0_1.length c0_1, .int .i64 a0_2, .slice A0_3 l0_3.length c0_3] 28 (0, 0)) (zk BK101.out) hg (Kd.S_ne HO_107001.out BK101.out (by decide)))
          have n3_ := zM (blk_grown (g := gb102) (o := .cells #[.slice none 0 0, .slice none 0 0, .int .i64 0, .slice none 0 0] 28 (0, 0)) (zk BK102.out) hg (Kd.S_ne HO_107001.out BK102.out (by decide)))
          have n4_ := zM (blk_grown (g := gb106) (o := .cells #[u107000, u107001, .int .i64 a0_2, .slice Ao10 t103.length co10] 28 (0, 0)) (zk BK106.out) hg (Kd.S_ne HO_107001.out BK106.out (by decide)))
          have n5_ := zM (hb)
          have n6_ := zM (ho)
          clear HO_107000
          clear HO_107003
          clear BK101
          clear BK102
          clear BK106
          clear HB
          clear HO_107001
          clear HO118
          have HO_107000 := n0_
          have HO_107003 := n1_
          have BK101 := n2_
          have BK102 := n3_
          have BK106 := n4_
          have HB := n5_
          have HO121 := n6_
          clear n0_ n1_ n2_ n3_ n4_ n5_ n6_
          clear ho hb hg hat
          obtain ⟨Ao51, co51, eo51⟩ := Kd.S_slice HO121.out
          (first | subst eo51 | (injection eo51 with f1_ f2_ f3_; have f4_ := f1_.symm; have f5_ := f3_.symm; clear f1_ f2_ f3_; subst f4_; subst f5_))
          refine hK.out _ _ ⟨(zX BK106.out 0).trans rfl, (zX BK106.out 1).trans rfl, (zX BK106.out 2).trans rfl, (zX BK106.out 3).trans rfl⟩ (fun hHeld => ?_)
          clear hK K
          refine norm_ (a' := ?_) ?_ ?_
          rotate_left
          ·
           show Act.put _ (some 44) _ = _
           simp only [Act.put, zp1, zp2, zp3, i64_w, i32_w]
           rfl
          refine pure_ (i := 6) (N := some 45) (v := ?_) (a' := ?_) #[true, true, true, true, true, true, true, false] rfl rfl (any_of HT_.out (by kernel_rfl)) (fun _ _ _ h => h) (Or.inl ⟨by rfl, ?_⟩) ?_ ?_
          rotate_left
          ·
           intro w'
           go_simp
           with_reducible rfl
          rotate_left
          ·
           simp only [Act.put, zp1, zp2, zp3, i64_w, i32_w]
           rfl
          refine last_ (i := 7) (N := none) #[true, true, true, true, true, true, true, true] rfl rfl (one_of HT_.out (by kernel_rfl)) (by decide) (fun K hK => ?_)
          have hs52 : w49.cell? ⟨gb106, 1, none⟩ = some (u107001) := (zX BK106.out 1).trans rfl
          have hfs52 := zY BK106.out 1
          have hns52_0 := NB101_106.out
          have hns52_1 := NB102_106.out
          have hms52_0 := NB106_101.out
          have hms52_1 := NB106_102.out
          refine skip_ (w1 := ?_) (by rfl) rfl ?_ ?_
          rotate_left
          ·
           go_simp
           rfl
          refine hK.out _ _ ?_
          clear hK K
          refine done_ (done_of HT_.out (by kernel_rfl)) ?_
          try go_wp2
          go_roundg k2
          case measure => have := HK1.out; have := HK2.out; omega
          case rel => exact ⟨(wrap64 (x35_2 + 1)), (y119), (.slice Ao51 y119.length co51), zy, H', ⟨by have := HK1.out; have := HK2.out; omega⟩, ⟨by (with_reducible repeat (first | apply Kd.S_alloc | apply Kd.S_drewN | apply Kd.S_drew)); exact Kd.S_mono (Kd.S_far (p := ⟨gb106, 1, none⟩) (Kd.S_types HO_107000.out BK106.out (by decide)) (fun _ hk => hk.2) (.slice Ao51 y119.length co51)) (fun _ hk => trivial)⟩, ⟨by (with_reducible repeat (first | apply Kd.S_alloc | apply Kd.S_drewN | apply Kd.S_drew)); exact Kd.S_mono (Kd.S_far (p := ⟨gb106, 1, none⟩) (Kd.S_types HO121.out BK106.out (by decide)) (fun _ hk => hk.2) (.slice Ao51 y119.length co51)) (fun _ hk => trivial)⟩, ⟨by (with_reducible repeat (first | apply Kd.R_alloc | apply Kd.R_drewN | apply Kd.R_drew)); exact Kd.R_mono (Kd.R_far (p := ⟨gb106, 1, none⟩) (Kd.R_types HO_107003.out BK106.out (by decide)) (fun _ hk => hk.2) (.slice Ao51 y119.length co51)) (fun _ hk => trivial)⟩, ⟨by refine zk ?_; refine blk_far ?_ NB101_106.out _; refine zk ?_; exact BK101.out⟩, ⟨by refine zk ?_; refine blk_far ?_ NB102_106.out _; refine zk ?_; exact BK102.out⟩, ⟨by refine zk ?_; refine blk_put (cs := #[u107000, u107001, .int .i64 a0_2, .slice Ao10 t103.length co10]) ?_ 1 _ rfl; refine zk ?_; exact BK106.out⟩, ⟨zb⟩⟩
         ·
          rw [if_neg c46] at H
          exact absurd H (by simp)
        ·
         rw [if_neg c44] at H
         exact absurd H (by simp)
       ·
        rw [if_neg c43] at H
        exact absurd H (by simp)
      ·
       rw [if_neg c42] at H
       have c42b0 : decide (x35_2 < (l0_1.length : Int)) = false := zR c42
       clear c42
       simp only [Option.some.injEq, Prod.mk.injEq] at H
       obtain ⟨rfl, rfl, rfl, rfl⟩ := H
       have hnb53 := NB106_101.out
       have hnc53 := NB101_106.out
       have hnb54 := NB106_102.out
       have hnc54 := NB102_106.out
       have hcz55_0 : wr.cell? ⟨gb106, 0, none⟩ = some (u107000) := (zX BK106.out 0).trans rfl
       have hcz55_1 : wr.cell? ⟨gb106, 1, none⟩ = some (u107001) := (zX BK106.out 1).trans rfl
       have hcz55_2 : wr.cell? ⟨gb106, 2, none⟩ = some (.int .i64 a0_2) := (zX BK106.out 2).trans rfl
       have hcz55_3 : wr.cell? ⟨gb106, 3, none⟩ = some (.slice Ao10 t103.length co10) := (zX BK106.out 3).trans rfl
       have hfz55_0 := zY BK106.out 0
       have hfz55_1 := zY BK106.out 1
       have hfz55_2 := zY BK106.out 2
       have hfz55_3 := zY BK106.out 3
       obtain ⟨Ao56, co56, eo56⟩ := Kd.S_slice HO_107000.out
       subst eo56
       have hnb57 := NB102_101.out
       have hnc57 := NB101_102.out
       have hcz58_0 : wr.cell? ⟨gb102, 0, none⟩ = some (.slice none 0 0) := (zX BK102.out 0).trans rfl
       have hcz58_1 : wr.cell? ⟨gb102, 1, none⟩ = some (.slice none 0 0) := (zX BK102.out 1).trans rfl
       have hcz58_2 : wr.cell? ⟨gb102, 2, none⟩ = some (.int .i64 0) := (zX BK102.out 2).trans rfl
       have hcz58_3 : wr.cell? ⟨gb102, 3, none⟩ = some (.slice none 0 0) := (zX BK102.out 3).trans rfl
       have hfz58_0 := zY BK102.out 0
       have hfz58_1 := zY BK102.out 1
       have hfz58_2 := zY BK102.out 2
       have hfz58_3 := zY BK102.out 3
       obtain ⟨Ao59, co59, eo59⟩ := Kd.S_slice HO_107001.out
       subst eo59
       go_wp2
       refine bodyPost_ret (results_cell_row rfl _ _ gb102 28 #[.slice Ao56 x107000_1.length co56, .slice Ao59 x107001_2.length co59, .int .i64 a0_2, .slice Ao10 t103.length co10] (0, 0) _ rfl (by refine zk ?_; refine blk_put (cs := #[.slice Ao56 x107000_1.length co56, .slice Ao59 x107001_2.length co59, .int .i64 a0_2, .slice none 0 0]) ?_ 3 _ rfl; refine zk ?_; refine blk_put (cs := #[.slice Ao56 x107000_1.length co56, .slice Ao59 x107001_2.length co59, .int .i64 0, .slice none 0 0]) ?_ 2 _ rfl; refine zk ?_; refine blk_put (cs := #[.slice Ao56 x107000_1.length co56, .slice none 0 0, .int .i64 0, .slice none 0 0]) ?_ 1 _ rfl; refine zk ?_; refine blk_put (cs := #[.slice none 0 0, .slice none 0 0, .int .i64 0, .slice none 0 0]) ?_ 0 _ rfl; refine zk ?_; exact BK102.out) Try.underlying28 rfl (by kernel_rfl)) rfl ?_
       exact ⟨_, _, _, zw, by (with_reducible repeat (first | apply Kd.S_alloc | apply Kd.S_drewN | apply Kd.S_drew)); exact Kd.S_mono (Kd.S_far (p := ⟨gb102, 3, none⟩) (Kd.S_far (p := ⟨gb102, 2, none⟩) (Kd.S_far (p := ⟨gb102, 1, none⟩) (Kd.S_far (p := ⟨gb102, 0, none⟩) (Kd.S_types HO_107000.out BK102.out (by decide)) (fun _ hk => hk.2) (.slice Ao56 x107000_1.length co56)) (fun _ hk => hk.2) (.slice Ao59 x107001_2.length co59)) (fun _ hk => hk.2) (.int .i64 a0_2)) (fun _ hk => hk.2) (.slice Ao10 t103.length co10)) (fun _ hk => trivial), by (with_reducible repeat (first | apply Kd.S_alloc | apply Kd.S_drewN | apply Kd.S_drew)); exact Kd.S_mono (Kd.S_far (p := ⟨gb102, 3, none⟩) (Kd.S_far (p := ⟨gb102, 2, none⟩) (Kd.S_far (p := ⟨gb102, 1, none⟩) (Kd.S_far (p := ⟨gb102, 0, none⟩) (Kd.S_types HO_107001.out BK102.out (by decide)) (fun _ hk => hk.2) (.slice Ao56 x107000_1.length co56)) (fun _ hk => hk.2) (.slice Ao59 x107001_2.length co59)) (fun _ hk => hk.2) (.int .i64 a0_2)) (fun _ hk => hk.2) (.slice Ao10 t103.length co10)) (fun _ hk => trivial), by (with_reducible repeat (first | apply Kd.R_alloc | apply Kd.R_drewN | apply Kd.R_drew)); exact Kd.R_mono (Kd.R_far (p := ⟨gb102, 3, none⟩) (Kd.R_far (p := ⟨gb102, 2, none⟩) (Kd.R_far (p := ⟨gb102, 1, none⟩) (Kd.R_far (p := ⟨gb102, 0, none⟩) (Kd.R_types HO_107003.out BK102.out (by decide)) (fun _ hk => hk.2) (.slice Ao56 x107000_1.length co56)) (fun _ hk => hk.2) (.slice Ao59 x107001_2.length co59)) (fun _ hk => hk.2) (.int .i64 a0_2)) (fun _ hk => hk.2) (.slice Ao10 t103.length co10)) (fun _ hk => trivial), zb⟩

end Go.Proofs.Ytdlkhpfgkghhmaa.P

-- ==== Rw15
namespace Go.Proofs.Ytdlkhpfgkghhmaa.P
open Go.RowKit Go.Proofs.YtdlkhpfgkghhmaaW.PrintWords Go.Proofs.YtdlkhpfgkghhmaaW.PrintLast Go.Proofs.YtdlkhpfgkghhmaaW.PrintMore
theorem R_get70 {W : World} {B n c : Nat} {A : Option Addr} {ops : List S70} (h : Kd.R k70 70 W B (fun _ => True) (.slice A n c) ops) (x : Nat) (hx : x < n) :
 ∃ ad v3, A = some ad ∧ W.cell? (ad.add (x * 4)) = some (.int .i64 (rd_T70 ops x).f0) ∧ W.cell? (ad.add (x * 4 + 1)) = some (.string (rd_T70 ops x).f1.f0) ∧ W.cell? (ad.add (x * 4 + 2)) = some (.int .i64 (rd_T70 ops x).f1.f1) ∧ W.cell? (ad.add (x * 4 + 3)) = some v3 ∧ Kd.R k54 54 W B (fun _ => True) v3 (rd_T70 ops x).f2 := by
 obtain ⟨hn, _, hC⟩ := Kd.R_reads' h
 obtain ⟨ad, hA, _⟩ := hC.2.2 (by omega)
 subst hA
 obtain ⟨cs, _, hM, hc⟩ := Kd.R_get h z70 (x : Int) (by omega) (by omega)
 obtain ⟨v3, rfl, h3⟩ := k70_openM hM
 exact ⟨ad, v3, rfl, hc 0 _ rfl, hc 1 _ rfl, hc 2 _ rfl, hc 3 _ rfl, Kd.R_mono h3 (fun _ _ => trivial)⟩
def runL (k : Nat) (rules : List S73) : Nat → Mst → Option (Int × Mst)
 | 0, _ => none
 | n + 1, m => if m.ops.length = 0 then some (0, m) else
  if (rd_T70 m.ops ((m.ops.length : Int) - 1)).f0 = 2 then (if m.vals.length < 5864062014800 then runL k rules n ⟨m.ops.take (m.ops.length - 1), m.vals ++ [(rd_T70 m.ops ((m.ops.length : Int) - 1)).f2], m.st, m.hd, m.fu⟩ else none)
  else if 0 ≤ (rd_T70 m.ops ((m.ops.length : Int) - 1)).f1.f1 ∧ (rd_T70 m.ops ((m.ops.length : Int) - 1)).f1.f1.toNat ≤ m.vals.length ∧ (∀ v ∈ m.vals.drop (m.vals.length - (rd_T70 m.ops ((m.ops.length : Int) - 1)).f1.f1.toNat), v.length ≤ 64) then
   (makeN k rules (rd_T70 m.ops ((m.ops.length : Int) - 1)).f1.f0 (rd_T70 m.ops ((m.ops.length : Int) - 1)) (m.vals.drop (m.vals.length - (rd_T70 m.ops ((m.ops.length : Int) - 1)).f1.f1.toNat)) ⟨m.ops.take (m.ops.length - 1), m.vals.take (m.vals.length - (rd_T70 m.ops ((m.ops.length : Int) - 1)).f1.f1.toNat), m.st, m.hd, m.fu⟩).bind fun r => if r.1 = 0 then runL k rules n r.2 else some r
  else none
theorem ops_last {ops : List S70} (h : ops.length ≠ 0) : ops = ops.take (ops.length - 1) ++ [rd_T70 ops ((ops.length : Int) - 1)] := by
 have hl : ops.length - 1 < ops.length := by omega
 have e : rd_T70 ops ((ops.length : Int) - 1) = ops[ops.length - 1] := by
  simp only [rd_T70, List.getD_eq_getElem?_getD]
  rw [show ((ops.length : Int) - 1).toNat = ops.length - 1 by omega, List.getElem?_eq_getElem hl]
  rfl
 rw [e]
 have h2 := List.take_append_drop (ops.length - 1) ops
 rw [List.drop_eq_getElem_cons hl, List.drop_eq_nil_of_le (by omega)] at h2
 exact h2.symm
theorem isMc_new {B : Nat} {W : World} {rv tv vo vv vh : Value} {ops : List S70} {vals : List (List S54)} {st fu : Int} {hd : List ByteArray} (hB : B ≤ W.heap.size) (h0 : Kd.R k70 70 W B (fun _ => True) vo ops) (h1 : Kd.R (Kd.slice 54 k54) 23 W B (fun _ => True) vv vals) (h3 : Kd.R Kd.string 9 W B (fun _ => True) vh hd) :
 IsMc B (W.alloc (.cells #[vo, vv, .int .i64 st, vh, rv, tv, .int .i64 fu] 94)) W.heap.size rv tv ops vals st hd fu :=
 ⟨vo, vv, vh, heap_alloc_new W _, hB, Kd.R_alloc h0 _, Kd.R_alloc h1 _, Kd.R_alloc h3 _⟩

-- ==== Rw16
def mayL (k : Nat) : List S70 → Option (List Bool)
 | [] => some []
 | o :: u => (rewrite_may.f k o.f0 o.f1.f0 o.f1.f1 o.f2).bind fun b => (mayL k u).bind fun l => some (b :: l)
theorem mayL_get {k : Nat} : ∀ {ops : List S70} {l : List Bool}, mayL k ops = some l → ∀ x : Nat, x < ops.length → rewrite_may.f k (rd_T70 ops x).f0 (rd_T70 ops x).f1.f0 (rd_T70 ops x).f1.f1 (rd_T70 ops x).f2 = some (l.getD x false)
 | [], _, _, x, hx => absurd hx (Nat.not_lt_zero x)
 | o :: u, l, h, x, hx => by
  obtain ⟨b, hb, h⟩ := Option.bind_eq_some_iff.mp h
  obtain ⟨l', hl, h⟩ := Option.bind_eq_some_iff.mp h
  obtain rfl := Option.some.inj h
  cases x with
  | zero => exact hb
  | succ y =>
   have := mayL_get hl y (by simpa using hx)
   simpa [rd_T70] using this
def chkF (k : Nat) (ops : List S70) (vals : List (List S54)) (st : Int) (hd : List ByteArray) : Option Int :=
 (mayL k ops).bind fun l => postF k vals st hd (chkB ops (fun x => l.getD x false) (List.range ops.length).reverse vals.length)
theorem check_calls {k co cv ch : Nat} {w : World} {Ao Av Ah : Option Addr} {ops : List S70} {vals : List (List S54)} {st : Int} {hd : List ByteArray} {r : Int}
 (hO : Kd.C k70 w Ao ops.length ops) (hV : Kd.C (Kd.slice 54 k54) w Av vals.length vals) (hH : Kd.C Kd.string w Ah hd.length hd) (h : chkF k ops vals st hd = some r) :
 Calls Try.prog 16 #[.agg #[.slice Ao ops.length co, .slice Av vals.length cv, .int .i64 st, .slice Ah hd.length ch]] w fun e W' => e = .returned (.int .i64 r) ∧ Below w.heap.size w W' := by
 obtain ⟨l, hl, h⟩ := Option.bind_eq_some_iff.mp h
 exact check_in hO hV hH h (mayL_get hl)
def runF (k gas : Nat) (rules : List S73) (ops : List S70) (vals : List (List S54)) (st : Int) (hd : List ByteArray) (fu : Int) : Option (Int × Mst) :=
 (rewrite_together.f k rules).bind fun e => if e = 0 then (chkF k ops vals st hd).bind fun e => if e = 0 then (rewrite_clone.f k ops vals st hd).bind fun c => runL k rules gas ⟨c.1, c.2.1, c.2.2.1, c.2.2.2, fu⟩ else some (e, ⟨[], [], 0, [], 0⟩) else some (e, ⟨[], [], 0, [], 0⟩)

-- ==== Rw17
def RunEnd (B : Nat) (r : Int × Mst) (e : Ending) (w' : World) : Prop :=
 ∃ v0 v1 v3 : Value, e = .returned (.tuple #[.agg #[v0, v1, .int .i64 r.2.st, v3], .int .i64 r.1]) ∧ StEnd B w' v0 v1 v3 r.2.ops r.2.vals r.2.hd
theorem R_last70 {W : World} {B n c : Nat} {A : Option Addr} {ops : List S70} (h : Kd.R k70 70 W B (fun _ => True) (.slice A n c) ops) (x : Nat) (hx : x < n) :
 ∃ ad A3 c3, A = some ad ∧ W.cell? (ad.add (x * 4)) = some (.int .i64 (rd_T70 ops x).f0) ∧ W.cell? ⟨(ad.add (x * 4)).block, (ad.add (x * 4)).off + 1, none⟩ = some (.string (rd_T70 ops x).f1.f0) ∧ W.cell? ⟨(ad.add (x * 4)).block, (ad.add (x * 4)).off + 2, none⟩ = some (.int .i64 (rd_T70 ops x).f1.f1) ∧ W.cell? ⟨(ad.add (x * 4)).block, (ad.add (x * 4)).off + 3, none⟩ = some (.slice A3 (rd_T70 ops x).f2.length c3) ∧ Kd.R k54 54 W B (fun _ => True) (.slice A3 (rd_T70 ops x).f2.length c3) (rd_T70 ops x).f2 := by
 obtain ⟨hn, _, _⟩ := Kd.R_reads' h
 obtain ⟨g, c', he, _⟩ := Kd.R_form h (by omega)
 injection he with he
 subst he
 obtain ⟨ad, v3, he, h0, h1, h2, h3, hr⟩ := R_get70 h x hx
 injection he with he
 subst he
 obtain ⟨A3, c3, rfl⟩ := Kd.R_slice hr
 simp only [add_plain] at h0 h1 h2 h3 ⊢
 exact ⟨_, A3, c3, rfl, by rw [add_plain]; exact h0, by rw [add_plain]; exact h1, by rw [add_plain]; exact h2, by rw [add_plain]; exact h3, hr⟩
theorem noGoto_ret {Q : Exit → Act → World → Prop} {a : Act} {w : World} (h : Q .ret a w) : Exit.noGoto Q .ret a w := h
set_option maxHeartbeats 8000000 in
set_option maxRecDepth 100000 in
theorem run_calls {k gas cr co cv ch : Nat} {w : World} {Ar Ao Av Ah : Option Addr} {rules : List S73} {ops : List S70} {vals : List (List S54)} {st fu : Int} {hd : List ByteArray} {r : Int × Mst}
 (hR : Kd.C k73 w Ar rules.length rules) (hcr : rules.length ≤ cr) (hO : Kd.C k70 w Ao ops.length ops) (hco : ops.length ≤ co) (hV : Kd.C (Kd.slice 54 k54) w Av vals.length vals) (hcv : vals.length ≤ cv) (hH : Kd.C Kd.string w Ah hd.length hd) (hch : hd.length ≤ ch)
 (h : runF k gas rules ops vals st hd fu = some r) :
 Calls Try.prog 20 #[.slice Ar rules.length cr, .agg #[.slice Ao ops.length co, .slice Av vals.length cv, .int .i64 st, .slice Ah hd.length ch], .int .i64 fu, .nilIface] w fun e w' => RunEnd w.heap.size r e w' ∧ Below w.heap.size w w' := by
 obtain ⟨e1, he1, h⟩ := Option.bind_eq_some_iff.mp h
 have HR := Aside0.mk hR
 have HR0 := Aside0.mk hR
 have HO := Aside0.mk hO
 have HV := Aside0.mk hV
 have HH := Aside0.mk hH
 have HH0 := Aside0.mk h
 have HBW := Aside0.mk (Below.refl w.heap.size w)
 have T1 := fun (W : World) (hW : Below w.heap.size w W) => rewrite_together.calls k Ar cr rules e1 W (Kd.C_below HR.out hW) hcr he1
 clear hR hO hV hH h he1
 by_cases h1 : e1 = 0
 case neg =>
  have hr := HH0.out
  rw [if_neg h1] at hr
  obtain rfl := Option.some.inj hr
  have hb1 : (e1 != 0) = true := bne_iff_ne.mpr h1
  clear hr HH0
  go_enter Try.func20, Try.ntmps20
  go_wp2
  refine wp_scope_straight ?_
  go_wp2_with (go_at_call 46; (with_reducible refine (T1 _ ?side1).mono ?_); (case side1 => exact (zq HBW.out)); rintro e w1 ⟨rfl, hb⟩; have hz := (hb.block (w.heap.size + 1) (by simp)).trans (al2_1 w _ _); have HZ := Aside0.mk hz; have z0 := (blk_cell hz 0).trans rfl; have z1 := (blk_cell hz 1).trans rfl; have z2 := (blk_cell hz 2).trans rfl; have z3 := (blk_cell hz 3).trans rfl; have y0 := blk_frozen hz 0; have y1 := blk_frozen hz 1; have y2 := blk_frozen hz 2; have y3 := blk_frozen hz 3; clear hz; have HB1 := Aside0.mk (below_step (zq HBW.out) hb); clear hb)
  refine noGoto_ret ?_
  refine bodyPost_ret (results_ct rfl _ _ (w.heap.size + 1) 28 _ (0, 0) _ rfl (set4_blk HZ.out _ _ _ _) Try.underlying28 rfl (by kernel_rfl)) rfl ?_
  exact ⟨⟨_, _, _, rfl, stEnd_nil _ _⟩, set4_below HB1.out (Nat.le_succ _) _ _ _ _⟩
 subst h1
 have hr := HH0.out
 rw [if_pos rfl] at hr
 replace hr := Option.bind_eq_some_iff.mp hr
 obtain ⟨e2, he2, hr⟩ := hr
 have C1 := fun (W : World) (hW : Below w.heap.size w W) => check_calls (co := co) (cv := cv) (ch := ch) (Kd.C_below HO.out hW) (Kd.C_below HV.out hW) (Kd.C_below HH.out hW) he2
 have HR2 := Aside0.mk hr
 clear hr he2 HH0
 by_cases h2 : e2 = 0
 case neg =>
  have hr := HR2.out
  rw [if_neg h2] at hr
  obtain rfl := Option.some.inj hr
  have hb1 : (e2 != 0) = true := bne_iff_ne.mpr h2
  clear hr HR2
  go_enter Try.func20, Try.ntmps20
  go_wp2
  refine wp_scope_straight ?_
  go_wp2_with (first | (go_at_call 46; (with_reducible refine (T1 _ ?side1).mono ?_); (case side1 => exact (zq HBW.out)); rintro e w1 ⟨rfl, hb⟩; have hz := (hb.block (w.heap.size + 1) (by simp)).trans (al2_1 w _ _); have hs := (hb.block w.heap.size (by simp; omega)).trans (al2_0 w _ _); have HZ1 := Aside0.mk hz; have HS1 := Aside0.mk hs; have s0 := (blk_cell hs 0).trans rfl; have s1 := (blk_cell hs 1).trans rfl; have s2 := (blk_cell hs 2).trans rfl; have s3 := (blk_cell hs 3).trans rfl; have HB1 := Aside0.mk (below_step (zq HBW.out) hb); clear hz hs hb) | (go_at_call 16; (with_reducible refine (C1 _ ?side2).mono ?_); (case side2 => exact (zq HB1.out)); rintro e w2 ⟨rfl, hb⟩; have hz := blk_below HZ1.out hb; have hs := blk_below HS1.out hb; have HZ2 := Aside0.mk hz; have HS2 := Aside0.mk hs; have z0 := (blk_cell hz 0).trans rfl; have z1 := (blk_cell hz 1).trans rfl; have z2 := (blk_cell hz 2).trans rfl; have z3 := (blk_cell hz 3).trans rfl; have y0 := blk_frozen hz 0; have y1 := blk_frozen hz 1; have y2 := blk_frozen hz 2; have y3 := blk_frozen hz 3; have HB2 := Aside0.mk (below_step (zq HB1.out) hb); clear hz hs hb))
  refine noGoto_ret ?_
  refine bodyPost_ret (results_ct rfl _ _ (w.heap.size + 1) 28 _ (0, 0) _ rfl (set4_blk HZ2.out _ _ _ _) Try.underlying28 rfl (by kernel_rfl)) rfl ?_
  exact ⟨⟨_, _, _, rfl, stEnd_nil _ _⟩, set4_below HB2.out (Nat.le_succ _) _ _ _ _⟩
 subst h2
 have hr := HR2.out
 rw [if_pos rfl] at hr
 replace hr := Option.bind_eq_some_iff.mp hr
 obtain ⟨⟨c1, c2, c3, c4⟩, hcl, hr⟩ := hr
 have K1 := fun (W : World) (hW : Below w.heap.size w W) => rewrite_clone.calls k Ao co ops Av cv vals st Ah ch hd c1 c2 c3 c4 W (Kd.C_below HO.out hW) hco (Kd.C_below HV.out hW) hcv (Kd.C_below HH.out hW) hch hcl
 have HR3 := Aside0.mk hr
 clear hr hcl HR2
 go_enter Try.func20, Try.ntmps20
 go_wp2
 refine wp_scope_straight ?_
 go_upto_region 8 with (first | (go_at_call 46; (with_reducible refine (T1 _ ?side1).mono ?_); (case side1 => exact (zq HBW.out)); rintro e w1 ⟨rfl, hb⟩; have hz := (hb.block (w.heap.size + 1) (by simp)).trans (al2_1 w _ _); have hs := (hb.block w.heap.size (by simp; omega)).trans (al2_0 w _ _); have HZ1 := Aside0.mk hz; have HS1 := Aside0.mk hs; have s0 := (blk_cell hs 0).trans rfl; have s1 := (blk_cell hs 1).trans rfl; have s2 := (blk_cell hs 2).trans rfl; have s3 := (blk_cell hs 3).trans rfl; have HB1 := Aside0.mk (below_step (zq HBW.out) hb); clear hz hs hb) | (go_at_call 16; (with_reducible refine (C1 _ ?side2).mono ?_); (case side2 => exact (zq HB1.out)); rintro e w2 ⟨rfl, hb⟩; have hz := blk_below HZ1.out hb; have hs := blk_below HS1.out hb; have HZ2 := Aside0.mk hz; have HS2 := Aside0.mk hs; have s0 := (blk_cell hs 0).trans rfl; have s1 := (blk_cell hs 1).trans rfl; have s2 := (blk_cell hs 2).trans rfl; have s3 := (blk_cell hs 3).trans rfl; have HB2 := Aside0.mk (below_step (zq HB1.out) hb); clear hz hs hb) | (go_at_call 47; (with_reducible refine (K1 _ ?side3).mono ?_); (case side3 => exact (zq HB2.out)); rintro e w3 ⟨v0, v1, v3, rfl, ho0, ho1, ho3, hb⟩; have HV0 := Aside0.mk (show Kd.R k70 70 w3 w2.heap.size (fun _ => True) v0 c1 from Kd.S_R ho0); have HV1 := Aside0.mk (show Kd.R (Kd.slice 54 k54) 23 w3 w2.heap.size (fun _ => True) v1 c2 from Kd.S_R ho1); have HV3 := Aside0.mk (show Kd.R Kd.string 9 w3 w2.heap.size (fun _ => True) v3 c4 from ho3); have HB23 := Aside0.mk (show Below w2.heap.size w2 w3 from hb); have HZ3 := Aside0.mk (blk_below HZ2.out hb); have HB3 := Aside0.mk (below_step (zq HB2.out) hb); clear ho0 ho1 ho3 hb))
 have HM := Aside0.mk (isMc_new (rv := .slice Ar rules.length cr) (tv := .nilIface) (st := c3) (fu := fu) HB23.out.size HV0.out HV1.out HV3.out)
 have HZ4 := Aside0.mk (blk_below HZ3.out (below_alloc (Below.refl _ _) (.cells #[v0, v1, .int .i64 c3, v3, .slice Ar rules.length cr, .nilIface, .int .i64 fu] 94)))
 have HB4 := Aside0.mk (below_step HB23.out (below_alloc (Below.refl _ _) (.cells #[v0, v1, .int .i64 c3, v3, .slice Ar rules.length cr, .nilIface, .int .i64 fu] 94)))
 have HL2 := Aside0.mk (blk_lt HZ2.out)
 generalize (w3.alloc (.cells #[v0, v1, .int .i64 c3, v3, .slice Ar rules.length cr, .nilIface, .int .i64 fu] 94)) = w4 at HM HZ4 HB4 ⊢
 generalize w3.heap.size = g at HM ⊢
 clear HV0 HV1 HV3 HZ1 HS1 HS2 HZ3 T1 C1 K1
 go_wp2
 refine wp_label ?_
 go_wp2
 go_loopg [13] gas (fun kq v13 w' => ∃ m : Mst, v13 = .int .i64 0 ∧ Aside0 (runL k rules kq m = some r) ∧ Aside0 (IsM w2.heap.size w' g (.slice Ar rules.length cr) .nilIface m) ∧ Aside0 (Below w2.heap.size w2 w'))
 case atStart => exact ⟨⟨c1, c2, c3, c4, fu⟩, rfl, HR3, HM, HB4⟩
 case round =>
  clear HR3 HM HB4 HZ4
  obtain ⟨m, rfl, HR, HM, HB4⟩ := hrel
  cases gk with
  | zero => exact absurd HR.out (by simp [runL])
  | succ k1 =>
   have hr := HR.out
   rw [runL] at hr
   obtain ⟨vo, vv, vh, hb, hg, hO, hV, hH⟩ := HM.out
   obtain ⟨Ao2, co2, rfl⟩ := Kd.R_slice hO
   obtain ⟨Av2, cv2, rfl⟩ := Kd.R_slice hV
   obtain ⟨Ah2, ch2, rfl⟩ := Kd.R_slice hH
   have hm0 : wr.cell? ⟨g, 0, none⟩ = some (.slice Ao2 m.ops.length co2) := (blk_cell hb 0).trans rfl
   have HZ := Aside0.mk (blk_below HZ2.out HB4.out)
   have HGB := Aside0.mk hg
   have HO2 := Aside0.mk hO
   have HV2 := Aside0.mk hV
   have HH2 := Aside0.mk hH
   have HBK := Aside0.mk hb
   by_cases hl : m.ops.length = 0
   ·
    rw [if_pos hl] at hr
    obtain rfl := Option.some.inj hr
    have hd1 : decide ((0 : Int) < (m.ops.length : Int)) = false := decide_eq_false (by omega)
    have hd2 : decide ((m.ops.length : Int) > 0) = false := decide_eq_false (by omega)
    have hd3 : (0 < m.ops.length) = False := eq_false (by omega)
    have m1 := (blk_cell hb 1).trans rfl
    have m2 := (blk_cell hb 2).trans rfl
    have m3 := (blk_cell hb 3).trans rfl
    have z0 := (blk_cell HZ.out 0).trans rfl
    have z1 := (blk_cell HZ.out 1).trans rfl
    have z2 := (blk_cell HZ.out 2).trans rfl
    have z3 := (blk_cell HZ.out 3).trans rfl
    have y0 := blk_frozen HZ.out 0
    have y1 := blk_frozen HZ.out 1
    have y2 := blk_frozen HZ.out 2
    have y3 := blk_frozen HZ.out 3
    clear hr HR hb hg hO hV hH
    have HLN := Aside0.mk hl
    clear hl
    go_wp2
    refine noGoto_ret ?_
    refine bodyPost_ret (results_ct rfl _ _ (w.heap.size + 1) 28 _ (0, 0) _ rfl (set4_blk HZ.out _ _ _ _) Try.underlying28 rfl (by kernel_rfl)) rfl ?_
    have hle : w.heap.size ≤ w2.heap.size := HB2.out.size
    exact ⟨⟨_, _, _, rfl, stEnd_of (set4_R (Kd.R_lower HO2.out hle) HZ.out (by decide) _ _ _ _) (set4_R (Kd.R_lower HV2.out hle) HZ.out (by decide) _ _ _ _) (set4_R (Kd.R_lower HH2.out hle) HZ.out (by decide) _ _ _ _)⟩, set4_below (below_step HB2.out HB4.out) (Nat.le_succ _) _ _ _ _⟩
   ·
    rw [if_neg hl] at hr
    have hN := Kd.C_max (Kd.R_reads' hO).2.2
    obtain ⟨ad, A3, c3, rfl, q0, q1, q2, q3, hr3⟩ := R_last70 hO (m.ops.length - 1) (by omega)
    rw [show ((m.ops.length - 1 : Nat) : Int) = (m.ops.length : Int) - 1 by omega] at q0 q1 q2 q3 hr3
    have hlast := ops_last hl
    generalize rd_T70 m.ops ((m.ops.length : Int) - 1) = o at q0 q1 q2 q3 hr3 hlast hr
    have hd1 : decide ((0 : Int) < (m.ops.length : Int)) = true := decide_eq_true (by omega)
    have hd2 : decide ((m.ops.length : Int) > 0) = true := decide_eq_true (by omega)
    have hd3 : (0 < m.ops.length) = True := eq_true (by omega)
    have hw1 : IntKind.i64.wrap ((m.ops.length : Int) - 1) = (m.ops.length : Int) - 1 := IntWalk.i64_in _ (by omega)
    have hp1 : ((0 : Int) ≤ (m.ops.length : Int) - 1) = True := eq_true (by omega)
    have hp2 : ((m.ops.length : Int) - 1 < (m.ops.length : Int)) = True := eq_true (by omega)
    have hp3 : ((m.ops.length : Int) - 1).toNat = m.ops.length - 1 := by omega
    have hp4 : ((1 : Int) ≤ (m.ops.length : Int)) = True := eq_true (by omega)
    have hba := below_alloc (Below.refl wr.heap.size wr) (.cells #[.int .i64 0, .string ⟨#[]⟩, .int .i64 0, .slice none 0 0] 70)
    have hm0' := pw_cell_below hba hm0
    have q0' := pw_cell_below hba q0
    have q1' := pw_cell_below hba q1
    have q2' := pw_cell_below hba q2
    have q3' := pw_cell_below hba q3
    have hnb := heap_alloc_new wr (.cells #[.int .i64 0, .string ⟨#[]⟩, .int .i64 0, .slice none 0 0] 70)
    have n0 := (blk_cell hnb 0).trans rfl
    have n1 := (blk_cell hnb 1).trans rfl
    have n2 := (blk_cell hnb 2).trans rfl
    have n3 := (blk_cell hnb 3).trans rfl
    have u0 := blk_frozen hnb 0
    have u1 := blk_frozen hnb 1
    have u2 := blk_frozen hnb 2
    have u3 := blk_frozen hnb 3
    have HNB := Aside0.mk hnb
    clear hba hnb
    have HR3' := Aside0.mk hr3
    have HLA := Aside0.mk hlast
    have HRR := Aside0.mk hr
    clear hr HR hb hg hO hV hH hr3 hlast
    go_upto_region 10 with fail
    go_region
    have hb6 : Below wr.heap.size wr (wr.alloc (.cells #[.int .i64 o.f0, .string o.f1.f0, .int .i64 o.f1.f1, .slice A3 o.f2.length c3] 70)).drew := below_drew1 (below_alloc (Below.refl _ _) _)
    have HM6 := Aside0.mk (isMc_below HM.out hb6)
    have HX6 := Aside0.mk (show (wr.alloc (.cells #[.int .i64 o.f0, .string o.f1.f0, .int .i64 o.f1.f1, .slice A3 o.f2.length c3] 70)).drew.heap[wr.heap.size]? = some (.cells #[.int .i64 o.f0, .string o.f1.f0, .int .i64 o.f1.f1, .slice A3 o.f2.length c3] 70 (0, 0)) from heap_alloc_new wr _)
    have HR6 := Aside0.mk (Kd.R_below HR3'.out hb6)
    have HB6 := Aside0.mk (below_step HB4.out hb6)
    generalize (wr.alloc (.cells #[.int .i64 o.f0, .string o.f1.f0, .int .i64 o.f1.f1, .slice A3 o.f2.length c3] 70)).drew = w6 at HM6 HX6 HR6 HB6 ⊢
    generalize wr.heap.size = bx at HX6 ⊢
    have x0 : w6.cell? ⟨bx, 0, none⟩ = some (.int .i64 o.f0) := (blk_cell HX6.out 0).trans rfl
    have x1 : w6.cell? ⟨bx, 1, none⟩ = some (.string o.f1.f0) := (blk_cell HX6.out 1).trans rfl
    have x2 : w6.cell? ⟨bx, 2, none⟩ = some (.int .i64 o.f1.f1) := (blk_cell HX6.out 2).trans rfl
    have x3 : w6.cell? ⟨bx, 3, none⟩ = some (.slice A3 o.f2.length c3) := (blk_cell HX6.out 3).trans rfl
    clear hb6 hm0 hm0' q0 q1 q2 q3 q0' q1' q2' q3' n0 n1 n2 n3 u0 u1 u2 u3 HNB HR3' HO2 HV2 HH2 HBK HM HB4 hd1 hd2 hd3 hw1 hp1 hp2 hp3 hp4 hN HZ
    have hr := HRR.out
    by_cases ho : o.f0 = 2
    ·
     rw [if_pos ho] at hr
     by_cases hlt : m.vals.length < 5864062014800
     case neg => rw [if_neg hlt] at hr; cases hr
     rw [if_pos hlt] at hr
     have HF := Aside0.mk hr
     have hb2 : (o.f0 == 2) = true := beq_iff_eq.mpr ho
     have hM6 := HM6.out
     rw [HLA.out, show m.vals = m.vals ++ [] by simp] at hM6
     have F1 : Calls Try.prog 48 #[.pointer (some ⟨g, 0, none⟩), .int .i64 0, .slice A3 o.f2.length c3] w6 (fun e w' => e = .returned (.tuple #[]) ∧ IsMc w2.heap.size w' g (.slice Ar rules.length cr) .nilIface (m.ops.take (m.ops.length - 1)) (m.vals ++ [o.f2]) m.st m.hd m.fu ∧ Below w2.heap.size w6 w') := fin_calls (args := []) hM6 HR6.out (by omega)
     clear hr HRR ho hM6
     go_wp2_with (go_at_call 48; (with_reducible refine F1.mono ?_); rintro e w7 ⟨rfl, hM7, hB7⟩; have HM7 := Aside0.mk hM7; have HB7 := Aside0.mk (below_trB HB6.out hB7); clear hM7 hB7)
     go_roundg k1
     case measure => omega
     case rel => exact ⟨⟨m.ops.take (m.ops.length - 1), m.vals ++ [o.f2], m.st, m.hd, m.fu⟩, rfl, HF, HM7, HB7⟩
    ·
     rw [if_neg ho] at hr
     by_cases hsp : 0 ≤ o.f1.f1 ∧ o.f1.f1.toNat ≤ m.vals.length ∧ (∀ v ∈ m.vals.drop (m.vals.length - o.f1.f1.toNat), v.length ≤ 64)
     case neg => rw [if_neg hsp] at hr; cases hr
     rw [if_pos hsp] at hr
     replace hr := Option.bind_eq_some_iff.mp hr
     obtain ⟨r1, hmk, hr⟩ := hr
     have hb2 : (o.f0 == 2) = false := beq_eq_false_iff_ne.mpr ho
     have hM6 := HM6.out
     rw [HLA.out, show m.vals = m.vals.take (m.vals.length - o.f1.f1.toNat) ++ m.vals.drop (m.vals.length - o.f1.f1.toNat) from (List.take_append_drop _ _).symm] at hM6
     have hal : ((m.vals.drop (m.vals.length - o.f1.f1.toNat)).length : Int) = o.f1.f1 := by rw [List.length_drop]; omega
     have F1 := make_calls (m := ⟨m.ops.take (m.ops.length - 1), m.vals.take (m.vals.length - o.f1.f1.toNat), m.st, m.hd, m.fu⟩) hM6 HR0.out HB2.out.size (below_step HB2.out HB6.out) hsp.2.2 hmk
     rw [hal] at F1
     have HR1 := Aside0.mk hr
     clear hr HRR ho hM6 hsp hmk hal
     by_cases h10 : r1.1 = 0
     ·
      have hr := HR1.out
      rw [if_pos h10] at hr
      have HF := Aside0.mk hr
      rw [h10] at F1
      clear hr HR1
      go_wp2_with (go_at_call 49; (with_reducible refine F1.mono ?_); rintro e w7 ⟨rfl, hM7, hB7⟩; have HM7 := Aside0.mk hM7; have HB7 := Aside0.mk (below_trB HB6.out hB7); clear hM7 hB7)
      go_roundg k1
      case measure => omega
      case rel => exact ⟨r1.2, rfl, HF, HM7, HB7⟩
     ·
      have hr := HR1.out
      rw [if_neg h10] at hr
      obtain rfl := Option.some.inj hr
      have hb3 : (r1.1 != 0) = true := bne_iff_ne.mpr h10
      have hle : w.heap.size ≤ w2.heap.size := HB2.out.size
      clear hr HR1 h10
      go_wp2_with (go_at_call 49; (with_reducible refine F1.mono ?_); rintro e w7 ⟨rfl, hM7, hB7⟩; have HB7 := Aside0.mk (below_trB HB6.out hB7); have HZ := Aside0.mk (blk_below HZ2.out HB7.out); obtain ⟨vo7, vv7, vh7, hb_, _, hO7, hV7, hH7⟩ := hM7; obtain ⟨Ao7, co7, rfl⟩ := Kd.R_slice hO7; obtain ⟨Av7, cv7, rfl⟩ := Kd.R_slice hV7; obtain ⟨Ah7, ch7, rfl⟩ := Kd.R_slice hH7; have m0 := (blk_cell hb_ 0).trans rfl; have m1 := (blk_cell hb_ 1).trans rfl; have m2 := (blk_cell hb_ 2).trans rfl; have m3 := (blk_cell hb_ 3).trans rfl; have z0 := (blk_cell HZ.out 0).trans rfl; have y0 := blk_frozen HZ.out 0; have z1 := (blk_cell HZ.out 1).trans rfl; have y1 := blk_frozen HZ.out 1; have z2 := (blk_cell HZ.out 2).trans rfl; have y2 := blk_frozen HZ.out 2; have z3 := (blk_cell HZ.out 3).trans rfl; have y3 := blk_frozen HZ.out 3; have HO7 := Aside0.mk hO7; have HV7 := Aside0.mk hV7; have HH7 := Aside0.mk hH7; clear hb_ hO7 hV7 hH7 hB7)
      refine noGoto_ret ?_
      refine bodyPost_ret (results_ct rfl _ _ (w.heap.size + 1) 28 _ (0, 0) _ rfl (set4_blk HZ.out _ _ _ _) Try.underlying28 rfl (by kernel_rfl)) rfl ?_
      exact ⟨⟨_, _, _, rfl, stEnd_of (set4_R (Kd.R_lower HO7.out hle) HZ.out (by decide) _ _ _ _) (set4_R (Kd.R_lower HV7.out hle) HZ.out (by decide) _ _ _ _) (set4_R (Kd.R_lower HH7.out hle) HZ.out (by decide) _ _ _ _)⟩, set4_below (below_step HB2.out HB7.out) (Nat.le_succ _) _ _ _ _⟩

-- ==== Rw18
def normF (k gas : Nat) (rules : List S73) (t : List S54) (fu : Int) : Option (List S54 × Int × Int) :=
 (rewrite_together.f k rules).bind fun e => if e = 0 then (startF k t).bind fun s => if s.2.2.2.2 = 0 then (runF k gas rules s.1 s.2.1 s.2.2.1 s.2.2.2.1 fu).bind fun r => if r.1 = 0 then (if 0 < r.2.vals.length then some (rd_L3 r.2.vals 0, r.2.st, 0) else none) else some ([], 0, r.1) else some ([], 0, s.2.2.2.2) else some ([], 0, e)
theorem set4_N {α : Type} {d : Kd α} {e B b : Nat} {ok : Nat → Prop} {W : World} {v : Value} {xs : List α} (h : Kd.N d e W B ok v xs) (hok : ∀ k, ok k → k ≠ b) (b1 b2 b3 b4 : Value) :
 Kd.N d e ((((W.setCell ⟨b, 0, none⟩ b1).setCell ⟨b, 1, none⟩ b2).setCell ⟨b, 2, none⟩ b3).setCell ⟨b, 3, none⟩ b4) B ok v xs :=
 Kd.N_far (p := ⟨b, 3, none⟩) (Kd.N_far (p := ⟨b, 2, none⟩) (Kd.N_far (p := ⟨b, 1, none⟩) (Kd.N_far (p := ⟨b, 0, none⟩) h hok _) hok _) hok _) hok _
theorem at_F3 {W : World} {ok : Nat → Prop} {A : Option Addr} {n : Nat} {xs : List (List S54)} (h : Kd.F (Kd.slice 54 k54) W ok A n xs) (i : Int) (h0 : 0 ≤ i) (h1 : i < n) :
 ∃ ad A' c', A = some ad ∧ W.cell? (ad.add i.toNat) = some (.slice A' (rd_L3 xs i).length c') ∧ (rd_L3 xs i).length ≤ c' ∧ Kd.F k54 W ok A' (rd_L3 xs i).length (rd_L3 xs i) := by
 obtain ⟨ad, cs, rfl, hl, hK, hcc, _⟩ := Kd.F_get h [] i h0 h1
 obtain ⟨A', c', rfl, hl', hF⟩ := Kd.FK_slice_open hK
 have h2 := hcc 0 _ rfl
 rw [show i.toNat * (Kd.slice 54 k54).sz + 0 = i.toNat from Nat.mul_one _] at h2
 exact ⟨ad, A', c', rfl, h2, hl', hF⟩
set_option maxHeartbeats 8000000 in
set_option maxRecDepth 100000 in
theorem normal_calls {k gas cr ct : Nat} {w : World} {Ar At : Option Addr} {rules : List S73} {t : List S54} {fu : Int} {r : List S54 × Int × Int}
 (hR : Kd.C k73 w Ar rules.length rules) (hcr : rules.length ≤ cr) (hT : Kd.C k54 w At t.length t) (hct : t.length ≤ ct) (h : normF k gas rules t fu = some r) :
 Calls Try.prog 24 #[.slice Ar rules.length cr, .slice At t.length ct, .int .i64 fu] w fun e w' => ∃ (A : Option Addr) (c : Nat), e = .returned (.tuple #[.slice A r.1.length c, .int .i64 r.2.1, .int .i64 r.2.2]) ∧ r.1.length ≤ c ∧ Kd.F k54 w' (fun k_ => w.heap.size ≤ k_) A r.1.length r.1 ∧ Below w.heap.size w w' := by
 obtain ⟨e1, he1, h⟩ := Option.bind_eq_some_iff.mp h
 have HR := Aside0.mk hR
 have HT := Aside0.mk hT
 have HH0 := Aside0.mk h
 have HBW := Aside0.mk (Below.refl w.heap.size w)
 have T1 := fun (W : World) (hW : Below w.heap.size w W) => rewrite_together.calls k Ar cr rules e1 W (Kd.C_below HR.out hW) hcr he1
 clear hR hT h he1
 by_cases h1 : e1 = 0
 case neg =>
  have hr := HH0.out
  rw [if_neg h1] at hr
  obtain rfl := Option.some.inj hr
  have hb1 : (e1 != 0) = true := bne_iff_ne.mpr h1
  clear hr HH0
  go_enter Try.func24, Try.ntmps24
  go_wp2_with (go_at_call 46; (with_reducible refine (T1 _ ?side1).mono ?_); (case side1 => exact (zq HBW.out)); rintro e w1 ⟨rfl, hb⟩; have HB1 := Aside0.mk (below_step (zq HBW.out) hb); clear hb)
  refine bodyPost_ret (results_tmp3 rfl _ _ _) rfl ?_
  exact ⟨none, 0, rfl, Nat.le_refl _, Kd.F_nil _ _ _, HB1.out⟩
 subst h1
 have hr := HH0.out
 rw [if_pos rfl] at hr
 replace hr := Option.bind_eq_some_iff.mp hr
 obtain ⟨⟨a1, a2, a3, a4, a5⟩, hs, hr⟩ := hr
 have S1 := fun (W : World) (hW : Below w.heap.size w W) => start_calls k At ct t a1 a2 a3 a4 a5 W (Kd.C_below HT.out hW) hct hs
 have HR2 := Aside0.mk hr
 clear hr hs HH0
 by_cases h2 : a5 = 0
 case neg =>
  have hr := HR2.out
  rw [if_neg h2] at hr
  obtain rfl := Option.some.inj hr
  have hb1 : (a5 != 0) = true := bne_iff_ne.mpr h2
  clear hr HR2
  go_enter Try.func24, Try.ntmps24
  go_wp2_with (first | (go_at_call 46; (with_reducible refine (T1 _ ?side1).mono ?_); (case side1 => exact (zq HBW.out)); rintro e w1 ⟨rfl, hb⟩; have HB1 := Aside0.mk (below_step (zq HBW.out) hb); clear hb) | (go_at_call 12; (with_reducible refine (S1 _ ?side2).mono ?_); (case side2 => exact (zq HB1.out)); rintro e w2 ⟨v0, v1, v3, rfl, hE, hb⟩; have HE2 := Aside0.mk hE; obtain ⟨Ao, co, rfl, hco, hCo⟩ := Kd.N_reads hE.1; obtain ⟨Av, cv, rfl, hcv, hCv⟩ := Kd.N_reads hE.2.1; obtain ⟨Ah, ch, rfl⟩ := Kd.R_slice hE.2.2; have HB2 := Aside0.mk (below_step (zq HB1.out) hb); have HBV := Aside0.mk (Below.refl w2.heap.size w2); clear hb hE))
  refine bodyPost_ret (results_tmp3 rfl _ _ _) rfl ?_
  exact ⟨none, 0, rfl, Nat.le_refl _, Kd.F_nil _ _ _, (zq HB2.out)⟩
 subst h2
 have hr := HR2.out
 rw [if_pos rfl] at hr
 replace hr := Option.bind_eq_some_iff.mp hr
 obtain ⟨r1, hrun, hr⟩ := hr
 have HRUN := Aside0.mk hrun
 have HR3 := Aside0.mk hr
 clear hr hrun HR2
 by_cases h3 : r1.1 = 0
 case neg =>
  have hr := HR3.out
  rw [if_neg h3] at hr
  obtain rfl := Option.some.inj hr
  have hb1 : (r1.1 != 0) = true := bne_iff_ne.mpr h3
  clear hr HR3
  go_enter Try.func24, Try.ntmps24
  go_wp2_with (first | (go_at_call 46; (with_reducible refine (T1 _ ?side1).mono ?_); (case side1 => exact (zq HBW.out)); rintro e w1 ⟨rfl, hb⟩; have HB1 := Aside0.mk (below_step (zq HBW.out) hb); clear hb) | (go_at_call 12; (with_reducible refine (S1 _ ?side2).mono ?_); (case side2 => exact (zq HB1.out)); rintro e w2 ⟨v0, v1, v3, rfl, hE, hb⟩; have HE2 := Aside0.mk hE; obtain ⟨Ao, co, rfl, hco, hCo⟩ := Kd.N_reads hE.1; obtain ⟨Av, cv, rfl, hcv, hCv⟩ := Kd.N_reads hE.2.1; obtain ⟨Ah, ch, rfl⟩ := Kd.R_slice hE.2.2; have HB2 := Aside0.mk (below_step (zq HB1.out) hb); have HBV := Aside0.mk (Below.refl w2.heap.size w2); have R1 := fun (W : World) (hW : Below w2.heap.size w2 W) => run_calls (Kd.C_below HR.out (below_step HB2.out hW)) hcr (Kd.C_below hCo hW) hco (Kd.C_below hCv hW) hcv (Kd.C_below (Kd.R_reads' hE.2.2).2.2 hW) (Kd.R_reads' hE.2.2).2.1 HRUN.out; clear hb hE hCo hCv) | (go_at_call 20; (with_reducible refine (R1 _ ?side3).mono ?_); (case side3 => exact (zq HBV.out)); rintro e w3 ⟨⟨u0, u1, u3, rfl, hE3⟩, hb3⟩; obtain ⟨A0', c0', rfl⟩ := Kd.N_slice hE3.1; obtain ⟨A1', c1', rfl⟩ := Kd.N_slice hE3.2.1; obtain ⟨A3', c3', rfl⟩ := Kd.R_slice hE3.2.2; have HE3 := Aside0.mk hE3; have hz := (hb3.block w2.heap.size (by simp)).trans (heap_alloc_new w2 _); have HZ := Aside0.mk hz; have z0 := (blk_cell hz 0).trans rfl; have y0 := blk_frozen hz 0; have z1 := (blk_cell hz 1).trans rfl; have y1 := blk_frozen hz 1; have z2 := (blk_cell hz 2).trans rfl; have y2 := blk_frozen hz 2; have z3 := (blk_cell hz 3).trans rfl; have y3 := blk_frozen hz 3; have HB3 := Aside0.mk (below_step (zq HB2.out) hb3); clear hz hE3 hb3))
  refine bodyPost_ret (results_tmp3 rfl _ _ _) rfl ?_
  exact ⟨none, 0, rfl, Nat.le_refl _, Kd.F_nil _ _ _, set4_below HB3.out HB2.out.size _ _ _ _⟩
 have hr := HR3.out
 rw [if_pos h3] at hr
 by_cases hv : 0 < r1.2.vals.length
 case neg => rw [if_neg hv] at hr; cases hr
 rw [if_pos hv] at hr
 obtain rfl := Option.some.inj hr
 have HVL := Aside0.mk hv
 have hv1 : (0 < r1.2.vals.length) = True := eq_true hv
 have hv2 : ((0 : Int) < (r1.2.vals.length : Int)) = True := eq_true (by omega)
 have hb1 : (r1.1 != 0) = false := by rw [h3]; rfl
 clear hr HR3 hv h3
 go_enter Try.func24, Try.ntmps24
 go_wp2_with (first | (go_at_call 46; (with_reducible refine (T1 _ ?side1).mono ?_); (case side1 => exact (zq HBW.out)); rintro e w1 ⟨rfl, hb⟩; have HB1 := Aside0.mk (below_step (zq HBW.out) hb); clear hb) | (go_at_call 12; (with_reducible refine (S1 _ ?side2).mono ?_); (case side2 => exact (zq HB1.out)); rintro e w2 ⟨v0, v1, v3, rfl, hE, hb⟩; have HE2 := Aside0.mk hE; obtain ⟨Ao, co, rfl, hco, hCo⟩ := Kd.N_reads hE.1; obtain ⟨Av, cv, rfl, hcv, hCv⟩ := Kd.N_reads hE.2.1; obtain ⟨Ah, ch, rfl⟩ := Kd.R_slice hE.2.2; have HB2 := Aside0.mk (below_step (zq HB1.out) hb); have HBV := Aside0.mk (Below.refl w2.heap.size w2); have R1 := fun (W : World) (hW : Below w2.heap.size w2 W) => run_calls (Kd.C_below HR.out (below_step HB2.out hW)) hcr (Kd.C_below hCo hW) hco (Kd.C_below hCv hW) hcv (Kd.C_below (Kd.R_reads' hE.2.2).2.2 hW) (Kd.R_reads' hE.2.2).2.1 HRUN.out; clear hb hE hCo hCv) | (go_at_call 20; (with_reducible refine (R1 _ ?side3).mono ?_); (case side3 => exact (zq HBV.out)); rintro e w3 ⟨⟨u0, u1, u3, rfl, hE3⟩, hb3⟩; obtain ⟨A0', c0', rfl⟩ := Kd.N_slice hE3.1; obtain ⟨A1', c1', rfl⟩ := Kd.N_slice hE3.2.1; obtain ⟨A3', c3', rfl⟩ := Kd.R_slice hE3.2.2; have HE3 := Aside0.mk hE3; have hz := (hb3.block w2.heap.size (by simp)).trans (heap_alloc_new w2 _); have HZ := Aside0.mk hz; have z0 := (blk_cell hz 0).trans rfl; have y0 := blk_frozen hz 0; have z1 := (blk_cell hz 1).trans rfl; have y1 := blk_frozen hz 1; have z2 := (blk_cell hz 2).trans rfl; have y2 := blk_frozen hz 2; have z3 := (blk_cell hz 3).trans rfl; have y3 := blk_frozen hz 3; have HB3 := Aside0.mk (below_step (zq HB2.out) hb3); have hN := set4_N hE3.2.1 (b := w2.heap.size) (fun k hk => by have h_ := hk.1; simp at h_; omega) (.slice A0' r1.2.ops.length c0') (.slice A1' r1.2.vals.length c1') (.int .i64 r1.2.st) (.slice A3' r1.2.hd.length c3'); have hC4 := Kd.N_F hN; obtain ⟨ad, A5, c5, rfl, hx5, hl5, hc5⟩ := at_F3 hC4 0 (by omega) (by have := HVL.out; omega); rw [show ((0 : Int)).toNat = 0 from rfl, Addr.add_zero'] at hx5; have HL5 := Aside0.mk hl5; have HC5 := Aside0.mk hc5; clear hz hE3 hb3 hN hC4 hl5 hc5))
 have hz4 := set4_blk HZ.out (.slice A0' r1.2.ops.length c0') (.slice (some ad) r1.2.vals.length c1') (.int .i64 r1.2.st) (.slice A3' r1.2.hd.length c3')
 have HB4 := Aside0.mk (set4_below HB3.out HB2.out.size (.slice A0' r1.2.ops.length c0') (.slice (some ad) r1.2.vals.length c1') (.int .i64 r1.2.st) (.slice A3' r1.2.hd.length c3'))
 clear z0 z1 z2 z3 y0 y1 y2 y3 HE3 HZ HB3
 generalize ((((w3.setCell ⟨w2.heap.size, 0, none⟩ (.slice A0' r1.2.ops.length c0')).setCell ⟨w2.heap.size, 1, none⟩ (.slice (some ad) r1.2.vals.length c1')).setCell ⟨w2.heap.size, 2, none⟩ (.int .i64 r1.2.st)).setCell ⟨w2.heap.size, 3, none⟩ (.slice A3' r1.2.hd.length c3')) = w4 at hz4 HB4 hx5 HC5 ⊢
 have q1 : w4.cell? ⟨w2.heap.size, 1, none⟩ = some (.slice (some ad) r1.2.vals.length c1') := (blk_cell hz4 1).trans rfl
 have q2 : w4.cell? ⟨w2.heap.size, 2, none⟩ = some (.int .i64 r1.2.st) := (blk_cell hz4 2).trans rfl
 go_region
 all_goals
  go_wp2
  refine bodyPost_ret (results_tmp3 rfl _ _ _) rfl ?_
  exact ⟨A5, c5, rfl, HL5.out, Kd.F_drew (Kd.F_mono HC5.out (fun k_ hk_ => Nat.le_trans HB2.out.size (by have h_ := hk_.1; simp at h_; omega))), below_drew1 HB4.out⟩

-- ==== Rw19
theorem idxF_mono (k : Nat) : ∀ (vals : List (List S54)) (i : Int), LeO (idxF k vals i) (idxF (k + 1) vals i)
 | [], i => LeO.refl _
 | v :: u, i => by
  unfold idxF
  exact LeO.bind (rewrite_ground.mono _ _) fun b => LeO.ite (idxF_mono k u (i + 1)) (LeO.refl _)
theorem hdsF_mono (k : Nat) : ∀ (hd : List ByteArray) (p : Option ByteArray), LeO (hdsF k p hd) (hdsF (k + 1) p hd)
 | [], p => by unfold hdsF; exact LeO.refl _
 | h :: u, p => by
  unfold hdsF
  exact LeO.bind (name_Kind.mono _ _) fun c => LeO.ite (LeO.ite (hdsF_mono k u (some h)) (LeO.refl _)) (LeO.refl _)
theorem mayL_mono (k : Nat) : ∀ (ops : List S70), LeO (mayL k ops) (mayL (k + 1) ops)
 | [] => LeO.refl _
 | o :: u => by
  unfold mayL
  exact LeO.bind (rewrite_may.mono _ _ _ _ _) fun b => LeO.bind (mayL_mono k u) fun l => LeO.refl _
theorem postF_mono (k : Nat) (vals : List (List S54)) (st : Int) (hd : List ByteArray) : ∀ n, LeO (postF k vals st hd n) (postF (k + 1) vals st hd n)
 | none => LeO.refl _
 | some n => by
  unfold postF
  exact LeO.ite (LeO.ite (LeO.refl _) (LeO.bind (idxF_mono k vals 0) fun i => LeO.ite (LeO.refl _) (hdsF_mono k hd none))) (LeO.refl _)
theorem chkF_mono (k : Nat) (ops : List S70) (vals : List (List S54)) (st : Int) (hd : List ByteArray) : LeO (chkF k ops vals st hd) (chkF (k + 1) ops vals st hd) := by
 unfold chkF
 exact LeO.bind (mayL_mono k ops) fun l => postF_mono k vals st hd _
theorem headF_mono (k : Nat) : ∀ (ns hd : List ByteArray), LeO (headF k ns hd) (headF (k + 1) ns hd)
 | [], hd => LeO.refl _
 | x :: r, hd => by
  unfold headF
  exact LeO.bind (slices_BinarySearch_string_string.mono _ _ _) fun b => LeO.ite (headF_mono k r hd) (LeO.ite (headF_mono k r _) (LeO.refl _))
theorem fitsF_mono (k : Nat) (node : List S54) : ∀ (l : List S73), LeO (fitsF k node l) (fitsF (k + 1) node l)
 | [] => LeO.refl _
 | r :: u => by
  unfold fitsF
  exact LeO.ite (LeO.ite (LeO.bind (match_Match.mono _ _ _) fun m => LeO.ite (LeO.refl _) (fitsF_mono k node u)) (fitsF_mono k node u)) (LeO.refl _)
theorem todoN_mono {f g : Int → List S70 → Option (List S70 × Int)} (h : ∀ i out, LeO (f i out) (g i out)) : ∀ (n : Nat) (i : Int) (out : List S70), LeO (todoN f n i out) (todoN g n i out)
 | 0, i, out => LeO.refl _
 | n + 1, i, out => by
  unfold todoN
  exact LeO.bind (h i out) fun r => todoN_mono h n r.2 r.1
theorem todoL_mono (H : ByteArray → List S54) (t : List S54) : ∀ (k : Nat) (i : Int) (out : List S70), LeO (todoL H t k i out) (todoL H t (k + 1) i out)
 | 0, i, out => LeO.none _
 | k + 1, i, out => by
  unfold todoL
  exact LeO.ite (LeO.ite (LeO.refl _) (LeO.ite (LeO.bind (todoN_mono (todoL_mono H t k) _ _ _) fun r => LeO.refl _) (LeO.refl _))) (LeO.refl _)
theorem startF_mono (k : Nat) (t : List S54) : LeO (startF k t) (startF (k + 1) t) := by
 unfold startF
 exact LeO.bind (term_Check.mono _ _) fun e => LeO.ite (LeO.bind (rewrite_ground.mono _ _) fun g => LeO.ite (LeO.bind (todoL_mono _ t k 0 []) fun r => LeO.refl _) (LeO.refl _)) (LeO.refl _)
theorem nodeR_mono (k : Nat) (rules : List S73) (node : List S54) (nm : ByteArray) (args : List (List S54)) (m m0 : Mst) : LeO (nodeR k rules node nm args m m0) (nodeR (k + 1) rules node nm args m m0) := by
 unfold nodeR
 refine LeO.bind (fitsF_mono k node rules) fun res => ?_
 cases res with
 | none => exact LeO.bind (headF_mono k _ _) fun hd => LeO.refl _
 | some rb => exact LeO.ite (LeO.refl _) (LeO.ite (LeO.bind (headF_mono k _ _) fun hd => LeO.bind (todoL_mono _ _ k 0 []) fun r => LeO.refl _) (LeO.refl _))
theorem makeN_mono (k : Nat) (rules : List S73) (nm : ByteArray) (o : S70) (args : List (List S54)) (m : Mst) : LeO (makeN k rules nm o args m) (makeN (k + 1) rules nm o args m) := by
 unfold makeN
 exact LeO.ite (LeO.refl _) (nodeR_mono _ _ _ _ _ _ _)
theorem runL_mono (k : Nat) (rules : List S73) : ∀ (n : Nat) (m : Mst), LeO (runL k rules n m) (runL (k + 1) rules (n + 1) m)
 | 0, m => LeO.none _
 | n + 1, m => by
  rw [runL, runL]
  exact LeO.ite (LeO.refl _) (LeO.ite (LeO.ite (runL_mono k rules n _) (LeO.refl _)) (LeO.ite (LeO.bind (makeN_mono _ _ _ _ _ _) fun r => LeO.ite (runL_mono k rules n _) (LeO.refl _)) (LeO.refl _)))
theorem runF_mono (k : Nat) (rules : List S73) (ops : List S70) (vals : List (List S54)) (st : Int) (hd : List ByteArray) (fu : Int) : LeO (runF k k rules ops vals st hd fu) (runF (k + 1) (k + 1) rules ops vals st hd fu) := by
 unfold runF
 exact LeO.bind (rewrite_together.mono _ _) fun e => LeO.ite (LeO.bind (chkF_mono _ _ _ _ _) fun e => LeO.ite (LeO.bind (rewrite_clone.mono _ _ _ _ _) fun c => runL_mono _ _ _ _) (LeO.refl _)) (LeO.refl _)
theorem normF_mono (k : Nat) (rules : List S73) (t : List S54) (fu : Int) : LeO (normF k k rules t fu) (normF (k + 1) (k + 1) rules t fu) := by
 unfold normF
 exact LeO.bind (rewrite_together.mono _ _) fun e => LeO.ite (LeO.bind (startF_mono _ _) fun s => LeO.ite (LeO.bind (runF_mono _ _ _ _ _ _ _) fun r => LeO.refl _) (LeO.refl _)) (LeO.refl _)
end Go.Proofs.Ytdlkhpfgkghhmaa.P

-- ==== PF12
namespace Go.Proofs.Ytdlkhpfgkghhmaa.P
open Go.RowKit Go.Proofs.YtdlkhpfgkghhmaaW.PrintWords Go.Proofs.YtdlkhpfgkghhmaaW.PrintLast Go.Proofs.YtdlkhpfgkghhmaaW.PrintMore
attribute [local go_sem] max2_int min2_int max_two min_two max_three min_three max_four min_four

/-! ### rewrite_Start: function 12 -/
def rewrite_Start.f (k : Nat) (l0 : List (S54)) : Option ((List (S70)) × (List (List (S54))) × Int × (List (ByteArray)) × Int) := startF k l0
theorem rewrite_Start.mono : ∀ a0 k, LeO (rewrite_Start.f k a0) (rewrite_Start.f (k + 1) a0) := fun a0 k => startF_mono k a0
theorem rewrite_Start.calls (k : Nat) (A0 : Option Addr) (c0 : Nat) (l0 : List (S54)) (r1 : List (S70)) (r2 : List (List (S54))) (r3 : Int) (r4 : List (ByteArray)) (r5 : Int) (w : World) (hr0 : Kd.C k54 w A0 l0.length l0) (hc0 : l0.length ≤ c0) (h : rewrite_Start.f k l0 = some (r1, r2, r3, r4, r5)) :
 Calls Try.prog 12 #[.slice A0 l0.length c0] w fun e w' => ∃ v0_ v1_ v3_ : Value, e = .returned (.tuple #[.agg #[v0_, v1_, .int .i64 r3, v3_], .int .i64 r5]) ∧ Kd.N k70 70 w' w.heap.size (fun k_ => (w.heap.size ≤ k_) ∧ some k_ ≠ (v1_ : Value).ownBlock ∧ some k_ ≠ (v3_ : Value).ownBlock) v0_ r1 ∧ Kd.N (Kd.slice 54 k54) 23 w' w.heap.size (fun k_ => (w.heap.size ≤ k_) ∧ some k_ ≠ (v0_ : Value).ownBlock ∧ some k_ ≠ (v3_ : Value).ownBlock) v1_ r2 ∧ Kd.R Kd.string 9 w' w.heap.size (fun k_ => (w.heap.size ≤ k_)) v3_ r4 ∧ Below w.heap.size w w' := by
 refine (start_calls k A0 c0 l0 r1 r2 r3 r4 r5 w hr0 hc0 h).mono ?_
 rintro e w' ⟨v0, v1, v3, he, ⟨h0, h1, h2⟩, hb⟩
 exact ⟨v0, v1, v3, he, h0, h1, h2, hb⟩



-- ==== PF24

/-! ### rewrite_Normal: function 24 -/
def rewrite_Normal.f (k : Nat) (l0 : List (S73)) (l1 : List (S54)) (a2 : Int) : Option ((List (S54)) × Int × Int) := normF k k l0 l1 a2
theorem rewrite_Normal.mono : ∀ a0 a1 a2 k, LeO (rewrite_Normal.f k a0 a1 a2) (rewrite_Normal.f (k + 1) a0 a1 a2) := fun a0 a1 a2 k => normF_mono k a0 a1 a2
theorem rewrite_Normal.calls (k : Nat) (A0 : Option Addr) (c0 : Nat) (l0 : List (S73)) (A1 : Option Addr) (c1 : Nat) (l1 : List (S54)) (a2 : Int) (r1 : List (S54)) (r2 : Int) (r3 : Int) (w : World) (hr0 : Kd.C k73 w A0 l0.length l0) (hc0 : l0.length ≤ c0) (hr1 : Kd.C k54 w A1 l1.length l1) (hc1 : l1.length ≤ c1) (h : rewrite_Normal.f k l0 l1 a2 = some (r1, r2, r3)) :
 Calls Try.prog 24 #[.slice A0 l0.length c0, .slice A1 l1.length c1, .int .i64 a2] w fun e w' => ∃ v0_ : Value, e = .returned (.tuple #[v0_, .int .i64 r2, .int .i64 r3]) ∧ Kd.V k54 54 w' w.heap.size (fun k_ => (w.heap.size ≤ k_)) v0_ r1 ∧ Below w.heap.size w w' := by
 refine (normal_calls hr0 hc0 hr1 hc1 h).mono ?_
 rintro e w' ⟨A, c, he, hl, hF, hb⟩
 exact ⟨_, he, Kd.V_mk hl hF, hb⟩



-- ==== PF11

/-! ### aumbrylaw07_wakes: function 11 -/
def aumbrylaw07_wakes.f (k : Nat)  : Option (Bool) := (rewrite_Normal.f k (([(⟨1, (([(⟨(⟨#[102]⟩ : ByteArray), 1⟩ : S54), (⟨(⟨#[88]⟩ : ByteArray), 0⟩ : S54)] : List (S54))), (([(⟨(⟨#[115]⟩ : ByteArray), 1⟩ : S54), (⟨(⟨#[88]⟩ : ByteArray), 0⟩ : S54)] : List (S54)))⟩ : S73)] : List (S73))) (([(⟨(⟨#[102]⟩ : ByteArray), 1⟩ : S54), (⟨(⟨#[97]⟩ : ByteArray), 0⟩ : S54)] : List (S54))) 5).bind fun bt113 => ((rewrite_Start.f k (([(⟨(⟨#[103]⟩ : ByteArray), 2⟩ : S54), (⟨(⟨#[97]⟩ : ByteArray), 0⟩ : S54), (⟨(⟨#[98]⟩ : ByteArray), 0⟩ : S54)] : List (S54)))).bind fun bt121 => (if bt113.2.2 = 0 then (if bt113.2.1 = 1 then (if (bt113.1.length : Int) = 2 then (if 0 < (bt113.1.length : Int) then (if ((rd_T54 bt113.1 0).f0).toList = ([115] : List UInt8) then (if bt121.2.2.2.2 = 0 then (if (bt121.1.length : Int) = 3 then (if 0 < (bt121.1.length : Int) then (if ((rd_T70 bt121.1 0).f1.f0).toList = ([103] : List UInt8) then (if 2 < (bt121.1.length : Int) then (some (((rd_T70 bt121.1 2).f1.f0).toList == ([97] : List UInt8))) else (none)) else (some false)) else (none)) else (some false)) else (some false)) else (some false)) else (none)) else (some false)) else (some false)) else (some false)))
theorem aumbrylaw07_wakes.mono : ∀ k, LeO (aumbrylaw07_wakes.f k ) (aumbrylaw07_wakes.f (k + 1) ) := by
 intro  k
 unfold aumbrylaw07_wakes.f
 repeat' first
  | (with_reducible exact rewrite_Normal.mono _ _ _ _)
  | (with_reducible exact rewrite_Start.mono _ _)
  | (with_reducible exact LeO.refl _)
  | (with_reducible exact LeO.none _)
  | (with_reducible refine LeO.ite ?_ ?_)
  | (with_reducible refine LeO.bind ?_ (fun _ => ?_))
theorem aumbrylaw07_wakes.ev_true : Ev (fun k => aumbrylaw07_wakes.f k) true := Ev.of (g := fun k => aumbrylaw07_wakes.f k) aumbrylaw07_wakes.mono (k := 40) (by kernel_rfl)
theorem aumbrylaw07_wakes.is_true (k : Nat) (r : Bool) (h : aumbrylaw07_wakes.f k = some r) : r = true := by
 obtain ⟨K1, h1⟩ := Ev.of (g := fun k => aumbrylaw07_wakes.f k) aumbrylaw07_wakes.mono h
 obtain ⟨K2, h2⟩ := aumbrylaw07_wakes.ev_true
 exact zS ((h1 (max K1 K2) (Nat.le_max_left _ _)).symm.trans (h2 _ (Nat.le_max_right _ _)))
theorem aumbrylaw07_wakes.calls (k : Nat)  (r : Bool) (w : World) (h : aumbrylaw07_wakes.f k  = some r) :
 Calls Try.prog 11 #[] w fun e w' => e = .returned (.bool r) ∧ Below w.heap.size w w' := by
 have HRT := zM (aumbrylaw07_wakes.is_true k r h)
 have hu54 := Try.underlying54
 have hu73 := Try.underlying73
 have hu28 := Try.underlying28
 have HB := zM (Below.refl w.heap.size w)
 have H : ((rewrite_Normal.f k (([(⟨1, (([(⟨(⟨#[102]⟩ : ByteArray), 1⟩ : S54), (⟨(⟨#[88]⟩ : ByteArray), 0⟩ : S54)] : List (S54))), (([(⟨(⟨#[115]⟩ : ByteArray), 1⟩ : S54), (⟨(⟨#[88]⟩ : ByteArray), 0⟩ : S54)] : List (S54)))⟩ : S73)] : List (S73))) (([(⟨(⟨#[102]⟩ : ByteArray), 1⟩ : S54), (⟨(⟨#[97]⟩ : ByteArray), 0⟩ : S54)] : List (S54))) 5).bind fun bt113 => ((rewrite_Start.f k (([(⟨(⟨#[103]⟩ : ByteArray), 2⟩ : S54), (⟨(⟨#[97]⟩ : ByteArray), 0⟩ : S54), (⟨(⟨#[98]⟩ : ByteArray), 0⟩ : S54)] : List (S54)))).bind fun bt121 => (if bt113.2.2 = 0 then (if bt113.2.1 = 1 then (if (bt113.1.length : Int) = 2 then (if 0 < (bt113.1.length : Int) then (if ((rd_T54 bt113.1 0).f0).toList = ([115] : List UInt8) then (if bt121.2.2.2.2 = 0 then (if (bt121.1.length : Int) = 3 then (if 0 < (bt121.1.length : Int) then (if ((rd_T70 bt121.1 0).f1.f0).toList = ([103] : List UInt8) then (if 2 < (bt121.1.length : Int) then (some (((rd_T70 bt121.1 2).f1.f0).toList == ([97] : List UInt8))) else (none)) else (some false)) else (none)) else (some false)) else (some false)) else (some false)) else (none)) else (some false)) else (some false)) else (some false)))) = some r := h
 clear h
 obtain ⟨y101, hy101⟩ : ∃ y_ : List (S54), y_ = (([(⟨(⟨#[102]⟩ : ByteArray), 1⟩ : S54), (⟨(⟨#[88]⟩ : ByteArray), 0⟩ : S54)] : List (S54))) := ⟨_, rfl⟩
 replace H : ((rewrite_Normal.f k (([(⟨1, y101, (([(⟨(⟨#[115]⟩ : ByteArray), 1⟩ : S54), (⟨(⟨#[88]⟩ : ByteArray), 0⟩ : S54)] : List (S54)))⟩ : S73)] : List (S73))) (([(⟨(⟨#[102]⟩ : ByteArray), 1⟩ : S54), (⟨(⟨#[97]⟩ : ByteArray), 0⟩ : S54)] : List (S54))) 5).bind fun bt113 => ((rewrite_Start.f k (([(⟨(⟨#[103]⟩ : ByteArray), 2⟩ : S54), (⟨(⟨#[97]⟩ : ByteArray), 0⟩ : S54), (⟨(⟨#[98]⟩ : ByteArray), 0⟩ : S54)] : List (S54)))).bind fun bt121 => (if bt113.2.2 = 0 then (if bt113.2.1 = 1 then (if (bt113.1.length : Int) = 2 then (if 0 < (bt113.1.length : Int) then (if ((rd_T54 bt113.1 0).f0).toList = ([115] : List UInt8) then (if bt121.2.2.2.2 = 0 then (if (bt121.1.length : Int) = 3 then (if 0 < (bt121.1.length : Int) then (if ((rd_T70 bt121.1 0).f1.f0).toList = ([103] : List UInt8) then (if 2 < (bt121.1.length : Int) then (some (((rd_T70 bt121.1 2).f1.f0).toList == ([97] : List UInt8))) else (none)) else (some false)) else (none)) else (some false)) else (some false)) else (some false)) else (none)) else (some false)) else (some false)) else (some false)))) = some r := by first | (rw [hy101]; with_reducible exact H) | (have H2_ := (Option.bind_some _ _).symm.trans H; rw [hy101]; with_reducible exact H2_) | (have H2_ := (Option.bind_some _ _).symm.trans H; with_reducible exact H2_) | with_reducible exact H | (rw [hy101]; exact H) | exact H
 have Ny101 := zM hy101
 clear hy101
 obtain ⟨y104, hy104⟩ : ∃ y_ : List (S54), y_ = (([(⟨(⟨#[115]⟩ : ByteArray), 1⟩ : S54), (⟨(⟨#[88]⟩ : ByteArray), 0⟩ : S54)] : List (S54))) := ⟨_, rfl⟩
 replace H : ((rewrite_Normal.f k (([(⟨1, y101, y104⟩ : S73)] : List (S73))) (([(⟨(⟨#[102]⟩ : ByteArray), 1⟩ : S54), (⟨(⟨#[97]⟩ : ByteArray), 0⟩ : S54)] : List (S54))) 5).bind fun bt113 => ((rewrite_Start.f k (([(⟨(⟨#[103]⟩ : ByteArray), 2⟩ : S54), (⟨(⟨#[97]⟩ : ByteArray), 0⟩ : S54), (⟨(⟨#[98]⟩ : ByteArray), 0⟩ : S54)] : List (S54)))).bind fun bt121 => (if bt113.2.2 = 0 then (if bt113.2.1 = 1 then (if (bt113.1.length : Int) = 2 then (if 0 < (bt113.1.length : Int) then (if ((rd_T54 bt113.1 0).f0).toList = ([115] : List UInt8) then (if bt121.2.2.2.2 = 0 then (if (bt121.1.length : Int) = 3 then (if 0 < (bt121.1.length : Int) then (if ((rd_T70 bt121.1 0).f1.f0).toList = ([103] : List UInt8) then (if 2 < (bt121.1.length : Int) then (some (((rd_T70 bt121.1 2).f1.f0).toList == ([97] : List UInt8))) else (none)) else (some false)) else (none)) else (some false)) else (some false)) else (some false)) else (none)) else (some false)) else (some false)) else (some false)))) = some r := by first | (rw [hy104]; with_reducible exact H) | (have H2_ := (Option.bind_some _ _).symm.trans H; rw [hy104]; with_reducible exact H2_) | (have H2_ := (Option.bind_some _ _).symm.trans H; with_reducible exact H2_) | with_reducible exact H | (rw [hy104]; exact H) | exact H
 have Ny104 := zM hy104
 clear hy104
 obtain ⟨y107, hy107⟩ : ∃ y_ : List (S73), y_ = (([(⟨1, y101, y104⟩ : S73)] : List (S73))) := ⟨_, rfl⟩
 replace H : ((rewrite_Normal.f k y107 (([(⟨(⟨#[102]⟩ : ByteArray), 1⟩ : S54), (⟨(⟨#[97]⟩ : ByteArray), 0⟩ : S54)] : List (S54))) 5).bind fun bt113 => ((rewrite_Start.f k (([(⟨(⟨#[103]⟩ : ByteArray), 2⟩ : S54), (⟨(⟨#[97]⟩ : ByteArray), 0⟩ : S54), (⟨(⟨#[98]⟩ : ByteArray), 0⟩ : S54)] : List (S54)))).bind fun bt121 => (if bt113.2.2 = 0 then (if bt113.2.1 = 1 then (if (bt113.1.length : Int) = 2 then (if 0 < (bt113.1.length : Int) then (if ((rd_T54 bt113.1 0).f0).toList = ([115] : List UInt8) then (if bt121.2.2.2.2 = 0 then (if (bt121.1.length : Int) = 3 then (if 0 < (bt121.1.length : Int) then (if ((rd_T70 bt121.1 0).f1.f0).toList = ([103] : List UInt8) then (if 2 < (bt121.1.length : Int) then (some (((rd_T70 bt121.1 2).f1.f0).toList == ([97] : List UInt8))) else (none)) else (some false)) else (none)) else (some false)) else (some false)) else (some false)) else (none)) else (some false)) else (some false)) else (some false)))) = some r := by first | (rw [hy107]; with_reducible exact H) | (have H2_ := (Option.bind_some _ _).symm.trans H; rw [hy107]; with_reducible exact H2_) | (have H2_ := (Option.bind_some _ _).symm.trans H; with_reducible exact H2_) | with_reducible exact H | (rw [hy107]; exact H) | exact H
 have Ny107 := zM hy107
 clear hy107
 obtain ⟨y110, hy110⟩ : ∃ y_ : List (S54), y_ = (([(⟨(⟨#[102]⟩ : ByteArray), 1⟩ : S54), (⟨(⟨#[97]⟩ : ByteArray), 0⟩ : S54)] : List (S54))) := ⟨_, rfl⟩
 replace H : ((rewrite_Normal.f k y107 y110 5).bind fun bt113 => ((rewrite_Start.f k (([(⟨(⟨#[103]⟩ : ByteArray), 2⟩ : S54), (⟨(⟨#[97]⟩ : ByteArray), 0⟩ : S54), (⟨(⟨#[98]⟩ : ByteArray), 0⟩ : S54)] : List (S54)))).bind fun bt121 => (if bt113.2.2 = 0 then (if bt113.2.1 = 1 then (if (bt113.1.length : Int) = 2 then (if 0 < (bt113.1.length : Int) then (if ((rd_T54 bt113.1 0).f0).toList = ([115] : List UInt8) then (if bt121.2.2.2.2 = 0 then (if (bt121.1.length : Int) = 3 then (if 0 < (bt121.1.length : Int) then (if ((rd_T70 bt121.1 0).f1.f0).toList = ([103] : List UInt8) then (if 2 < (bt121.1.length : Int) then (some (((rd_T70 bt121.1 2).f1.f0).toList == ([97] : List UInt8))) else (none)) else (some false)) else (none)) else (some false)) else (some false)) else (some false)) else (none)) else (some false)) else (some false)) else (some false)))) = some r := by first | (rw [hy110]; with_reducible exact H) | (have H2_ := (Option.bind_some _ _).symm.trans H; rw [hy110]; with_reducible exact H2_) | (have H2_ := (Option.bind_some _ _).symm.trans H; with_reducible exact H2_) | with_reducible exact H | (rw [hy110]; exact H) | exact H
 have Ny110 := zM hy110
 clear hy110
 replace H := zB H
 obtain ⟨⟨t113, t116, t117⟩, A10, H⟩ := H
 try dsimp only at H
 have A1 := zM A10
 clear A10
 obtain ⟨y118, hy118⟩ : ∃ y_ : List (S54), y_ = (([(⟨(⟨#[103]⟩ : ByteArray), 2⟩ : S54), (⟨(⟨#[97]⟩ : ByteArray), 0⟩ : S54), (⟨(⟨#[98]⟩ : ByteArray), 0⟩ : S54)] : List (S54))) := ⟨_, rfl⟩
 replace H : ((rewrite_Start.f k y118).bind fun bt121 => (if t117 = 0 then (if t116 = 1 then (if (t113.length : Int) = 2 then (if 0 < (t113.length : Int) then (if ((rd_T54 t113 0).f0).toList = ([115] : List UInt8) then (if bt121.2.2.2.2 = 0 then (if (bt121.1.length : Int) = 3 then (if 0 < (bt121.1.length : Int) then (if ((rd_T70 bt121.1 0).f1.f0).toList = ([103] : List UInt8) then (if 2 < (bt121.1.length : Int) then (some (((rd_T70 bt121.1 2).f1.f0).toList == ([97] : List UInt8))) else (none)) else (some false)) else (none)) else (some false)) else (some false)) else (some false)) else (none)) else (some false)) else (some false)) else (some false))) = some r := by first | (rw [hy118]; with_reducible exact H) | (have H2_ := (Option.bind_some _ _).symm.trans H; rw [hy118]; with_reducible exact H2_) | (have H2_ := (Option.bind_some _ _).symm.trans H; with_reducible exact H2_) | with_reducible exact H | (rw [hy118]; exact H) | exact H
 have Ny118 := zM hy118
 clear hy118
 replace H := zB H
 obtain ⟨⟨t121, t124, t127, t128, t131⟩, A20, H⟩ := H
 try dsimp only at H
 have A2 := zM A20
 clear A20
 by_cases c3 : t117 = 0
 ·
  rw [if_pos c3] at H
  have c3b0 : (t117 == 0) = true := zG c3
  have c3b1 : (t117 != 0) = false := zH c3
  clear c3
  by_cases c4 : t116 = 1
  ·
   rw [if_pos c4] at H
   have c4b0 : (t116 == 1) = true := zG c4
   have c4b1 : (t116 != 1) = false := zH c4
   clear c4
   by_cases c5 : (t113.length : Int) = 2
   ·
    rw [if_pos c5] at H
    have c5b0 : ((t113.length : Int) == 2) = true := zG c5
    have c5b1 : ((t113.length : Int) != 2) = false := zH c5
    clear c5
    by_cases c6 : 0 < (t113.length : Int)
    ·
     rw [if_pos c6] at H
     have c6b0 : decide (0 < (t113.length : Int)) = true := zQ c6
     have c6b1 : decide (0 < t113.length) = true := zQ (by omega)
     clear c6
     by_cases c7 : ((rd_T54 t113 0).f0).toList = ([115] : List UInt8)
     ·
      rw [if_pos c7] at H
      have c7b0 : (((rd_T54 t113 0).f0).toList == ([115] : List UInt8)) = true := zG c7
      have c7b1 : (((rd_T54 t113 0).f0).toList != ([115] : List UInt8)) = false := zH c7
      clear c7
      by_cases c8 : t131 = 0
      ·
       rw [if_pos c8] at H
       have c8b0 : (t131 == 0) = true := zG c8
       have c8b1 : (t131 != 0) = false := zH c8
       clear c8
       by_cases c9 : (t121.length : Int) = 3
       ·
        rw [if_pos c9] at H
        have c9b0 : ((t121.length : Int) == 3) = true := zG c9
        have c9b1 : ((t121.length : Int) != 3) = false := zH c9
        clear c9
        by_cases c10 : 0 < (t121.length : Int)
        ·
         rw [if_pos c10] at H
         have c10b0 : decide (0 < (t121.length : Int)) = true := zQ c10
         have c10b1 : decide (0 < t121.length) = true := zQ (by omega)
         clear c10
         by_cases c11 : ((rd_T70 t121 0).f1.f0).toList = ([103] : List UInt8)
         ·
          rw [if_pos c11] at H
          have c11b0 : (((rd_T70 t121 0).f1.f0).toList == ([103] : List UInt8)) = true := zG c11
          have c11b1 : (((rd_T70 t121 0).f1.f0).toList != ([103] : List UInt8)) = false := zH c11
          clear c11
          by_cases c12 : 2 < (t121.length : Int)
          ·
           rw [if_pos c12] at H
           have c12b0 : decide (2 < (t121.length : Int)) = true := zQ c12
           have c12b1 : decide (2 < t121.length) = true := zQ (by omega)
           clear c12
           obtain rfl := zS H
           go_enter Try.func11, Try.ntmps11
           go_wp2_with (first | ((with_reducible refine gate_dst (N := 9) rfl ?_); (try (refine gate_guard (by rfl) ?_; dsimp only)); refine Kd.R_lit k54 _ 54 ?hg (N := 9) ?hd (xs := ([(⟨(⟨#[102]⟩ : ByteArray), 1⟩ : S54), (⟨(⟨#[88]⟩ : ByteArray), 0⟩ : S54)] : List (S54))) (inner := [.string (⟨#[102]⟩ : ByteArray), .int .i64 1, .string (⟨#[88]⟩ : ByteArray), .int .i64 0]) (ok := fun _ => True) (okp := fun _ => True) ?hr ?hp (fun _ hk => hk) trivial (Below.refl _ _) (Nat.le_refl _) (by simp) ?_; (case hd => rfl); (case hg => rfl); (case hr => first | (go_simp; done) | (go_simp; rfl)); (case hp => exact (Reps.c2 (show Kd.M k54 _ _ _ (⟨(⟨#[102]⟩ : ByteArray), 1⟩ : S54) [.string (⟨#[102]⟩ : ByteArray), .int .i64 1] from (k54_mkM _ _ _ (⟨(⟨#[102]⟩ : ByteArray), 1⟩ : S54) )) (Reps.c2 (show Kd.M k54 _ _ _ (⟨(⟨#[88]⟩ : ByteArray), 0⟩ : S54) [.string (⟨#[88]⟩ : ByteArray), .int .i64 0] from (k54_mkM _ _ _ (⟨(⟨#[88]⟩ : ByteArray), 0⟩ : S54) )) (Reps.none _ _)))); intro v102 w13 ho14 hb hg_ hnew_; clear hg_ hnew_; (first | rw [← Ny101.out] at ho14 | (simp only [Int.reduceToNat] at ho14; rw [← Ny101.out] at ho14)); have HO103 := zM (Kd.R_lower ho14 (below_size zb)); replace HB := zM (below_step zb hb); clear hb ho14) | ((with_reducible refine gate_dst (N := 12) rfl ?_); (try (refine gate_guard (by rfl) ?_; dsimp only)); refine Kd.R_lit k54 _ 54 ?hg (N := 12) ?hd (xs := ([(⟨(⟨#[115]⟩ : ByteArray), 1⟩ : S54), (⟨(⟨#[88]⟩ : ByteArray), 0⟩ : S54)] : List (S54))) (inner := [.string (⟨#[115]⟩ : ByteArray), .int .i64 1, .string (⟨#[88]⟩ : ByteArray), .int .i64 0]) (ok := fun _ => True) (okp := fun _ => True) ?hr ?hp (fun _ hk => hk) trivial (Below.refl _ _) (Nat.le_refl _) (by simp) ?_; (case hd => rfl); (case hg => rfl); (case hr => first | (go_simp; done) | (go_simp; rfl)); (case hp => exact (Reps.c2 (show Kd.M k54 _ _ _ (⟨(⟨#[115]⟩ : ByteArray), 1⟩ : S54) [.string (⟨#[115]⟩ : ByteArray), .int .i64 1] from (k54_mkM _ _ _ (⟨(⟨#[115]⟩ : ByteArray), 1⟩ : S54) )) (Reps.c2 (show Kd.M k54 _ _ _ (⟨(⟨#[88]⟩ : ByteArray), 0⟩ : S54) [.string (⟨#[88]⟩ : ByteArray), .int .i64 0] from (k54_mkM _ _ _ (⟨(⟨#[88]⟩ : ByteArray), 0⟩ : S54) )) (Reps.none _ _)))); intro v105 w15 ho16 hb hg_ hnew_; clear hg_ hnew_; (first | rw [← Ny104.out] at ho16 | (simp only [Int.reduceToNat] at ho16; rw [← Ny104.out] at ho16)); have HO106 := zM (Kd.R_lower (Kd.R_new' ho16 (Kd.R_lt (zr HO103.out))) (below_size zb)); replace HO103 := zM (Kd.R_elder' (zr HO103.out) (Kd.R_base ho16) hb); replace HB := zM (below_step zb hb); clear hb ho16; obtain ⟨Ao17, co17, eo17⟩ := Kd.R_slice HO106.out; subst eo17; obtain ⟨Ao18, co18, eo18⟩ := Kd.R_slice HO103.out; subst eo18) | ((with_reducible refine gate_dst (N := 14) rfl ?_); (try (refine gate_guard (by rfl) ?_; dsimp only)); refine Kd.N_lit k73 _ 73 ?hg (N' := 14) ?hd (xs := ([(⟨1, y101, y104⟩ : S73)] : List (S73))) (inner := [.int .i64 1, .slice Ao18 y101.length co18, .slice Ao17 y104.length co17]) (ok := (fun _ => True)) (okp := (fun _ => True)) ?hr ?hp (fun _ hk => hk) ((show ∀ k_, w15.heap.size ≤ k_ → (fun _ => True) k_ from fun k_ hk => trivial) _ (Nat.le_refl _)) (Below.refl _ _) (Nat.le_refl _) (by simp) ?_; (case hd => rfl); (case hg => rfl); (case hr => first | (go_simp; done) | (go_simp; rfl)); (case hp => exact (Reps.c3 (show Kd.FK k73 _ _ (⟨1, y101, y104⟩ : S73) [.int .i64 1, .slice Ao18 y101.length co18, .slice Ao17 y104.length co17] from (k73_mkF _ _ (⟨1, y101, y104⟩ : S73) (Kd.R_reads' (Kd.R_mono (ok' := (fun _ => True)) (HO103.out) (fun k_ hk => trivial))).2.1 (Kd.R_F (Kd.R_mono (ok' := (fun _ => True)) (HO103.out) (fun k_ hk => trivial))) (Kd.R_reads' (Kd.R_mono (ok' := (fun _ => True)) (HO106.out) (fun k_ hk => trivial))).2.1 (Kd.R_F (Kd.R_mono (ok' := (fun _ => True)) (HO106.out) (fun k_ hk => trivial))))) (Reps.none _ _))); intro v108 w19 ho20 hb hg_ hnew_; clear hg_ hnew_; (first | rw [← Ny107.out] at ho20 | (simp only [Int.reduceToNat] at ho20; rw [← Ny107.out] at ho20)); have HO109 := zM (Kd.N_lower ho20 (below_size zb)); replace HB := zM (below_step zb hb); clear HO103 HO106; clear hb ho20) | ((with_reducible refine gate_dst (N := 19) rfl ?_); (try (refine gate_guard (by rfl) ?_; dsimp only)); refine Kd.R_lit k54 _ 54 ?hg (N := 19) ?hd (xs := ([(⟨(⟨#[102]⟩ : ByteArray), 1⟩ : S54), (⟨(⟨#[97]⟩ : ByteArray), 0⟩ : S54)] : List (S54))) (inner := [.string (⟨#[102]⟩ : ByteArray), .int .i64 1, .string (⟨#[97]⟩ : ByteArray), .int .i64 0]) (ok := fun _ => True) (okp := fun _ => True) ?hr ?hp (fun _ hk => hk) trivial (Below.refl _ _) (Nat.le_refl _) (by simp) ?_; (case hd => rfl); (case hg => rfl); (case hr => first | (go_simp; done) | (go_simp; rfl)); (case hp => exact (Reps.c2 (show Kd.M k54 _ _ _ (⟨(⟨#[102]⟩ : ByteArray), 1⟩ : S54) [.string (⟨#[102]⟩ : ByteArray), .int .i64 1] from (k54_mkM _ _ _ (⟨(⟨#[102]⟩ : ByteArray), 1⟩ : S54) )) (Reps.c2 (show Kd.M k54 _ _ _ (⟨(⟨#[97]⟩ : ByteArray), 0⟩ : S54) [.string (⟨#[97]⟩ : ByteArray), .int .i64 0] from (k54_mkM _ _ _ (⟨(⟨#[97]⟩ : ByteArray), 0⟩ : S54) )) (Reps.none _ _)))); intro v111 w21 ho22 hb hg_ hnew_; clear hg_ hnew_; (first | rw [← Ny110.out] at ho22 | (simp only [Int.reduceToNat] at ho22; rw [← Ny110.out] at ho22)); replace HO109 := zM (Kd.N_elder' (Kd.N_below HO109.out zg) (Kd.R_base ho22) hb); have HO112 := zM (Kd.R_lower ho22 (below_size zb)); replace HB := zM (below_step zb hb); clear hb ho22; obtain ⟨Ao23, co23, eo23⟩ := Kd.N_slice HO109.out; subst eo23; obtain ⟨Ao24, co24, eo24⟩ := Kd.R_slice HO112.out; subst eo24) | ((with_reducible refine gate_callee (f := 24) rfl ?_); refine goesL_ (some 20) rfl rfl Try.func24 (by kernel_rfl) rfl #[.slice Ao23 y107.length co23, .slice Ao24 y110.length co24, .int .i64 5] rfl zl ?_; (with_reducible refine (rewrite_Normal.calls k _ _ y107 _ _ y110 5 t113 t116 t117 _ ?side1 ?side2 ?side3 ?side4 A1.out).mono ?_); (case side1 => exact Kd.C_below (Kd.N_reads' HO109.out).2.2 zg); (case side2 => exact (Kd.N_reads' HO109.out).2.1); (case side3 => exact Kd.C_below (Kd.R_reads' HO112.out).2.2 zg); (case side4 => exact (Kd.R_reads' HO112.out).2.1); rintro e w25 ⟨v114, rfl, ho0, hb⟩; refine ⟨_, rfl, ?_⟩; have HO115 := zM (Kd.V_lower (Kd.V_mono (ok' := fun k_ => some k_ ≠ (.slice Ao23 y107.length co23 : Value).ownBlock ∧ some k_ ≠ (.slice Ao24 y110.length co24 : Value).ownBlock) ho0 (fun k_ hk_ => ⟨(Kd.fresh' (Kd.N_lt (Kd.N_below HO109.out zg)) k_ hk_), (Kd.fresh' (Kd.R_lt (zr HO112.out)) k_ hk_)⟩)) (below_size zb)); replace HO109 := zM (Kd.N_below (Kd.N_below HO109.out zg) hb); replace HO112 := zM (Kd.R_below (zr HO112.out) hb); replace HB := zM (below_step zb hb); (try clear hb); (try clear ho0)) | ((with_reducible refine gate_dst (N := 28) rfl ?_); (try (refine gate_guard (by rfl) ?_; dsimp only)); refine Kd.R_lit k54 _ 54 ?hg (N := 28) ?hd (xs := ([(⟨(⟨#[103]⟩ : ByteArray), 2⟩ : S54), (⟨(⟨#[97]⟩ : ByteArray), 0⟩ : S54), (⟨(⟨#[98]⟩ : ByteArray), 0⟩ : S54)] : List (S54))) (inner := [.string (⟨#[103]⟩ : ByteArray), .int .i64 2, .string (⟨#[97]⟩ : ByteArray), .int .i64 0, .string (⟨#[98]⟩ : ByteArray), .int .i64 0]) (ok := fun _ => True) (okp := fun _ => True) ?hr ?hp (fun _ hk => hk) trivial (Below.refl _ _) (Nat.le_refl _) (by simp) ?_; (case hd => rfl); (case hg => rfl); (case hr => first | (go_simp; done) | (go_simp; rfl)); (case hp => exact (Reps.c2 (show Kd.M k54 _ _ _ (⟨(⟨#[103]⟩ : ByteArray), 2⟩ : S54) [.string (⟨#[103]⟩ : ByteArray), .int .i64 2] from (k54_mkM _ _ _ (⟨(⟨#[103]⟩ : ByteArray), 2⟩ : S54) )) (Reps.c2 (show Kd.M k54 _ _ _ (⟨(⟨#[97]⟩ : ByteArray), 0⟩ : S54) [.string (⟨#[97]⟩ : ByteArray), .int .i64 0] from (k54_mkM _ _ _ (⟨(⟨#[97]⟩ : ByteArray), 0⟩ : S54) )) (Reps.c2 (show Kd.M k54 _ _ _ (⟨(⟨#[98]⟩ : ByteArray), 0⟩ : S54) [.string (⟨#[98]⟩ : ByteArray), .int .i64 0] from (k54_mkM _ _ _ (⟨(⟨#[98]⟩ : ByteArray), 0⟩ : S54) )) (Reps.none _ _))))); intro v119 w26 ho27 hb hg_ hnew_; clear hg_ hnew_; (first | rw [← Ny118.out] at ho27 | (simp only [Int.reduceToNat] at ho27; rw [← Ny118.out] at ho27)); replace HO109 := zM (Kd.N_elder' (Kd.N_below HO109.out zg) (Kd.R_base ho27) hb); replace HO115 := zM (Kd.V_elder' (Kd.V_below HO115.out zg) (Kd.R_base ho27) hb); have HO120 := zM (Kd.R_lower (Kd.R_new' ho27 (Kd.R_lt (zr HO112.out))) (below_size zb)); replace HO112 := zM (Kd.R_elder' (zr HO112.out) (Kd.R_base ho27) hb); replace HB := zM (below_step zb hb); clear hb ho27; obtain ⟨Ao28, co28, eo28⟩ := Kd.R_slice HO120.out; subst eo28) | ((with_reducible refine gate_callee (f := 12) rfl ?_); refine goesL_ (some 29) rfl rfl Try.func12 (by kernel_rfl) rfl #[.slice Ao28 y118.length co28] rfl zl ?_; (with_reducible refine (rewrite_Start.calls k _ _ y118 t121 t124 t127 t128 t131 _ ?side1 ?side2 A2.out).mono ?_); (case side1 => exact Kd.C_below (Kd.R_reads' HO120.out).2.2 zg); (case side2 => exact (Kd.R_reads' HO120.out).2.1); rintro e w29 ⟨v122, v125, v129, rfl, ho0, ho1, ho2, hb⟩; refine ⟨_, rfl, ?_⟩; replace HO115 := zM (Kd.V_mono (Kd.V_told (Kd.V_told (Kd.V_told (Kd.V_old (Kd.V_below HO115.out zg) hb) (Kd.N_base ho0)) (Kd.N_base ho1)) (Kd.R_base ho2)) (fun _ h_ => h_.1)); have HO123 := zM (Kd.N_lower (Kd.N_mono (ok' := fun k_ => some k_ ≠ (v125 : Value).ownBlock ∧ some k_ ≠ (v129 : Value).ownBlock ∧ some k_ ≠ (.slice Ao23 y107.length co23 : Value).ownBlock ∧ some k_ ≠ (.slice Ao24 y110.length co24 : Value).ownBlock ∧ some k_ ≠ (.slice Ao28 y118.length co28 : Value).ownBlock) ho0 (fun k_ hk_ => ⟨hk_.2.1, hk_.2.2, (Kd.fresh' (Kd.N_lt (Kd.N_below HO109.out zg)) k_ hk_.1), (Kd.fresh' (Kd.R_lt (zr HO112.out)) k_ hk_.1), (Kd.fresh' (Kd.R_lt (zr HO120.out)) k_ hk_.1)⟩)) (below_size zb)); have HO126 := zM (Kd.N_lower (Kd.N_mono (ok' := fun k_ => some k_ ≠ (v122 : Value).ownBlock ∧ some k_ ≠ (v129 : Value).ownBlock ∧ some k_ ≠ (.slice Ao23 y107.length co23 : Value).ownBlock ∧ some k_ ≠ (.slice Ao24 y110.length co24 : Value).ownBlock ∧ some k_ ≠ (.slice Ao28 y118.length co28 : Value).ownBlock) ho1 (fun k_ hk_ => ⟨hk_.2.1, hk_.2.2, (Kd.fresh' (Kd.N_lt (Kd.N_below HO109.out zg)) k_ hk_.1), (Kd.fresh' (Kd.R_lt (zr HO112.out)) k_ hk_.1), (Kd.fresh' (Kd.R_lt (zr HO120.out)) k_ hk_.1)⟩)) (below_size zb)); replace HO109 := zM (Kd.N_mono (Kd.N_told (Kd.N_told (Kd.N_told (Kd.N_old (Kd.N_below HO109.out zg) hb) (Kd.N_base ho0)) (Kd.N_base ho1)) (Kd.R_base ho2)) (fun _ h_ => h_.1)); replace HO112 := zM (Kd.R_below (zr HO112.out) hb); replace HO120 := zM (Kd.R_below (zr HO120.out) hb); have HO130 := zM (Kd.R_lower (Kd.R_mono (ok' := fun k_ => True) ho2 (fun _ hk_ => trivial)) (below_size zb)); replace HB := zM (below_step zb hb); (try clear hb); (try clear ho0); (try clear ho1); (try clear ho2)) | ((with_reducible refine gate_dst (N := 5) rfl ?_); (try (refine gate_guard (by rfl) ?_; dsimp only)); refine box_event ?hg (N := 5) ?hd (cs := #[.slice none 0 0, .slice none 0 0, .int .i64 0, .slice none 0 0]) (t := 28) ?hr ?_; (case hd => rfl); (case hg => rfl); (case hr => first | (go_simp; done) | (go_simp; rfl)); intro gb132 hg w30 hbox hb; replace HO109 := zM (Kd.N_below (Kd.N_elderB (Kd.N_below HO109.out zg) gb132 (Nat.le_of_eq hg.symm)) hb); replace HO112 := zM (Kd.R_below (zr HO112.out) hb); replace HO115 := zM (Kd.V_below (Kd.V_elderB (Kd.V_below HO115.out zg) gb132 (Nat.le_of_eq hg.symm)) hb); replace HO120 := zM (Kd.R_below (zr HO120.out) hb); replace HO123 := zM (Kd.N_below (Kd.N_elderB (Kd.N_below HO123.out zg) gb132 (Nat.le_of_eq hg.symm)) hb); replace HO126 := zM (Kd.N_below (Kd.N_elderB (Kd.N_below HO126.out zg) gb132 (Nat.le_of_eq hg.symm)) hb); replace HO130 := zM (Kd.R_below (zr HO130.out) hb); have BK132 := zM (hbox); have GW132 := zM (zh hg : w.heap.size ≤ gb132); have GE132 := zM (zh hg : w.heap.size ≤ gb132); replace HB := zM (below_step zb hb); clear hb hbox hg; obtain ⟨Ao31, co31, eo31⟩ := Kd.N_slice HO123.out; subst eo31; have hcz32_0 : w30.cell? ⟨gb132, 0, none⟩ = some (.slice none 0 0) := (zX BK132.out 0).trans rfl; have hcz32_1 : w30.cell? ⟨gb132, 1, none⟩ = some (.slice none 0 0) := (zX BK132.out 1).trans rfl; have hcz32_2 : w30.cell? ⟨gb132, 2, none⟩ = some (.int .i64 0) := (zX BK132.out 2).trans rfl; have hcz32_3 : w30.cell? ⟨gb132, 3, none⟩ = some (.slice none 0 0) := (zX BK132.out 3).trans rfl; have hfz32_0 := zY BK132.out 0; have hfz32_1 := zY BK132.out 1; have hfz32_2 := zY BK132.out 2; have hfz32_3 := zY BK132.out 3; obtain ⟨Ao33, co33, eo33⟩ := Kd.N_slice HO126.out; subst eo33; obtain ⟨Ao34, co34, eo34⟩ := Kd.R_slice HO130.out; subst eo34) | ((with_reducible refine gate_store (t := 28) (p := 5) rfl ?_); refine store_event (t := 28) (p := 5) (v := ?vo_w35) (w1 := ((((w30.setCell ⟨gb132, 0, none⟩ (.slice Ao31 t121.length co31)).setCell ⟨gb132, 1, none⟩ (.slice Ao33 t124.length co33)).setCell ⟨gb132, 2, none⟩ (.int .i64 t127)).setCell ⟨gb132, 3, none⟩ (.slice Ao34 t128.length co34))) ?hg ?ho ?hn ?hr ?_; (case ho => rfl); (case hg => rfl); (case hn => rfl); (case hr => first | (go_simp; done) | (go_simp; rfl)); intro w35 hw; have n0_ : Aside0 (Kd.N k73 73 w35 w.heap.size (fun k_ => some k_ ≠ (.slice Ao24 y110.length co24 : Value).ownBlock ∧ some k_ ≠ (.slice Ao28 y118.length co28 : Value).ownBlock ∧ some k_ ≠ (.slice Ao31 t121.length co31 : Value).ownBlock ∧ some k_ ≠ (.slice Ao33 t124.length co33 : Value).ownBlock ∧ some k_ ≠ (.slice Ao34 t128.length co34 : Value).ownBlock ∧ k_ ≠ gb132) (.slice Ao23 y107.length co23) y107) := ⟨(by rw [hw]; exact (by (with_reducible repeat (first | apply Kd.N_alloc | apply Kd.N_drewN | apply Kd.N_drew)); exact Kd.N_mono (Kd.N_far (p := ⟨gb132, 3, none⟩) (Kd.N_far (p := ⟨gb132, 2, none⟩) (Kd.N_far (p := ⟨gb132, 1, none⟩) (Kd.N_far (p := ⟨gb132, 0, none⟩) (Kd.N_mono HO109.out (fun k_ hk => (⟨hk, hk.2⟩ : _ ∧ k_ ≠ gb132))) (fun _ hk => hk.2) (.slice Ao31 t121.length co31)) (fun _ hk => hk.2) (.slice Ao33 t124.length co33)) (fun _ hk => hk.2) (.int .i64 t127)) (fun _ hk => hk.2) (.slice Ao34 t128.length co34)) (fun _ hk => ⟨hk.1.1.1.1.1.1.2, ⟨hk.1.1.1.1.1.2, ⟨hk.1.1.1.1.2, ⟨hk.1.1.1.2, ⟨hk.1.1.2, hk.1.2⟩⟩⟩⟩⟩)))⟩; have n1_ : Aside0 (Kd.R k54 54 w35 w.heap.size (fun k_ => some k_ ≠ (.slice Ao28 y118.length co28 : Value).ownBlock) (.slice Ao24 y110.length co24) y110) := ⟨(by rw [hw]; exact (by (with_reducible repeat (first | apply Kd.R_alloc | apply Kd.R_drewN | apply Kd.R_drew)); exact Kd.R_mono (Kd.R_far (p := ⟨gb132, 3, none⟩) (Kd.R_far (p := ⟨gb132, 2, none⟩) (Kd.R_far (p := ⟨gb132, 1, none⟩) (Kd.R_far (p := ⟨gb132, 0, none⟩) (Kd.R_types HO112.out BK132.out (by decide)) (fun _ hk => hk.2) (.slice Ao31 t121.length co31)) (fun _ hk => hk.2) (.slice Ao33 t124.length co33)) (fun _ hk => hk.2) (.int .i64 t127)) (fun _ hk => hk.2) (.slice Ao34 t128.length co34)) (fun _ hk => hk.1.2)))⟩; have n2_ : Aside0 (Kd.V k54 54 w35 w.heap.size (fun k_ => some k_ ≠ (.slice Ao23 y107.length co23 : Value).ownBlock ∧ some k_ ≠ (.slice Ao24 y110.length co24 : Value).ownBlock ∧ some k_ ≠ (.slice Ao28 y118.length co28 : Value).ownBlock ∧ some k_ ≠ (.slice Ao31 t121.length co31 : Value).ownBlock ∧ some k_ ≠ (.slice Ao33 t124.length co33 : Value).ownBlock ∧ some k_ ≠ (.slice Ao34 t128.length co34 : Value).ownBlock ∧ k_ ≠ gb132) v114 t113) := ⟨(by rw [hw]; exact (by (with_reducible repeat (first | apply Kd.V_alloc | apply Kd.V_drewN | apply Kd.V_drew)); exact Kd.V_mono (Kd.V_far (p := ⟨gb132, 3, none⟩) (Kd.V_far (p := ⟨gb132, 2, none⟩) (Kd.V_far (p := ⟨gb132, 1, none⟩) (Kd.V_far (p := ⟨gb132, 0, none⟩) (Kd.V_mono HO115.out (fun k_ hk => (⟨hk, hk.2⟩ : _ ∧ k_ ≠ gb132))) (fun _ hk => hk.2) (.slice Ao31 t121.length co31)) (fun _ hk => hk.2) (.slice Ao33 t124.length co33)) (fun _ hk => hk.2) (.int .i64 t127)) (fun _ hk => hk.2) (.slice Ao34 t128.length co34)) (fun _ hk => ⟨hk.1.1.1.1.1.1.1, ⟨hk.1.1.1.1.1.1.2, ⟨hk.1.1.1.1.1.2, ⟨hk.1.1.1.1.2, ⟨hk.1.1.1.2, ⟨hk.1.1.2, hk.1.2⟩⟩⟩⟩⟩⟩)))⟩; have n3_ : Aside0 (Kd.R k54 54 w35 w.heap.size (fun k_ => some k_ ≠ (.slice Ao24 y110.length co24 : Value).ownBlock) (.slice Ao28 y118.length co28) y118) := ⟨(by rw [hw]; exact (by (with_reducible repeat (first | apply Kd.R_alloc | apply Kd.R_drewN | apply Kd.R_drew)); exact Kd.R_mono (Kd.R_far (p := ⟨gb132, 3, none⟩) (Kd.R_far (p := ⟨gb132, 2, none⟩) (Kd.R_far (p := ⟨gb132, 1, none⟩) (Kd.R_far (p := ⟨gb132, 0, none⟩) (Kd.R_types HO120.out BK132.out (by decide)) (fun _ hk => hk.2) (.slice Ao31 t121.length co31)) (fun _ hk => hk.2) (.slice Ao33 t124.length co33)) (fun _ hk => hk.2) (.int .i64 t127)) (fun _ hk => hk.2) (.slice Ao34 t128.length co34)) (fun _ hk => hk.1.2)))⟩; have n4_ : Aside0 (Kd.N k70 70 w35 w.heap.size (fun k_ => some k_ ≠ (.slice Ao23 y107.length co23 : Value).ownBlock ∧ some k_ ≠ (.slice Ao24 y110.length co24 : Value).ownBlock ∧ some k_ ≠ (.slice Ao28 y118.length co28 : Value).ownBlock ∧ some k_ ≠ (.slice Ao33 t124.length co33 : Value).ownBlock ∧ some k_ ≠ (.slice Ao34 t128.length co34 : Value).ownBlock ∧ k_ ≠ gb132) (.slice Ao31 t121.length co31) t121) := ⟨(by rw [hw]; exact (by (with_reducible repeat (first | apply Kd.N_alloc | apply Kd.N_drewN | apply Kd.N_drew)); exact Kd.N_mono (Kd.N_far (p := ⟨gb132, 3, none⟩) (Kd.N_far (p := ⟨gb132, 2, none⟩) (Kd.N_far (p := ⟨gb132, 1, none⟩) (Kd.N_far (p := ⟨gb132, 0, none⟩) (Kd.N_mono HO123.out (fun k_ hk => (⟨hk, hk.2⟩ : _ ∧ k_ ≠ gb132))) (fun _ hk => hk.2) (.slice Ao31 t121.length co31)) (fun _ hk => hk.2) (.slice Ao33 t124.length co33)) (fun _ hk => hk.2) (.int .i64 t127)) (fun _ hk => hk.2) (.slice Ao34 t128.length co34)) (fun _ hk => ⟨hk.1.1.2.2.1, ⟨hk.1.1.2.2.2.1, ⟨hk.1.1.2.2.2.2, ⟨hk.1.1.1, ⟨hk.1.1.2.1, hk.1.2⟩⟩⟩⟩⟩)))⟩; have n5_ : Aside0 (Kd.N (Kd.slice 54 k54) 23 w35 w.heap.size (fun k_ => some k_ ≠ (.slice Ao23 y107.length co23 : Value).ownBlock ∧ some k_ ≠ (.slice Ao24 y110.length co24 : Value).ownBlock ∧ some k_ ≠ (.slice Ao28 y118.length co28 : Value).ownBlock ∧ some k_ ≠ (.slice Ao31 t121.length co31 : Value).ownBlock ∧ some k_ ≠ (.slice Ao34 t128.length co34 : Value).ownBlock ∧ k_ ≠ gb132) (.slice Ao33 t124.length co33) t124) := ⟨(by rw [hw]; exact (by (with_reducible repeat (first | apply Kd.N_alloc | apply Kd.N_drewN | apply Kd.N_drew)); exact Kd.N_mono (Kd.N_far (p := ⟨gb132, 3, none⟩) (Kd.N_far (p := ⟨gb132, 2, none⟩) (Kd.N_far (p := ⟨gb132, 1, none⟩) (Kd.N_far (p := ⟨gb132, 0, none⟩) (Kd.N_mono HO126.out (fun k_ hk => (⟨hk, hk.2⟩ : _ ∧ k_ ≠ gb132))) (fun _ hk => hk.2) (.slice Ao31 t121.length co31)) (fun _ hk => hk.2) (.slice Ao33 t124.length co33)) (fun _ hk => hk.2) (.int .i64 t127)) (fun _ hk => hk.2) (.slice Ao34 t128.length co34)) (fun _ hk => ⟨hk.1.1.2.2.1, ⟨hk.1.1.2.2.2.1, ⟨hk.1.1.2.2.2.2, ⟨hk.1.1.1, ⟨hk.1.1.2.1, hk.1.2⟩⟩⟩⟩⟩)))⟩; have n6_ : Aside0 (Kd.R Kd.string 9 w35 w.heap.size (fun _ => True) (.slice Ao34 t128.length co34) t128) := ⟨(by rw [hw]; exact (by (with_reducible repeat (first | apply Kd.R_alloc | apply Kd.R_drewN | apply Kd.R_drew)); exact Kd.R_mono (Kd.R_far (p := ⟨gb132, 3, none⟩) (Kd.R_far (p := ⟨gb132, 2, none⟩) (Kd.R_far (p := ⟨gb132, 1, none⟩) (Kd.R_far (p := ⟨gb132, 0, none⟩) (Kd.R_types HO130.out BK132.out (by decide)) (fun _ hk => hk.2) (.slice Ao31 t121.length co31)) (fun _ hk => hk.2) (.slice Ao33 t124.length co33)) (fun _ hk => hk.2) (.int .i64 t127)) (fun _ hk => hk.2) (.slice Ao34 t128.length co34)) (fun _ hk => trivial)))⟩; have n7_ : Aside0 (w35.heap[gb132]? = some (.cells #[.slice Ao31 t121.length co31, .slice Ao33 t124.length co33, .int .i64 t127, .slice Ao34 t128.length co34] 28 (0, 0))) := ⟨(by rw [hw]; exact (by refine zk ?_; refine blk_put (cs := #[.slice Ao31 t121.length co31, .slice Ao33 t124.length co33, .int .i64 t127, .slice none 0 0]) ?_ 3 _ rfl; refine zk ?_; refine blk_put (cs := #[.slice Ao31 t121.length co31, .slice Ao33 t124.length co33, .int .i64 0, .slice none 0 0]) ?_ 2 _ rfl; refine zk ?_; refine blk_put (cs := #[.slice Ao31 t121.length co31, .slice none 0 0, .int .i64 0, .slice none 0 0]) ?_ 1 _ rfl; refine zk ?_; refine blk_put (cs := #[.slice none 0 0, .slice none 0 0, .int .i64 0, .slice none 0 0]) ?_ 0 _ rfl; refine zk ?_; exact BK132.out))⟩; have n8_ : Aside0 (Below w.heap.size w w35) := ⟨(by rw [hw]; exact zb)⟩; clear hw; clear HO109; clear HO112; clear HO115; clear HO120; clear HO123; clear HO126; clear HO130; clear BK132; clear HB; have HO109 := n0_; have HO112 := n1_; have HO115 := n2_; have HO120 := n3_; have HO123 := n4_; have HO126 := n5_; have HO130 := n6_; have BK132 := n7_; have HB := n8_; clear n0_ n1_ n2_ n3_ n4_ n5_ n6_ n7_ n8_; obtain ⟨Ao36, co36, eo36⟩ := Kd.V_slice HO115.out; subst eo36; have p133 : 0 ≤ (0 : Int) := (by omega); have q133 : 0 < (t113.length : Int) := zT zv; obtain ⟨ad133, e133, hx133_0, hx133_1⟩ := at_T54 (Kd.V_reads' HO115.out).2.2 0 p133 q133; cases e133; have qi133 : (0 < t113.length) = True := eq_true (by omega); (try rw [show ((0 : Int)).toNat = 0 from rfl] at hx133_0); (try rw [show 0 * 2 = 0 from rfl] at hx133_0); (try rw [Addr.add_zero'] at hx133_0); (try rw [show ((0 : Int)).toNat = 0 from rfl] at hx133_1); (try rw [show 0 * 2 = 0 from rfl] at hx133_1); (try rw [Addr.add_zero'] at hx133_1); replace p133 := eq_true p133; replace q133 := eq_true q133; have hcz37_0 : w35.cell? ⟨gb132, 0, none⟩ = some (.slice Ao31 t121.length co31) := (zX BK132.out 0).trans rfl; have hcz37_1 : w35.cell? ⟨gb132, 1, none⟩ = some (.slice Ao33 t124.length co33) := (zX BK132.out 1).trans rfl; have hcz37_2 : w35.cell? ⟨gb132, 2, none⟩ = some (.int .i64 t127) := (zX BK132.out 2).trans rfl; have hcz37_3 : w35.cell? ⟨gb132, 3, none⟩ = some (.slice Ao34 t128.length co34) := (zX BK132.out 3).trans rfl; have hfz37_0 := zY BK132.out 0; have hfz37_1 := zY BK132.out 1; have hfz37_2 := zY BK132.out 2; have hfz37_3 := zY BK132.out 3; have p134 : 0 ≤ (0 : Int) := (by omega); have q134 : 0 < (t121.length : Int) := zT zv; obtain ⟨ad134, A134_3, c134_3, e134, hx134_0, hx134_1, hx134_2, hx134_3, hl134_3, hi134_3⟩ := at_T70 (Kd.N_reads' HO123.out).2.2 0 p134 q134; cases e134; obtain ⟨ce134, hce134, hMe134, hcc134⟩ := Kd.N_get HO123.out z70 0 p134 (by first | exact q134 | exact zT zv | (have e_ := (Kd.N_reads' HO123.out).1; omega)); obtain ⟨ua134_3, uc134_3, rfl, ul134_3, ge134_3⟩ := k70_openF hMe134; have hv134_3 := hcc134 3 _ rfl; rw [add_field _ _ 3 (by omega)] at hv134_3; replace hv134_3 := zS (hv134_3.symm.trans hx134_3); injection hv134_3 with hva_ hvn_ hvc_; rw [hva_] at ge134_3; rw [hvc_] at ul134_3; have HL134_3 := zM (show Kd.V k54 54 _ w.heap.size _ _ ((rd_T70 t121 0).f2) from Kd.V_mk ul134_3 ge134_3); clear hva_ hvn_ hvc_ ge134_3 ul134_3; clear hcc134 hce134; have qi134 : (0 < t121.length) = True := eq_true (by omega); (try rw [show ((0 : Int)).toNat = 0 from rfl] at hx134_0); (try rw [show 0 * 4 = 0 from rfl] at hx134_0); (try rw [Addr.add_zero'] at hx134_0); (try rw [show ((0 : Int)).toNat = 0 from rfl] at hx134_1); (try rw [show 0 * 4 = 0 from rfl] at hx134_1); (try rw [Addr.add_zero'] at hx134_1); (try rw [show ((0 : Int)).toNat = 0 from rfl] at hx134_2); (try rw [show 0 * 4 = 0 from rfl] at hx134_2); (try rw [Addr.add_zero'] at hx134_2); (try rw [show ((0 : Int)).toNat = 0 from rfl] at hx134_3); (try rw [show 0 * 4 = 0 from rfl] at hx134_3); (try rw [Addr.add_zero'] at hx134_3); have HR134_3 := zM hi134_3; have HC134_3 := zM hl134_3; clear hi134_3 hl134_3; replace p134 := eq_true p134; replace q134 := eq_true q134; have p135 : 0 ≤ (2 : Int) := (by omega); have q135 : 2 < (t121.length : Int) := zT zv; obtain ⟨ad135, A135_3, c135_3, e135, hx135_0, hx135_1, hx135_2, hx135_3, hl135_3, hi135_3⟩ := at_T70 (Kd.N_reads' HO123.out).2.2 2 p135 q135; obtain rfl : ad134 = ad135 := (by injection e135); obtain ⟨ce135, hce135, hMe135, hcc135⟩ := Kd.N_get HO123.out z70 2 p135 (by first | exact q135 | exact zT zv | (have e_ := (Kd.N_reads' HO123.out).1; omega)); obtain ⟨ua135_3, uc135_3, rfl, ul135_3, ge135_3⟩ := k70_openF hMe135; have hv135_3 := hcc135 3 _ rfl; rw [add_field _ _ 3 (by omega)] at hv135_3; replace hv135_3 := zS (hv135_3.symm.trans hx135_3); injection hv135_3 with hva_ hvn_ hvc_; rw [hva_] at ge135_3; rw [hvc_] at ul135_3; have HL135_3 := zM (show Kd.V k54 54 _ w.heap.size _ _ ((rd_T70 t121 2).f2) from Kd.V_mk ul135_3 ge135_3); clear hva_ hvn_ hvc_ ge135_3 ul135_3; clear hcc135 hce135; (try simp only [show (2 : Int).toNat = 2 from rfl, Nat.reduceMul, Nat.reduceEqDiff, Go.Addr.add, ↓reduceIte] at hx135_0); (try simp only [show (2 : Int).toNat = 2 from rfl, Nat.reduceMul, Nat.reduceEqDiff, Go.Addr.add, ↓reduceIte] at hx135_1); (try simp only [show (2 : Int).toNat = 2 from rfl, Nat.reduceMul, Nat.reduceEqDiff, Go.Addr.add, ↓reduceIte] at hx135_2); (try simp only [show (2 : Int).toNat = 2 from rfl, Nat.reduceMul, Nat.reduceEqDiff, Go.Addr.add, ↓reduceIte] at hx135_3); have qi135 : (2 < t121.length) = True := eq_true (by omega); (try rw [show ((2 : Int)).toNat = 2 from rfl] at hx135_0); (try rw [show 2 * 4 = 8 from rfl] at hx135_0); (try rw [show ((2 : Int)).toNat = 2 from rfl] at hx135_1); (try rw [show 2 * 4 = 8 from rfl] at hx135_1); (try rw [show ((2 : Int)).toNat = 2 from rfl] at hx135_2); (try rw [show 2 * 4 = 8 from rfl] at hx135_2); (try rw [show ((2 : Int)).toNat = 2 from rfl] at hx135_3); (try rw [show 2 * 4 = 8 from rfl] at hx135_3); have HR135_3 := zM hi135_3; have HC135_3 := zM hl135_3; clear hi135_3 hl135_3; replace p135 := eq_true p135; replace q135 := eq_true q135))
           go_ret
           exact ⟨zw, zb⟩
          ·
           rw [if_neg c12] at H
           exact absurd H (by simp)
         ·
          rw [if_neg c11] at H
          have c11b0 : (((rd_T70 t121 0).f1.f0).toList == ([103] : List UInt8)) = false := zE c11
          have c11b1 : (((rd_T70 t121 0).f1.f0).toList != ([103] : List UInt8)) = true := zF c11
          exact absurd ((zS H).trans HRT.out) (by decide)
        ·
         rw [if_neg c10] at H
         exact absurd H (by simp)
       ·
        rw [if_neg c9] at H
        have c9b0 : ((t121.length : Int) == 3) = false := zE c9
        have c9b1 : ((t121.length : Int) != 3) = true := zF c9
        exact absurd ((zS H).trans HRT.out) (by decide)
      ·
       rw [if_neg c8] at H
       have c8b0 : (t131 == 0) = false := zE c8
       have c8b1 : (t131 != 0) = true := zF c8
       exact absurd ((zS H).trans HRT.out) (by decide)
     ·
      rw [if_neg c7] at H
      have c7b0 : (((rd_T54 t113 0).f0).toList == ([115] : List UInt8)) = false := zE c7
      have c7b1 : (((rd_T54 t113 0).f0).toList != ([115] : List UInt8)) = true := zF c7
      exact absurd ((zS H).trans HRT.out) (by decide)
    ·
     rw [if_neg c6] at H
     exact absurd H (by simp)
   ·
    rw [if_neg c5] at H
    have c5b0 : ((t113.length : Int) == 2) = false := zE c5
    have c5b1 : ((t113.length : Int) != 2) = true := zF c5
    exact absurd ((zS H).trans HRT.out) (by decide)
  ·
   rw [if_neg c4] at H
   have c4b0 : (t116 == 1) = false := zE c4
   have c4b1 : (t116 != 1) = true := zF c4
   exact absurd ((zS H).trans HRT.out) (by decide)
 ·
  rw [if_neg c3] at H
  have c3b0 : (t117 == 0) = false := zE c3
  have c3b1 : (t117 != 0) = true := zF c3
  exact absurd ((zS H).trans HRT.out) (by decide)


-- ==== PF13

/-! ### aumbryref04_Copy: function 13 -/
def aumbryref04_Copy.f (l0 : List (S54)) : Option ((List (S54))) := if ([] : List (S54)).length + l0.length < 5864062014805 then (some (([] : List (S54)) ++ l0)) else (none)
theorem aumbryref04_Copy.calls (A0 : Option Addr) (c0 : Nat) (l0 : List (S54)) (r : List (S54)) (w : World) (hr0 : Kd.C k54 w A0 l0.length l0) (hc0 : l0.length ≤ c0) (h : aumbryref04_Copy.f l0 = some r) :
 Calls Try.prog 13 #[.slice A0 l0.length c0] w fun e w' => ∃ v0_ : Value, e = .returned (v0_) ∧ Kd.R k54 54 w' w.heap.size (fun _ => True) v0_ r ∧ Below w.heap.size w w' := by
 have HR0 := zM hr0
 have HC0 := zM hc0
 clear hr0 hc0
 have HB := zM (Below.refl w.heap.size w)
 have H : (if ([] : List (S54)).length + l0.length < 5864062014805 then (some (([] : List (S54)) ++ l0)) else (none)) = some r := h
 clear h
 by_cases c2 : ([] : List (S54)).length + l0.length < 5864062014805
 ·
  rw [if_pos c2] at H
  have LMc2 := zM c2
  clear c2
  obtain ⟨y101, hy101⟩ : ∃ y_ : List (S54), y_ = (([] : List (S54)) ++ l0) := ⟨_, rfl⟩
  replace H : (some y101) = some r := by first | (rw [hy101]; with_reducible exact H) | (have H2_ := (Option.bind_some _ _).symm.trans H; rw [hy101]; with_reducible exact H2_) | (have H2_ := (Option.bind_some _ _).symm.trans H; with_reducible exact H2_) | with_reducible exact H | (rw [hy101]; exact H) | exact H
  have Ny101 := zM hy101
  clear hy101
  obtain rfl := zS H
  go_enter Try.func13, Try.ntmps13
  go_wp2_with (first | ((with_reducible refine gate_builtin (b := .append) (xs := #[.tmp 4, .tmp 5]) rfl ?_); at_builtin; refine Kd.R_append_rows k54 (w0 := w) w.heap.size rfl (.tmp 4) (.tmp 5) 23 54 (.agg #[(.string ⟨#[]⟩), (.int .i64 0)]) 24 rfl Try.underlying23 info54 rfl (by decide) (by omega) (.slice none 0 0) ([] : List (S54)) l0 _ _ _ (fun _ => True) (fun _ => False) rfl rfl ?aO ?aR (fun _ _ h => h) (fun _ h => h.elim) ?aF ?aB ?aS ?aL ?_; (case aR => exact Kd.C_below HR0.out zg); (case aB => exact zb); (case aF => exact (fun _ _ => trivial)); (case aO => exact ((Kd.R_nil _ _ _ _ (fun _ => True)))); (case aS => exact (below_size zb)); (case aL => have := LMc2.out; omega); intro v102 w3 ho hb hg hat; rw [← Ny101.out] at ho; replace HB := zM (hb); have HO103 := zM (ho); clear ho hb hg hat))
  go_ret
  exact ⟨_, zw, zr HO103.out, zb⟩
 ·
  rw [if_neg c2] at H
  exact absurd H (by simp)


-- ==== PF45

/-! ### aumbryref03_Kind: function 45 -/
mutual
def aumbryref03_Kind.j0 : Nat → ByteArray → Bool → Option (Int)
 | 0, _, _ => none
 | k + 1, x0, x15 => if x15 = true then (some 0) else (aumbryref03_Kind.l0 k x0 true true 0)
def aumbryref03_Kind.l0 : Nat → ByteArray → Bool → Bool → Int → Option (Int)
 | 0, _, _, _, _ => none
 | k + 1, x0, x3, x4, x5 => if x5 < (x0.size : Int) then (if 0 ≤ x5 then (if (bt x0 x5) ≥ 48 then (if (bt x0 x5) ≤ 57 then (if x3 = true then (if (bt x0 x5) ≥ 97 then (if (bt x0 x5) ≤ 122 then (if x4 = true then (if (bt x0 x5) ≥ 65 then (if (bt x0 x5) ≤ 90 then (aumbryref03_Kind.l0 k x0 true true (wrap64 (x5 + 1))) else (aumbryref03_Kind.l0 k x0 true (decide (x5 > 0)) (wrap64 (x5 + 1)))) else (aumbryref03_Kind.l0 k x0 true (decide (x5 > 0)) (wrap64 (x5 + 1)))) else (aumbryref03_Kind.l0 k x0 true false (wrap64 (x5 + 1)))) else (if x4 = true then (if (bt x0 x5) ≥ 65 then (if (bt x0 x5) ≤ 90 then (aumbryref03_Kind.l0 k x0 (decide (x5 > 0)) true (wrap64 (x5 + 1))) else (aumbryref03_Kind.l0 k x0 (decide (x5 > 0)) (decide (x5 > 0)) (wrap64 (x5 + 1)))) else (aumbryref03_Kind.l0 k x0 (decide (x5 > 0)) (decide (x5 > 0)) (wrap64 (x5 + 1)))) else (aumbryref03_Kind.l0 k x0 (decide (x5 > 0)) false (wrap64 (x5 + 1))))) else (if x4 = true then (if (bt x0 x5) ≥ 65 then (if (bt x0 x5) ≤ 90 then (aumbryref03_Kind.l0 k x0 (decide (x5 > 0)) true (wrap64 (x5 + 1))) else (aumbryref03_Kind.l0 k x0 (decide (x5 > 0)) (decide (x5 > 0)) (wrap64 (x5 + 1)))) else (aumbryref03_Kind.l0 k x0 (decide (x5 > 0)) (decide (x5 > 0)) (wrap64 (x5 + 1)))) else (aumbryref03_Kind.l0 k x0 (decide (x5 > 0)) false (wrap64 (x5 + 1))))) else (if x4 = true then (if (bt x0 x5) ≥ 65 then (if (bt x0 x5) ≤ 90 then (aumbryref03_Kind.l0 k x0 false true (wrap64 (x5 + 1))) else (aumbryref03_Kind.l0 k x0 false (decide (x5 > 0)) (wrap64 (x5 + 1)))) else (aumbryref03_Kind.l0 k x0 false (decide (x5 > 0)) (wrap64 (x5 + 1)))) else (aumbryref03_Kind.l0 k x0 false false (wrap64 (x5 + 1))))) else (if x3 = true then (if (bt x0 x5) ≥ 97 then (if (bt x0 x5) ≤ 122 then (if x4 = true then (if (bt x0 x5) ≥ 65 then (if (bt x0 x5) ≤ 90 then (aumbryref03_Kind.l0 k x0 true true (wrap64 (x5 + 1))) else (aumbryref03_Kind.l0 k x0 true false (wrap64 (x5 + 1)))) else (aumbryref03_Kind.l0 k x0 true false (wrap64 (x5 + 1)))) else (aumbryref03_Kind.l0 k x0 true false (wrap64 (x5 + 1)))) else (if x4 = true then (if (bt x0 x5) ≥ 65 then (if (bt x0 x5) ≤ 90 then (aumbryref03_Kind.l0 k x0 false true (wrap64 (x5 + 1))) else (aumbryref03_Kind.l0 k x0 false false (wrap64 (x5 + 1)))) else (aumbryref03_Kind.l0 k x0 false false (wrap64 (x5 + 1)))) else (aumbryref03_Kind.l0 k x0 false false (wrap64 (x5 + 1))))) else (if x4 = true then (if (bt x0 x5) ≥ 65 then (if (bt x0 x5) ≤ 90 then (aumbryref03_Kind.l0 k x0 false true (wrap64 (x5 + 1))) else (aumbryref03_Kind.l0 k x0 false false (wrap64 (x5 + 1)))) else (aumbryref03_Kind.l0 k x0 false false (wrap64 (x5 + 1)))) else (aumbryref03_Kind.l0 k x0 false false (wrap64 (x5 + 1))))) else (if x4 = true then (if (bt x0 x5) ≥ 65 then (if (bt x0 x5) ≤ 90 then (aumbryref03_Kind.l0 k x0 false true (wrap64 (x5 + 1))) else (aumbryref03_Kind.l0 k x0 false false (wrap64 (x5 + 1)))) else (aumbryref03_Kind.l0 k x0 false false (wrap64 (x5 + 1)))) else (aumbryref03_Kind.l0 k x0 false false (wrap64 (x5 + 1)))))) else (if x3 = true then (if (bt x0 x5) ≥ 97 then (if (bt x0 x5) ≤ 122 then (if x4 = true then (if (bt x0 x5) ≥ 65 then (if (bt x0 x5) ≤ 90 then (aumbryref03_Kind.l0 k x0 true true (wrap64 (x5 + 1))) else (aumbryref03_Kind.l0 k x0 true false (wrap64 (x5 + 1)))) else (aumbryref03_Kind.l0 k x0 true false (wrap64 (x5 + 1)))) else (aumbryref03_Kind.l0 k x0 true false (wrap64 (x5 + 1)))) else (if x4 = true then (if (bt x0 x5) ≥ 65 then (if (bt x0 x5) ≤ 90 then (aumbryref03_Kind.l0 k x0 false true (wrap64 (x5 + 1))) else (aumbryref03_Kind.l0 k x0 false false (wrap64 (x5 + 1)))) else (aumbryref03_Kind.l0 k x0 false false (wrap64 (x5 + 1)))) else (aumbryref03_Kind.l0 k x0 false false (wrap64 (x5 + 1))))) else (if x4 = true then (if (bt x0 x5) ≥ 65 then (if (bt x0 x5) ≤ 90 then (aumbryref03_Kind.l0 k x0 false true (wrap64 (x5 + 1))) else (aumbryref03_Kind.l0 k x0 false false (wrap64 (x5 + 1)))) else (aumbryref03_Kind.l0 k x0 false false (wrap64 (x5 + 1)))) else (aumbryref03_Kind.l0 k x0 false false (wrap64 (x5 + 1))))) else (if x4 = true then (if (bt x0 x5) ≥ 65 then (if (bt x0 x5) ≤ 90 then (aumbryref03_Kind.l0 k x0 false true (wrap64 (x5 + 1))) else (aumbryref03_Kind.l0 k x0 false false (wrap64 (x5 + 1)))) else (aumbryref03_Kind.l0 k x0 false false (wrap64 (x5 + 1)))) else (aumbryref03_Kind.l0 k x0 false false (wrap64 (x5 + 1)))))) else (none)) else (if x3 = true then (some 1) else (if x4 = true then (some 2) else (some 0)))
end
def aumbryref03_Kind.f (k : Nat) (a0 : ByteArray) : Option (Int) := if (a0.size : Int) < 1 then (aumbryref03_Kind.j0 k a0 true) else (aumbryref03_Kind.j0 k a0 (decide ((a0.size : Int) > 8)))
theorem aumbryref03_Kind.calls (k : Nat) (a0 : ByteArray) (r : Int) (w : World) (h : aumbryref03_Kind.f k a0 = some r) :
 Calls Try.prog 45 #[.string a0] w fun e w' => e = .returned (.int .i64 r) ∧ Drawn0 w w' := by
 have H : (if (a0.size : Int) < 1 then (aumbryref03_Kind.j0 k a0 true) else (aumbryref03_Kind.j0 k a0 (decide ((a0.size : Int) > 8)))) = some r := h
 clear h
 have HC2 := zM H
 clear H
 go_enter Try.func45, Try.ntmps45
 go_upto_region 1 with (fail)
 go_cut [15] (fun v15 wc => ∃ (kq : Nat) (x15_1 : Bool), v15 = .bool x15_1 ∧ Aside0 (aumbryref03_Kind.j0 kq a0 x15_1 = some r) ∧ Aside0 (kq ≤ k) ∧ Drawn0 w wc)
 case first =>
  have H := HC2.out
  clear HC2
  by_cases c3 : (a0.size : Int) < 1
  ·
   rw [if_pos c3] at H
   have c3b0 : decide ((a0.size : Int) < 1) = true := zQ c3
   have c3b1 : decide (a0.size < 1) = true := zQ (by omega)
   clear c3
   (first | rw [c3b0] | (simp only [i64_w, i32_w]; rw [c3b0]) | skip)
   have H' := zM H
   clear H
   go_wp2
   go_meet
   case rel => exact ⟨_, (true), zy, H', ⟨by first | omega | exact Nat.le_refl _⟩, zd⟩
  ·
   rw [if_neg c3] at H
   have c3b0 : decide ((a0.size : Int) < 1) = false := zR c3
   have c3b1 : decide (a0.size < 1) = false := zR (by omega)
   clear c3
   (first | rw [c3b0] | (simp only [i64_w, i32_w]; rw [c3b0]) | skip)
   have H' := zM H
   clear H
   go_wp2
   go_meet
   case rel => exact ⟨_, (decide ((a0.size : Int) > 8)), zy, H', ⟨by first | omega | exact Nat.le_refl _⟩, zd⟩
 case rest =>
  clear HC2
  try clear p2
  try clear c3
  try clear c3b0
  try clear c3b1
  obtain ⟨kq, x15_1, rfl, HA, HJ1, ⟨mc1, rfl⟩⟩ := hcut
  cases kq with
  | zero => exact absurd HA.out (by simp [aumbryref03_Kind.j0])
  | succ kj1 =>
   have H := HA.out
   clear HA
   simp only [aumbryref03_Kind.j0] at H
   by_cases c4 : x15_1 = true
   ·
    subst c4
    rw [if_pos rfl] at H
    obtain rfl := zS H
    go_wp2
    go_ret
    exact ⟨zy, zd⟩
   ·
    replace c4 := zI c4
    subst c4
    rw [if_neg (show ¬ (false = true) by decide)] at H
    have H' := zM H
    clear H
    go_wp2
    go_loopg [3, 4, 5] kj1 (fun kq v3 v4 v5 w' => ∃ (x3_2 : Bool) (x4_2 : Bool) (x5_2 : Int), v3 = .bool x3_2 ∧ v4 = .bool x4_2 ∧ v5 = .int .i64 x5_2 ∧ Aside0 (aumbryref03_Kind.l0 kq a0 x3_2 x4_2 x5_2 = some r) ∧ Aside0 (kq ≤ kj1) ∧ Drawn0 w w')
    case atStart => exact ⟨(true), (true), (0), zy, zy, zy, H', ⟨Nat.le_refl _⟩, zd⟩
    case round =>
     clear H'
     try clear c1
     try clear p2
     try clear c3
     try clear c3b0
     try clear c3b1
     try clear c4
     try clear p2
     obtain ⟨x3_2, x4_2, x5_2, rfl, rfl, rfl, HA, HK2, ⟨m2, rfl⟩⟩ := hrel
     cases gk with
     | zero => exact absurd HA.out (by simp [aumbryref03_Kind.l0])
     | succ k2 =>
      have H := HA.out
      clear HA
      simp only [aumbryref03_Kind.l0] at H
      by_cases c5 : x5_2 < (a0.size : Int)
      ·
       rw [if_pos c5] at H
       have c5b0 : decide (x5_2 < (a0.size : Int)) = true := zQ c5
       clear c5
       by_cases c6 : 0 ≤ x5_2
       ·
        rw [if_pos c6] at H
        have c6b0 : decide (0 ≤ x5_2) = true := zQ c6
        clear c6
        by_cases c8 : (bt a0 x5_2) ≥ 48
        ·
         rw [if_pos c8] at H
         have c8b0 : decide (48 ≤ (bt a0 x5_2)) = true := zQ c8
         clear c8
         by_cases c9 : (bt a0 x5_2) ≤ 57
         ·
          rw [if_pos c9] at H
          have c9b0 : decide ((bt a0 x5_2) ≤ 57) = true := zQ c9
          clear c9
          by_cases c10 : x3_2 = true
          ·
           subst c10
           rw [if_pos rfl] at H
           by_cases c11 : (bt a0 x5_2) ≥ 97
           ·
            rw [if_pos c11] at H
            have c11b0 : decide (97 ≤ (bt a0 x5_2)) = true := zQ c11
            clear c11
            by_cases c12 : (bt a0 x5_2) ≤ 122
            ·
             rw [if_pos c12] at H
             have c12b0 : decide ((bt a0 x5_2) ≤ 122) = true := zQ c12
             clear c12
             by_cases c13 : x4_2 = true
             ·
              subst c13
              rw [if_pos rfl] at H
              by_cases c14 : (bt a0 x5_2) ≥ 65
              ·
               rw [if_pos c14] at H
               have c14b0 : decide (65 ≤ (bt a0 x5_2)) = true := zQ c14
               clear c14
               by_cases c15 : (bt a0 x5_2) ≤ 90
               ·
                rw [if_pos c15] at H
                have c15b0 : decide ((bt a0 x5_2) ≤ 90) = true := zQ c15
                clear c15
                have H' := zM H
                clear H
                have p7 : 0 ≤ (x5_2 : Int) := zT zv
                have q7 : x5_2 < (a0.size : Int) := zT zv
                have hx7 := bt_at a0 x5_2
                replace p7 := eq_true p7
                replace q7 := eq_true q7
                go_wp2
                go_roundg k2
                case measure => have := HJ1.out; have := HK2.out; omega
                case rel => exact ⟨(true), (true), (wrap64 (x5_2 + 1)), zy, zy, zy, H', ⟨by have := HJ1.out; have := HK2.out; omega⟩, zd⟩
               ·
                rw [if_neg c15] at H
                have c15b0 : decide ((bt a0 x5_2) ≤ 90) = false := zR c15
                clear c15
                have H' := zM H
                clear H
                have p7 : 0 ≤ (x5_2 : Int) := zT zv
                have q7 : x5_2 < (a0.size : Int) := zT zv
                have hx7 := bt_at a0 x5_2
                replace p7 := eq_true p7
                replace q7 := eq_true q7
                go_wp2
                go_roundg k2
                case measure => have := HJ1.out; have := HK2.out; omega
                case rel => exact ⟨(true), (decide (x5_2 > 0)), (wrap64 (x5_2 + 1)), zy, zy, zy, H', ⟨by have := HJ1.out; have := HK2.out; omega⟩, zd⟩
              ·
               rw [if_neg c14] at H
               have c14b0 : decide (65 ≤ (bt a0 x5_2)) = false := zR c14
               clear c14
               have H' := zM H
               clear H
               have p7 : 0 ≤ (x5_2 : Int) := zT zv
               have q7 : x5_2 < (a0.size : Int) := zT zv
               have hx7 := bt_at a0 x5_2
               replace p7 := eq_true p7
               replace q7 := eq_true q7
               go_wp2
               go_roundg k2
               case measure => have := HJ1.out; have := HK2.out; omega
               case rel => exact ⟨(true), (decide (x5_2 > 0)), (wrap64 (x5_2 + 1)), zy, zy, zy, H', ⟨by have := HJ1.out; have := HK2.out; omega⟩, zd⟩
             ·
              replace c13 := zI c13
              subst c13
              rw [if_neg (show ¬ (false = true) by decide)] at H
              have H' := zM H
              clear H
              have p7 : 0 ≤ (x5_2 : Int) := zT zv
              have q7 : x5_2 < (a0.size : Int) := zT zv
              have hx7 := bt_at a0 x5_2
              replace p7 := eq_true p7
              replace q7 := eq_true q7
              go_wp2
              go_roundg k2
              case measure => have := HJ1.out; have := HK2.out; omega
              case rel => exact ⟨(true), (false), (wrap64 (x5_2 + 1)), zy, zy, zy, H', ⟨by have := HJ1.out; have := HK2.out; omega⟩, zd⟩
            ·
             rw [if_neg c12] at H
             have c12b0 : decide ((bt a0 x5_2) ≤ 122) = false := zR c12
             clear c12
             by_cases c16 : x4_2 = true
             ·
              subst c16
              rw [if_pos rfl] at H
              by_cases c17 : (bt a0 x5_2) ≥ 65
              ·
               rw [if_pos c17] at H
               have c17b0 : decide (65 ≤ (bt a0 x5_2)) = true := zQ c17
               clear c17
               by_cases c18 : (bt a0 x5_2) ≤ 90
               ·
                rw [if_pos c18] at H
                have c18b0 : decide ((bt a0 x5_2) ≤ 90) = true := zQ c18
                clear c18
                have H' := zM H
                clear H
                have p7 : 0 ≤ (x5_2 : Int) := zT zv
                have q7 : x5_2 < (a0.size : Int) := zT zv
                have hx7 := bt_at a0 x5_2
                replace p7 := eq_true p7
                replace q7 := eq_true q7
                go_wp2
                go_roundg k2
                case measure => have := HJ1.out; have := HK2.out; omega
                case rel => exact ⟨(decide (x5_2 > 0)), (true), (wrap64 (x5_2 + 1)), zy, zy, zy, H', ⟨by have := HJ1.out; have := HK2.out; omega⟩, zd⟩
               ·
                rw [if_neg c18] at H
                have c18b0 : decide ((bt a0 x5_2) ≤ 90) = false := zR c18
                clear c18
                have H' := zM H
                clear H
                have p7 : 0 ≤ (x5_2 : Int) := zT zv
                have q7 : x5_2 < (a0.size : Int) := zT zv
                have hx7 := bt_at a0 x5_2
                replace p7 := eq_true p7
                replace q7 := eq_true q7
                go_wp2
                go_roundg k2
                case measure => have := HJ1.out; have := HK2.out; omega
                case rel => exact ⟨(decide (x5_2 > 0)), (decide (x5_2 > 0)), (wrap64 (x5_2 + 1)), zy, zy, zy, H', ⟨by have := HJ1.out; have := HK2.out; omega⟩, zd⟩
              ·
               rw [if_neg c17] at H
               have c17b0 : decide (65 ≤ (bt a0 x5_2)) = false := zR c17
               clear c17
               have H' := zM H
               clear H
               have p7 : 0 ≤ (x5_2 : Int) := zT zv
               have q7 : x5_2 < (a0.size : Int) := zT zv
               have hx7 := bt_at a0 x5_2
               replace p7 := eq_true p7
               replace q7 := eq_true q7
               go_wp2
               go_roundg k2
               case measure => have := HJ1.out; have := HK2.out; omega
               case rel => exact ⟨(decide (x5_2 > 0)), (decide (x5_2 > 0)), (wrap64 (x5_2 + 1)), zy, zy, zy, H', ⟨by have := HJ1.out; have := HK2.out; omega⟩, zd⟩
             ·
              replace c16 := zI c16
              subst c16
              rw [if_neg (show ¬ (false = true) by decide)] at H
              have H' := zM H
              clear H
              have p7 : 0 ≤ (x5_2 : Int) := zT zv
              have q7 : x5_2 < (a0.size : Int) := zT zv
              have hx7 := bt_at a0 x5_2
              replace p7 := eq_true p7
              replace q7 := eq_true q7
              go_wp2
              go_roundg k2
              case measure => have := HJ1.out; have := HK2.out; omega
              case rel => exact ⟨(decide (x5_2 > 0)), (false), (wrap64 (x5_2 + 1)), zy, zy, zy, H', ⟨by have := HJ1.out; have := HK2.out; omega⟩, zd⟩
           ·
            rw [if_neg c11] at H
            have c11b0 : decide (97 ≤ (bt a0 x5_2)) = false := zR c11
            clear c11
            by_cases c19 : x4_2 = true
            ·
             subst c19
             rw [if_pos rfl] at H
             by_cases c20 : (bt a0 x5_2) ≥ 65
             ·
              rw [if_pos c20] at H
              have c20b0 : decide (65 ≤ (bt a0 x5_2)) = true := zQ c20
              clear c20
              by_cases c21 : (bt a0 x5_2) ≤ 90
              ·
               rw [if_pos c21] at H
               have c21b0 : decide ((bt a0 x5_2) ≤ 90) = true := zQ c21
               clear c21
               have H' := zM H
               clear H
               have p7 : 0 ≤ (x5_2 : Int) := zT zv
               have q7 : x5_2 < (a0.size : Int) := zT zv
               have hx7 := bt_at a0 x5_2
               replace p7 := eq_true p7
               replace q7 := eq_true q7
               go_wp2
               go_roundg k2
               case measure => have := HJ1.out; have := HK2.out; omega
               case rel => exact ⟨(decide (x5_2 > 0)), (true), (wrap64 (x5_2 + 1)), zy, zy, zy, H', ⟨by have := HJ1.out; have := HK2.out; omega⟩, zd⟩
              ·
               rw [if_neg c21] at H
               have c21b0 : decide ((bt a0 x5_2) ≤ 90) = false := zR c21
               clear c21
               have H' := zM H
               clear H
               have p7 : 0 ≤ (x5_2 : Int) := zT zv
               have q7 : x5_2 < (a0.size : Int) := zT zv
               have hx7 := bt_at a0 x5_2
               replace p7 := eq_true p7
               replace q7 := eq_true q7
               go_wp2
               go_roundg k2
               case measure => have := HJ1.out; have := HK2.out; omega
               case rel => exact ⟨(decide (x5_2 > 0)), (decide (x5_2 > 0)), (wrap64 (x5_2 + 1)), zy, zy, zy, H', ⟨by have := HJ1.out; have := HK2.out; omega⟩, zd⟩
             ·
              rw [if_neg c20] at H
              have c20b0 : decide (65 ≤ (bt a0 x5_2)) = false := zR c20
              clear c20
              have H' := zM H
              clear H
              have p7 : 0 ≤ (x5_2 : Int) := zT zv
              have q7 : x5_2 < (a0.size : Int) := zT zv
              have hx7 := bt_at a0 x5_2
              replace p7 := eq_true p7
              replace q7 := eq_true q7
              go_wp2
              go_roundg k2
              case measure => have := HJ1.out; have := HK2.out; omega
              case rel => exact ⟨(decide (x5_2 > 0)), (decide (x5_2 > 0)), (wrap64 (x5_2 + 1)), zy, zy, zy, H', ⟨by have := HJ1.out; have := HK2.out; omega⟩, zd⟩
            ·
             replace c19 := zI c19
             subst c19
             rw [if_neg (show ¬ (false = true) by decide)] at H
             have H' := zM H
             clear H
             have p7 : 0 ≤ (x5_2 : Int) := zT zv
             have q7 : x5_2 < (a0.size : Int) := zT zv
             have hx7 := bt_at a0 x5_2
             replace p7 := eq_true p7
             replace q7 := eq_true q7
             go_wp2
             go_roundg k2
             case measure => have := HJ1.out; have := HK2.out; omega
             case rel => exact ⟨(decide (x5_2 > 0)), (false), (wrap64 (x5_2 + 1)), zy, zy, zy, H', ⟨by have := HJ1.out; have := HK2.out; omega⟩, zd⟩
          ·
           replace c10 := zI c10
           subst c10
           rw [if_neg (show ¬ (false = true) by decide)] at H
           by_cases c22 : x4_2 = true
           ·
            subst c22
            rw [if_pos rfl] at H
            by_cases c23 : (bt a0 x5_2) ≥ 65
            ·
             rw [if_pos c23] at H
             have c23b0 : decide (65 ≤ (bt a0 x5_2)) = true := zQ c23
             clear c23
             by_cases c24 : (bt a0 x5_2) ≤ 90
             ·
              rw [if_pos c24] at H
              have c24b0 : decide ((bt a0 x5_2) ≤ 90) = true := zQ c24
              clear c24
              have H' := zM H
              clear H
              have p7 : 0 ≤ (x5_2 : Int) := zT zv
              have q7 : x5_2 < (a0.size : Int) := zT zv
              have hx7 := bt_at a0 x5_2
              replace p7 := eq_true p7
              replace q7 := eq_true q7
              go_wp2
              go_roundg k2
              case measure => have := HJ1.out; have := HK2.out; omega
              case rel => exact ⟨(false), (true), (wrap64 (x5_2 + 1)), zy, zy, zy, H', ⟨by have := HJ1.out; have := HK2.out; omega⟩, zd⟩
             ·
              rw [if_neg c24] at H
              have c24b0 : decide ((bt a0 x5_2) ≤ 90) = false := zR c24
              clear c24
              have H' := zM H
              clear H
              have p7 : 0 ≤ (x5_2 : Int) := zT zv
              have q7 : x5_2 < (a0.size : Int) := zT zv
              have hx7 := bt_at a0 x5_2
              replace p7 := eq_true p7
              replace q7 := eq_true q7
              go_wp2
              go_roundg k2
              case measure => have := HJ1.out; have := HK2.out; omega
              case rel => exact ⟨(false), (decide (x5_2 > 0)), (wrap64 (x5_2 + 1)), zy, zy, zy, H', ⟨by have := HJ1.out; have := HK2.out; omega⟩, zd⟩
            ·
             rw [if_neg c23] at H
             have c23b0 : decide (65 ≤ (bt a0 x5_2)) = false := zR c23
             clear c23
             have H' := zM H
             clear H
             have p7 : 0 ≤ (x5_2 : Int) := zT zv
             have q7 : x5_2 < (a0.size : Int) := zT zv
             have hx7 := bt_at a0 x5_2
             replace p7 := eq_true p7
             replace q7 := eq_true q7
             go_wp2
             go_roundg k2
             case measure => have := HJ1.out; have := HK2.out; omega
             case rel => exact ⟨(false), (decide (x5_2 > 0)), (wrap64 (x5_2 + 1)), zy, zy, zy, H', ⟨by have := HJ1.out; have := HK2.out; omega⟩, zd⟩
           ·
            replace c22 := zI c22
            subst c22
            rw [if_neg (show ¬ (false = true) by decide)] at H
            have H' := zM H
            clear H
            have p7 : 0 ≤ (x5_2 : Int) := zT zv
            have q7 : x5_2 < (a0.size : Int) := zT zv
            have hx7 := bt_at a0 x5_2
            replace p7 := eq_true p7
            replace q7 := eq_true q7
            go_wp2
            go_roundg k2
            case measure => have := HJ1.out; have := HK2.out; omega
            case rel => exact ⟨(false), (false), (wrap64 (x5_2 + 1)), zy, zy, zy, H', ⟨by have := HJ1.out; have := HK2.out; omega⟩, zd⟩
         ·
          rw [if_neg c9] at H
          have c9b0 : decide ((bt a0 x5_2) ≤ 57) = false := zR c9
          clear c9
          by_cases c25 : x3_2 = true
          ·
           subst c25
           rw [if_pos rfl] at H
           by_cases c26 : (bt a0 x5_2) ≥ 97
           ·
            rw [if_pos c26] at H
            have c26b0 : decide (97 ≤ (bt a0 x5_2)) = true := zQ c26
            clear c26
            by_cases c27 : (bt a0 x5_2) ≤ 122
            ·
             rw [if_pos c27] at H
             have c27b0 : decide ((bt a0 x5_2) ≤ 122) = true := zQ c27
             clear c27
             by_cases c28 : x4_2 = true
             ·
              subst c28
              rw [if_pos rfl] at H
              by_cases c29 : (bt a0 x5_2) ≥ 65
              ·
               rw [if_pos c29] at H
               have c29b0 : decide (65 ≤ (bt a0 x5_2)) = true := zQ c29
               clear c29
               by_cases c30 : (bt a0 x5_2) ≤ 90
               ·
                rw [if_pos c30] at H
                have c30b0 : decide ((bt a0 x5_2) ≤ 90) = true := zQ c30
                clear c30
                have H' := zM H
                clear H
                have p7 : 0 ≤ (x5_2 : Int) := zT zv
                have q7 : x5_2 < (a0.size : Int) := zT zv
                have hx7 := bt_at a0 x5_2
                replace p7 := eq_true p7
                replace q7 := eq_true q7
                go_wp2
                go_roundg k2
                case measure => have := HJ1.out; have := HK2.out; omega
                case rel => exact ⟨(true), (true), (wrap64 (x5_2 + 1)), zy, zy, zy, H', ⟨by have := HJ1.out; have := HK2.out; omega⟩, zd⟩
               ·
                rw [if_neg c30] at H
                have c30b0 : decide ((bt a0 x5_2) ≤ 90) = false := zR c30
                clear c30
                have H' := zM H
                clear H
                have p7 : 0 ≤ (x5_2 : Int) := zT zv
                have q7 : x5_2 < (a0.size : Int) := zT zv
                have hx7 := bt_at a0 x5_2
                replace p7 := eq_true p7
                replace q7 := eq_true q7
                go_wp2
                go_roundg k2
                case measure => have := HJ1.out; have := HK2.out; omega
                case rel => exact ⟨(true), (false), (wrap64 (x5_2 + 1)), zy, zy, zy, H', ⟨by have := HJ1.out; have := HK2.out; omega⟩, zd⟩
              ·
               rw [if_neg c29] at H
               have c29b0 : decide (65 ≤ (bt a0 x5_2)) = false := zR c29
               clear c29
               have H' := zM H
               clear H
               have p7 : 0 ≤ (x5_2 : Int) := zT zv
               have q7 : x5_2 < (a0.size : Int) := zT zv
               have hx7 := bt_at a0 x5_2
               replace p7 := eq_true p7
               replace q7 := eq_true q7
               go_wp2
               go_roundg k2
               case measure => have := HJ1.out; have := HK2.out; omega
               case rel => exact ⟨(true), (false), (wrap64 (x5_2 + 1)), zy, zy, zy, H', ⟨by have := HJ1.out; have := HK2.out; omega⟩, zd⟩
             ·
              replace c28 := zI c28
              subst c28
              rw [if_neg (show ¬ (false = true) by decide)] at H
              have H' := zM H
              clear H
              have p7 : 0 ≤ (x5_2 : Int) := zT zv
              have q7 : x5_2 < (a0.size : Int) := zT zv
              have hx7 := bt_at a0 x5_2
              replace p7 := eq_true p7
              replace q7 := eq_true q7
              go_wp2
              go_roundg k2
              case measure => have := HJ1.out; have := HK2.out; omega
              case rel => exact ⟨(true), (false), (wrap64 (x5_2 + 1)), zy, zy, zy, H', ⟨by have := HJ1.out; have := HK2.out; omega⟩, zd⟩
            ·
             rw [if_neg c27] at H
             have c27b0 : decide ((bt a0 x5_2) ≤ 122) = false := zR c27
             clear c27
             by_cases c31 : x4_2 = true
             ·
              subst c31
              rw [if_pos rfl] at H
              by_cases c32 : (bt a0 x5_2) ≥ 65
              ·
               rw [if_pos c32] at H
               have c32b0 : decide (65 ≤ (bt a0 x5_2)) = true := zQ c32
               clear c32
               by_cases c33 : (bt a0 x5_2) ≤ 90
               ·
                rw [if_pos c33] at H
                have c33b0 : decide ((bt a0 x5_2) ≤ 90) = true := zQ c33
                clear c33
                have H' := zM H
                clear H
                have p7 : 0 ≤ (x5_2 : Int) := zT zv
                have q7 : x5_2 < (a0.size : Int) := zT zv
                have hx7 := bt_at a0 x5_2
                replace p7 := eq_true p7
                replace q7 := eq_true q7
                go_wp2
                go_roundg k2
                case measure => have := HJ1.out; have := HK2.out; omega
                case rel => exact ⟨(false), (true), (wrap64 (x5_2 + 1)), zy, zy, zy, H', ⟨by have := HJ1.out; have := HK2.out; omega⟩, zd⟩
               ·
                rw [if_neg c33] at H
                have c33b0 : decide ((bt a0 x5_2) ≤ 90) = false := zR c33
                clear c33
                have H' := zM H
                clear H
                have p7 : 0 ≤ (x5_2 : Int) := zT zv
                have q7 : x5_2 < (a0.size : Int) := zT zv
                have hx7 := bt_at a0 x5_2
                replace p7 := eq_true p7
                replace q7 := eq_true q7
                go_wp2
                go_roundg k2
                case measure => have := HJ1.out; have := HK2.out; omega
                case rel => exact ⟨(false), (false), (wrap64 (x5_2 + 1)), zy, zy, zy, H', ⟨by have := HJ1.out; have := HK2.out; omega⟩, zd⟩
              ·
               rw [if_neg c32] at H
               have c32b0 : decide (65 ≤ (bt a0 x5_2)) = false := zR c32
               clear c32
               have H' := zM H
               clear H
               have p7 : 0 ≤ (x5_2 : Int) := zT zv
               have q7 : x5_2 < (a0.size : Int) := zT zv
               have hx7 := bt_at a0 x5_2
               replace p7 := eq_true p7
               replace q7 := eq_true q7
               go_wp2
               go_roundg k2
               case measure => have := HJ1.out; have := HK2.out; omega
               case rel => exact ⟨(false), (false), (wrap64 (x5_2 + 1)), zy, zy, zy, H', ⟨by have := HJ1.out; have := HK2.out; omega⟩, zd⟩
             ·
              replace c31 := zI c31
              subst c31
              rw [if_neg (show ¬ (false = true) by decide)] at H
              have H' := zM H
              clear H
              have p7 : 0 ≤ (x5_2 : Int) := zT zv
              have q7 : x5_2 < (a0.size : Int) := zT zv
              have hx7 := bt_at a0 x5_2
              replace p7 := eq_true p7
              replace q7 := eq_true q7
              go_wp2
              go_roundg k2
              case measure => have := HJ1.out; have := HK2.out; omega
              case rel => exact ⟨(false), (false), (wrap64 (x5_2 + 1)), zy, zy, zy, H', ⟨by have := HJ1.out; have := HK2.out; omega⟩, zd⟩
           ·
            rw [if_neg c26] at H
            have c26b0 : decide (97 ≤ (bt a0 x5_2)) = false := zR c26
            clear c26
            by_cases c34 : x4_2 = true
            ·
             subst c34
             rw [if_pos rfl] at H
             by_cases c35 : (bt a0 x5_2) ≥ 65
             ·
              rw [if_pos c35] at H
              have c35b0 : decide (65 ≤ (bt a0 x5_2)) = true := zQ c35
              clear c35
              by_cases c36 : (bt a0 x5_2) ≤ 90
              ·
               rw [if_pos c36] at H
               have c36b0 : decide ((bt a0 x5_2) ≤ 90) = true := zQ c36
               clear c36
               have H' := zM H
               clear H
               have p7 : 0 ≤ (x5_2 : Int) := zT zv
               have q7 : x5_2 < (a0.size : Int) := zT zv
               have hx7 := bt_at a0 x5_2
               replace p7 := eq_true p7
               replace q7 := eq_true q7
               go_wp2
               go_roundg k2
               case measure => have := HJ1.out; have := HK2.out; omega
               case rel => exact ⟨(false), (true), (wrap64 (x5_2 + 1)), zy, zy, zy, H', ⟨by have := HJ1.out; have := HK2.out; omega⟩, zd⟩
              ·
               rw [if_neg c36] at H
               have c36b0 : decide ((bt a0 x5_2) ≤ 90) = false := zR c36
               clear c36
               have H' := zM H
               clear H
               have p7 : 0 ≤ (x5_2 : Int) := zT zv
               have q7 : x5_2 < (a0.size : Int) := zT zv
               have hx7 := bt_at a0 x5_2
               replace p7 := eq_true p7
               replace q7 := eq_true q7
               go_wp2
               go_roundg k2
               case measure => have := HJ1.out; have := HK2.out; omega
               case rel => exact ⟨(false), (false), (wrap64 (x5_2 + 1)), zy, zy, zy, H', ⟨by have := HJ1.out; have := HK2.out; omega⟩, zd⟩
             ·
              rw [if_neg c35] at H
              have c35b0 : decide (65 ≤ (bt a0 x5_2)) = false := zR c35
              clear c35
              have H' := zM H
              clear H
              have p7 : 0 ≤ (x5_2 : Int) := zT zv
              have q7 : x5_2 < (a0.size : Int) := zT zv
              have hx7 := bt_at a0 x5_2
              replace p7 := eq_true p7
              replace q7 := eq_true q7
              go_wp2
              go_roundg k2
              case measure => have := HJ1.out; have := HK2.out; omega
              case rel => exact ⟨(false), (false), (wrap64 (x5_2 + 1)), zy, zy, zy, H', ⟨by have := HJ1.out; have := HK2.out; omega⟩, zd⟩
            ·
             replace c34 := zI c34
             subst c34
             rw [if_neg (show ¬ (false = true) by decide)] at H
             have H' := zM H
             clear H
             have p7 : 0 ≤ (x5_2 : Int) := zT zv
             have q7 : x5_2 < (a0.size : Int) := zT zv
             have hx7 := bt_at a0 x5_2
             replace p7 := eq_true p7
             replace q7 := eq_true q7
             go_wp2
             go_roundg k2
             case measure => have := HJ1.out; have := HK2.out; omega
             case rel => exact ⟨(false), (false), (wrap64 (x5_2 + 1)), zy, zy, zy, H', ⟨by have := HJ1.out; have := HK2.out; omega⟩, zd⟩
          ·
           replace c25 := zI c25
           subst c25
           rw [if_neg (show ¬ (false = true) by decide)] at H
           by_cases c37 : x4_2 = true
           ·
            subst c37
            rw [if_pos rfl] at H
            by_cases c38 : (bt a0 x5_2) ≥ 65
            ·
             rw [if_pos c38] at H
             have c38b0 : decide (65 ≤ (bt a0 x5_2)) = true := zQ c38
             clear c38
             by_cases c39 : (bt a0 x5_2) ≤ 90
             ·
              rw [if_pos c39] at H
              have c39b0 : decide ((bt a0 x5_2) ≤ 90) = true := zQ c39
              clear c39
              have H' := zM H
              clear H
              have p7 : 0 ≤ (x5_2 : Int) := zT zv
              have q7 : x5_2 < (a0.size : Int) := zT zv
              have hx7 := bt_at a0 x5_2
              replace p7 := eq_true p7
              replace q7 := eq_true q7
              go_wp2
              go_roundg k2
              case measure => have := HJ1.out; have := HK2.out; omega
              case rel => exact ⟨(false), (true), (wrap64 (x5_2 + 1)), zy, zy, zy, H', ⟨by have := HJ1.out; have := HK2.out; omega⟩, zd⟩
             ·
              rw [if_neg c39] at H
              have c39b0 : decide ((bt a0 x5_2) ≤ 90) = false := zR c39
              clear c39
              have H' := zM H
              clear H
              have p7 : 0 ≤ (x5_2 : Int) := zT zv
              have q7 : x5_2 < (a0.size : Int) := zT zv
              have hx7 := bt_at a0 x5_2
              replace p7 := eq_true p7
              replace q7 := eq_true q7
              go_wp2
              go_roundg k2
              case measure => have := HJ1.out; have := HK2.out; omega
              case rel => exact ⟨(false), (false), (wrap64 (x5_2 + 1)), zy, zy, zy, H', ⟨by have := HJ1.out; have := HK2.out; omega⟩, zd⟩
            ·
             rw [if_neg c38] at H
             have c38b0 : decide (65 ≤ (bt a0 x5_2)) = false := zR c38
             clear c38
             have H' := zM H
             clear H
             have p7 : 0 ≤ (x5_2 : Int) := zT zv
             have q7 : x5_2 < (a0.size : Int) := zT zv
             have hx7 := bt_at a0 x5_2
             replace p7 := eq_true p7
             replace q7 := eq_true q7
             go_wp2
             go_roundg k2
             case measure => have := HJ1.out; have := HK2.out; omega
             case rel => exact ⟨(false), (false), (wrap64 (x5_2 + 1)), zy, zy, zy, H', ⟨by have := HJ1.out; have := HK2.out; omega⟩, zd⟩
           ·
            replace c37 := zI c37
            subst c37
            rw [if_neg (show ¬ (false = true) by decide)] at H
            have H' := zM H
            clear H
            have p7 : 0 ≤ (x5_2 : Int) := zT zv
            have q7 : x5_2 < (a0.size : Int) := zT zv
            have hx7 := bt_at a0 x5_2
            replace p7 := eq_true p7
            replace q7 := eq_true q7
            go_wp2
            go_roundg k2
            case measure => have := HJ1.out; have := HK2.out; omega
            case rel => exact ⟨(false), (false), (wrap64 (x5_2 + 1)), zy, zy, zy, H', ⟨by have := HJ1.out; have := HK2.out; omega⟩, zd⟩
        ·
         rw [if_neg c8] at H
         have c8b0 : decide (48 ≤ (bt a0 x5_2)) = false := zR c8
         clear c8
         by_cases c40 : x3_2 = true
         ·
          subst c40
          rw [if_pos rfl] at H
          by_cases c41 : (bt a0 x5_2) ≥ 97
          ·
           rw [if_pos c41] at H
           have c41b0 : decide (97 ≤ (bt a0 x5_2)) = true := zQ c41
           clear c41
           by_cases c42 : (bt a0 x5_2) ≤ 122
           ·
            rw [if_pos c42] at H
            have c42b0 : decide ((bt a0 x5_2) ≤ 122) = true := zQ c42
            clear c42
            by_cases c43 : x4_2 = true
            ·
             subst c43
             rw [if_pos rfl] at H
             by_cases c44 : (bt a0 x5_2) ≥ 65
             ·
              rw [if_pos c44] at H
              have c44b0 : decide (65 ≤ (bt a0 x5_2)) = true := zQ c44
              clear c44
              by_cases c45 : (bt a0 x5_2) ≤ 90
              ·
               rw [if_pos c45] at H
               have c45b0 : decide ((bt a0 x5_2) ≤ 90) = true := zQ c45
               clear c45
               have H' := zM H
               clear H
               have p7 : 0 ≤ (x5_2 : Int) := zT zv
               have q7 : x5_2 < (a0.size : Int) := zT zv
               have hx7 := bt_at a0 x5_2
               replace p7 := eq_true p7
               replace q7 := eq_true q7
               go_wp2
               go_roundg k2
               case measure => have := HJ1.out; have := HK2.out; omega
               case rel => exact ⟨(true), (true), (wrap64 (x5_2 + 1)), zy, zy, zy, H', ⟨by have := HJ1.out; have := HK2.out; omega⟩, zd⟩
              ·
               rw [if_neg c45] at H
               have c45b0 : decide ((bt a0 x5_2) ≤ 90) = false := zR c45
               clear c45
               have H' := zM H
               clear H
               have p7 : 0 ≤ (x5_2 : Int) := zT zv
               have q7 : x5_2 < (a0.size : Int) := zT zv
               have hx7 := bt_at a0 x5_2
               replace p7 := eq_true p7
               replace q7 := eq_true q7
               go_wp2
               go_roundg k2
               case measure => have := HJ1.out; have := HK2.out; omega
               case rel => exact ⟨(true), (false), (wrap64 (x5_2 + 1)), zy, zy, zy, H', ⟨by have := HJ1.out; have := HK2.out; omega⟩, zd⟩
             ·
              rw [if_neg c44] at H
              have c44b0 : decide (65 ≤ (bt a0 x5_2)) = false := zR c44
              clear c44
              have H' := zM H
              clear H
              have p7 : 0 ≤ (x5_2 : Int) := zT zv
              have q7 : x5_2 < (a0.size : Int) := zT zv
              have hx7 := bt_at a0 x5_2
              replace p7 := eq_true p7
              replace q7 := eq_true q7
              go_wp2
              go_roundg k2
              case measure => have := HJ1.out; have := HK2.out; omega
              case rel => exact ⟨(true), (false), (wrap64 (x5_2 + 1)), zy, zy, zy, H', ⟨by have := HJ1.out; have := HK2.out; omega⟩, zd⟩
            ·
             replace c43 := zI c43
             subst c43
             rw [if_neg (show ¬ (false = true) by decide)] at H
             have H' := zM H
             clear H
             have p7 : 0 ≤ (x5_2 : Int) := zT zv
             have q7 : x5_2 < (a0.size : Int) := zT zv
             have hx7 := bt_at a0 x5_2
             replace p7 := eq_true p7
             replace q7 := eq_true q7
             go_wp2
             go_roundg k2
             case measure => have := HJ1.out; have := HK2.out; omega
             case rel => exact ⟨(true), (false), (wrap64 (x5_2 + 1)), zy, zy, zy, H', ⟨by have := HJ1.out; have := HK2.out; omega⟩, zd⟩
           ·
            rw [if_neg c42] at H
            have c42b0 : decide ((bt a0 x5_2) ≤ 122) = false := zR c42
            clear c42
            by_cases c46 : x4_2 = true
            ·
             subst c46
             rw [if_pos rfl] at H
             by_cases c47 : (bt a0 x5_2) ≥ 65
             ·
              rw [if_pos c47] at H
              have c47b0 : decide (65 ≤ (bt a0 x5_2)) = true := zQ c47
              clear c47
              by_cases c48 : (bt a0 x5_2) ≤ 90
              ·
               rw [if_pos c48] at H
               have c48b0 : decide ((bt a0 x5_2) ≤ 90) = true := zQ c48
               clear c48
               have H' := zM H
               clear H
               have p7 : 0 ≤ (x5_2 : Int) := zT zv
               have q7 : x5_2 < (a0.size : Int) := zT zv
               have hx7 := bt_at a0 x5_2
               replace p7 := eq_true p7
               replace q7 := eq_true q7
               go_wp2
               go_roundg k2
               case measure => have := HJ1.out; have := HK2.out; omega
               case rel => exact ⟨(false), (true), (wrap64 (x5_2 + 1)), zy, zy, zy, H', ⟨by have := HJ1.out; have := HK2.out; omega⟩, zd⟩
              ·
               rw [if_neg c48] at H
               have c48b0 : decide ((bt a0 x5_2) ≤ 90) = false := zR c48
               clear c48
               have H' := zM H
               clear H
               have p7 : 0 ≤ (x5_2 : Int) := zT zv
               have q7 : x5_2 < (a0.size : Int) := zT zv
               have hx7 := bt_at a0 x5_2
               replace p7 := eq_true p7
               replace q7 := eq_true q7
               go_wp2
               go_roundg k2
               case measure => have := HJ1.out; have := HK2.out; omega
               case rel => exact ⟨(false), (false), (wrap64 (x5_2 + 1)), zy, zy, zy, H', ⟨by have := HJ1.out; have := HK2.out; omega⟩, zd⟩
             ·
              rw [if_neg c47] at H
              have c47b0 : decide (65 ≤ (bt a0 x5_2)) = false := zR c47
              clear c47
              have H' := zM H
              clear H
              have p7 : 0 ≤ (x5_2 : Int) := zT zv
              have q7 : x5_2 < (a0.size : Int) := zT zv
              have hx7 := bt_at a0 x5_2
              replace p7 := eq_true p7
              replace q7 := eq_true q7
              go_wp2
              go_roundg k2
              case measure => have := HJ1.out; have := HK2.out; omega
              case rel => exact ⟨(false), (false), (wrap64 (x5_2 + 1)), zy, zy, zy, H', ⟨by have := HJ1.out; have := HK2.out; omega⟩, zd⟩
            ·
             replace c46 := zI c46
             subst c46
             rw [if_neg (show ¬ (false = true) by decide)] at H
             have H' := zM H
             clear H
             have p7 : 0 ≤ (x5_2 : Int) := zT zv
             have q7 : x5_2 < (a0.size : Int) := zT zv
             have hx7 := bt_at a0 x5_2
             replace p7 := eq_true p7
             replace q7 := eq_true q7
             go_wp2
             go_roundg k2
             case measure => have := HJ1.out; have := HK2.out; omega
             case rel => exact ⟨(false), (false), (wrap64 (x5_2 + 1)), zy, zy, zy, H', ⟨by have := HJ1.out; have := HK2.out; omega⟩, zd⟩
          ·
           rw [if_neg c41] at H
           have c41b0 : decide (97 ≤ (bt a0 x5_2)) = false := zR c41
           clear c41
           by_cases c49 : x4_2 = true
           ·
            subst c49
            rw [if_pos rfl] at H
            by_cases c50 : (bt a0 x5_2) ≥ 65
            ·
             rw [if_pos c50] at H
             have c50b0 : decide (65 ≤ (bt a0 x5_2)) = true := zQ c50
             clear c50
             by_cases c51 : (bt a0 x5_2) ≤ 90
             ·
              rw [if_pos c51] at H
              have c51b0 : decide ((bt a0 x5_2) ≤ 90) = true := zQ c51
              clear c51
              have H' := zM H
              clear H
              have p7 : 0 ≤ (x5_2 : Int) := zT zv
              have q7 : x5_2 < (a0.size : Int) := zT zv
              have hx7 := bt_at a0 x5_2
              replace p7 := eq_true p7
              replace q7 := eq_true q7
              go_wp2
              go_roundg k2
              case measure => have := HJ1.out; have := HK2.out; omega
              case rel => exact ⟨(false), (true), (wrap64 (x5_2 + 1)), zy, zy, zy, H', ⟨by have := HJ1.out; have := HK2.out; omega⟩, zd⟩
             ·
              rw [if_neg c51] at H
              have c51b0 : decide ((bt a0 x5_2) ≤ 90) = false := zR c51
              clear c51
              have H' := zM H
              clear H
              have p7 : 0 ≤ (x5_2 : Int) := zT zv
              have q7 : x5_2 < (a0.size : Int) := zT zv
              have hx7 := bt_at a0 x5_2
              replace p7 := eq_true p7
              replace q7 := eq_true q7
              go_wp2
              go_roundg k2
              case measure => have := HJ1.out; have := HK2.out; omega
              case rel => exact ⟨(false), (false), (wrap64 (x5_2 + 1)), zy, zy, zy, H', ⟨by have := HJ1.out; have := HK2.out; omega⟩, zd⟩
            ·
             rw [if_neg c50] at H
             have c50b0 : decide (65 ≤ (bt a0 x5_2)) = false := zR c50
             clear c50
             have H' := zM H
             clear H
             have p7 : 0 ≤ (x5_2 : Int) := zT zv
             have q7 : x5_2 < (a0.size : Int) := zT zv
             have hx7 := bt_at a0 x5_2
             replace p7 := eq_true p7
             replace q7 := eq_true q7
             go_wp2
             go_roundg k2
             case measure => have := HJ1.out; have := HK2.out; omega
             case rel => exact ⟨(false), (false), (wrap64 (x5_2 + 1)), zy, zy, zy, H', ⟨by have := HJ1.out; have := HK2.out; omega⟩, zd⟩
           ·
            replace c49 := zI c49
            subst c49
            rw [if_neg (show ¬ (false = true) by decide)] at H
            have H' := zM H
            clear H
            have p7 : 0 ≤ (x5_2 : Int) := zT zv
            have q7 : x5_2 < (a0.size : Int) := zT zv
            have hx7 := bt_at a0 x5_2
            replace p7 := eq_true p7
            replace q7 := eq_true q7
            go_wp2
            go_roundg k2
            case measure => have := HJ1.out; have := HK2.out; omega
            case rel => exact ⟨(false), (false), (wrap64 (x5_2 + 1)), zy, zy, zy, H', ⟨by have := HJ1.out; have := HK2.out; omega⟩, zd⟩
         ·
          replace c40 := zI c40
          subst c40
          rw [if_neg (show ¬ (false = true) by decide)] at H
          by_cases c52 : x4_2 = true
          ·
           subst c52
           rw [if_pos rfl] at H
           by_cases c53 : (bt a0 x5_2) ≥ 65
           ·
            rw [if_pos c53] at H
            have c53b0 : decide (65 ≤ (bt a0 x5_2)) = true := zQ c53
            clear c53
            by_cases c54 : (bt a0 x5_2) ≤ 90
            ·
             rw [if_pos c54] at H
             have c54b0 : decide ((bt a0 x5_2) ≤ 90) = true := zQ c54
             clear c54
             have H' := zM H
             clear H
             have p7 : 0 ≤ (x5_2 : Int) := zT zv
             have q7 : x5_2 < (a0.size : Int) := zT zv
             have hx7 := bt_at a0 x5_2
             replace p7 := eq_true p7
             replace q7 := eq_true q7
             go_wp2
             go_roundg k2
             case measure => have := HJ1.out; have := HK2.out; omega
             case rel => exact ⟨(false), (true), (wrap64 (x5_2 + 1)), zy, zy, zy, H', ⟨by have := HJ1.out; have := HK2.out; omega⟩, zd⟩
            ·
             rw [if_neg c54] at H
             have c54b0 : decide ((bt a0 x5_2) ≤ 90) = false := zR c54
             clear c54
             have H' := zM H
             clear H
             have p7 : 0 ≤ (x5_2 : Int) := zT zv
             have q7 : x5_2 < (a0.size : Int) := zT zv
             have hx7 := bt_at a0 x5_2
             replace p7 := eq_true p7
             replace q7 := eq_true q7
             go_wp2
             go_roundg k2
             case measure => have := HJ1.out; have := HK2.out; omega
             case rel => exact ⟨(false), (false), (wrap64 (x5_2 + 1)), zy, zy, zy, H', ⟨by have := HJ1.out; have := HK2.out; omega⟩, zd⟩
           ·
            rw [if_neg c53] at H
            have c53b0 : decide (65 ≤ (bt a0 x5_2)) = false := zR c53
            clear c53
            have H' := zM H
            clear H
            have p7 : 0 ≤ (x5_2 : Int) := zT zv
            have q7 : x5_2 < (a0.size : Int) := zT zv
            have hx7 := bt_at a0 x5_2
            replace p7 := eq_true p7
            replace q7 := eq_true q7
            go_wp2
            go_roundg k2
            case measure => have := HJ1.out; have := HK2.out; omega
            case rel => exact ⟨(false), (false), (wrap64 (x5_2 + 1)), zy, zy, zy, H', ⟨by have := HJ1.out; have := HK2.out; omega⟩, zd⟩
          ·
           replace c52 := zI c52
           subst c52
           rw [if_neg (show ¬ (false = true) by decide)] at H
           have H' := zM H
           clear H
           have p7 : 0 ≤ (x5_2 : Int) := zT zv
           have q7 : x5_2 < (a0.size : Int) := zT zv
           have hx7 := bt_at a0 x5_2
           replace p7 := eq_true p7
           replace q7 := eq_true q7
           go_wp2
           go_roundg k2
           case measure => have := HJ1.out; have := HK2.out; omega
           case rel => exact ⟨(false), (false), (wrap64 (x5_2 + 1)), zy, zy, zy, H', ⟨by have := HJ1.out; have := HK2.out; omega⟩, zd⟩
       ·
        rw [if_neg c6] at H
        exact absurd H (by simp)
      ·
       rw [if_neg c5] at H
       have c5b0 : decide (x5_2 < (a0.size : Int)) = false := zR c5
       clear c5
       by_cases c55 : x3_2 = true
       ·
        subst c55
        rw [if_pos rfl] at H
        obtain rfl := zS H
        go_wp2
        go_ret
        exact ⟨zy, zd⟩
       ·
        replace c55 := zI c55
        subst c55
        rw [if_neg (show ¬ (false = true) by decide)] at H
        by_cases c56 : x4_2 = true
        ·
         subst c56
         rw [if_pos rfl] at H
         obtain rfl := zS H
         go_wp2
         go_ret
         exact ⟨zy, zd⟩
        ·
         replace c56 := zI c56
         subst c56
         rw [if_neg (show ¬ (false = true) by decide)] at H
         obtain rfl := zS H
         go_wp2
         go_ret
         exact ⟨zy, zd⟩


-- ==== PF65

/-! ### aumbryref04_Behind: function 65 -/
mutual
def aumbryref04_Behind.j0 : Nat → List (S54) → Int → Bool → Option (Int)
 | 0, _, _, _ => none
 | k + 1, x0, x1, x14 => if x14 = true then (some (-1)) else (if 0 ≤ x1 then (if x1 < (x0.length : Int) then (aumbryref04_Behind.l0 k x0 (wrap64 (x1 + 1)) ((rd_T54 x0 x1).f1) 0) else (none)) else (none))
def aumbryref04_Behind.l0 : Nat → List (S54) → Int → Int → Int → Option (Int)
 | 0, _, _, _, _ => none
 | k + 1, x0, x1, x5, x6 => if x6 < x5 then (if x1 ≥ 0 then ((aumbryref04_Behind.f k x0 x1).bind fun t102 => (aumbryref04_Behind.l0 k x0 t102 x5 (wrap64 (x6 + 1)))) else (some x1)) else (some x1)
def aumbryref04_Behind.f : Nat → List (S54) → Int → Option (Int)
 | 0, _, _ => none
 | k + 1, l0, a1 => if a1 < 0 then (aumbryref04_Behind.j0 k l0 a1 true) else (aumbryref04_Behind.j0 k l0 a1 (decide (a1 ≥ (l0.length : Int))))
end
theorem aumbryref04_Behind.calls (k : Nat) : ∀ (A0 : Option Addr) (c0 : Nat) (l0 : List (S54)) (a1 : Int) (r : Int) (w : World) (hr0 : Kd.C k54 w A0 l0.length l0) (hc0 : l0.length ≤ c0) (h : aumbryref04_Behind.f k l0 a1 = some r),
 Calls Try.prog 65 #[.slice A0 l0.length c0, .int .i64 a1] w fun e w' => e = .returned (.int .i64 r) ∧ Drawn0 w w' := by
 induction k using Nat.strongRecOn with
 | _ k ih =>
 intro A0 c0 l0 a1 r w hr0 hc0 h
 cases k with
 | zero => exact absurd h (by simp [aumbryref04_Behind.f])
 | succ k =>
 simp only [aumbryref04_Behind.f] at h
 have HR0 := zM hr0
 have HC0 := zM hc0
 clear hr0 hc0
 have H : (if a1 < 0 then (aumbryref04_Behind.j0 k l0 a1 true) else (aumbryref04_Behind.j0 k l0 a1 (decide (a1 ≥ (l0.length : Int))))) = some r := h
 clear h
 have HC3 := zM H
 clear H
 go_enter Try.func65, Try.ntmps65
 go_upto_region 1 with (fail)
 go_cut [14] (fun v14 wc => ∃ (kq : Nat) (x14_2 : Bool), v14 = .bool x14_2 ∧ Aside0 (aumbryref04_Behind.j0 kq l0 a1 x14_2 = some r) ∧ Aside0 (kq ≤ k) ∧ Drawn0 w wc)
 case first =>
  have H := HC3.out
  clear HC3
  by_cases c4 : a1 < 0
  ·
   rw [if_pos c4] at H
   have c4b0 : decide (a1 < 0) = true := zQ c4
   clear c4
   (first | rw [c4b0] | (simp only [i64_w, i32_w]; rw [c4b0]) | skip)
   have H' := zM H
   clear H
   go_wp2
   go_meet
   case rel => exact ⟨_, (true), zy, H', ⟨by first | omega | exact Nat.le_refl _⟩, zd⟩
  ·
   rw [if_neg c4] at H
   have c4b0 : decide (a1 < 0) = false := zR c4
   clear c4
   (first | rw [c4b0] | (simp only [i64_w, i32_w]; rw [c4b0]) | skip)
   have H' := zM H
   clear H
   go_wp2
   go_meet
   case rel => exact ⟨_, (decide (a1 ≥ (l0.length : Int))), zy, H', ⟨by first | omega | exact Nat.le_refl _⟩, zd⟩
 case rest =>
  clear HC3
  try clear p2
  try clear c4
  try clear c4b0
  obtain ⟨kq, x14_2, rfl, HA, HJ2, ⟨mc2, rfl⟩⟩ := hcut
  cases kq with
  | zero => exact absurd HA.out (by simp [aumbryref04_Behind.j0])
  | succ kj2 =>
   have H := HA.out
   clear HA
   simp only [aumbryref04_Behind.j0] at H
   by_cases c5 : x14_2 = true
   ·
    subst c5
    rw [if_pos rfl] at H
    obtain rfl := zS H
    go_wp2
    go_ret
    exact ⟨zy, zd⟩
   ·
    replace c5 := zI c5
    subst c5
    rw [if_neg (show ¬ (false = true) by decide)] at H
    by_cases c6 : 0 ≤ a1
    ·
     rw [if_pos c6] at H
     have c6b0 : decide (0 ≤ a1) = true := zQ c6
     clear c6
     by_cases c7 : a1 < (l0.length : Int)
     ·
      rw [if_pos c7] at H
      have c7b0 : decide (a1 < (l0.length : Int)) = true := zQ c7
      clear c7
      have H' := zM H
      clear H
      have p101 : 0 ≤ (a1 : Int) := zT zv
      have q101 : a1 < (l0.length : Int) := zT zv
      obtain ⟨ad101, e101, hx101_0, hx101_1⟩ := at_T54 HR0.out a1 p101 q101
      cases e101
      replace p101 := eq_true p101
      replace q101 := eq_true q101
      go_wp2
      go_loopg [1, 6] kj2 (fun kq v1 v6 w' => ∃ (x1_2 : Int) (x6_2 : Int), v1 = .int .i64 x1_2 ∧ v6 = .int .i64 x6_2 ∧ Aside0 (aumbryref04_Behind.l0 kq l0 x1_2 ((rd_T54 l0 a1).f1) x6_2 = some r) ∧ Aside0 (kq ≤ kj2) ∧ Drawn0 w w')
      case atStart => exact ⟨(wrap64 (a1 + 1)), (0), zy, zy, H', ⟨Nat.le_refl _⟩, zd⟩
      case round =>
       clear H'
       try clear p1
       try clear q1
       try clear hx1
       try clear c2
       try clear p2
       try clear c4
       try clear c4b0
       try clear c5
       try clear c6
       try clear c6b0
       try clear p6
       try clear c7
       try clear c7b0
       try clear hx101_0
       try clear hx101_1
       try clear p101
       try clear p2
       try clear q101
       obtain ⟨x1_2, x6_2, rfl, rfl, HA, HK2, ⟨m2, rfl⟩⟩ := hrel
       cases gk with
       | zero => exact absurd HA.out (by simp [aumbryref04_Behind.l0])
       | succ k2 =>
        have H := HA.out
        clear HA
        simp only [aumbryref04_Behind.l0] at H
        by_cases c8 : x6_2 < ((rd_T54 l0 a1).f1)
        ·
         rw [if_pos c8] at H
         have c8b0 : decide (x6_2 < ((rd_T54 l0 a1).f1)) = true := zQ c8
         clear c8
         by_cases c9 : x1_2 ≥ 0
         ·
          rw [if_pos c9] at H
          have c9b0 : decide (0 ≤ x1_2) = true := zQ c9
          clear c9
          replace H := zB H
          obtain ⟨t102, A100, H⟩ := H
          try dsimp only at H
          have A10 := zM A100
          clear A100
          have H' := zM H
          clear H
          go_wp2_with (first | ((with_reducible refine gate_callee (f := 65) rfl ?_); refine goesL_ (some 33) rfl rfl Try.func65 (by kernel_rfl) rfl #[.slice (some ad101) l0.length c0, .int .i64 x1_2] rfl zl ?_; (with_reducible refine (ih k2 (by have := HJ2.out; have := HK2.out; omega) _ _ l0 x1_2 t102 _ ?side1 ?side2 A10.out).mono ?_); (case side1 => exact Kd.C_below HR0.out zg); (case side2 => exact HC0.out); rintro e w' ⟨rfl, ⟨nd, rfl⟩⟩; refine ⟨_, rfl, ?_⟩))
          go_roundg k2
          case measure => have := HJ2.out; have := HK2.out; omega
          case rel => exact ⟨(t102), (wrap64 (x6_2 + 1)), zy, zy, H', ⟨by have := HJ2.out; have := HK2.out; omega⟩, zd⟩
         ·
          rw [if_neg c9] at H
          have c9b0 : decide (0 ≤ x1_2) = false := zR c9
          clear c9
          obtain rfl := zS H
          go_wp2
          go_ret
          exact ⟨zy, zd⟩
        ·
         rw [if_neg c8] at H
         have c8b0 : decide (x6_2 < ((rd_T54 l0 a1).f1)) = false := zR c8
         clear c8
         obtain rfl := zS H
         go_wp2
         go_ret
         exact ⟨zy, zd⟩
     ·
      rw [if_neg c7] at H
      exact absurd H (by simp)
    ·
     rw [if_neg c6] at H
     exact absurd H (by simp)


-- ==== PF34

/-! ### aumbryref04_Check: function 34 -/
def aumbryref04_Check.l0 : Nat → List (S54) → Int → Int → Option (Int)
 | 0, _, _, _ => none
 | k + 1, x0, x9, x10 => if x10 < x9 then (if 0 ≤ x10 then (if x10 < (x0.length : Int) then ((aumbryref03_Kind.f k ((rd_T54 x0 x10).f0)).bind fun t103 => (if t103 = 0 then (some 4) else (if ((rd_T54 x0 x10).f1) < 0 then (some 5) else (if ((rd_T54 x0 x10).f1) > 4 then (some 5) else (if t103 = 2 then (if ((rd_T54 x0 x10).f1) = 0 then (aumbryref04_Check.l0 k x0 x9 (wrap64 (x10 + 1))) else (some 5)) else (aumbryref04_Check.l0 k x0 x9 (wrap64 (x10 + 1)))))))) else (none)) else (none)) else ((aumbryref04_Behind.f k x0 0).bind fun t101 => (if t101 = (x0.length : Int) then (some 0) else (some 3)))
def aumbryref04_Check.f (k : Nat) (l0 : List (S54)) : Option (Int) := if (l0.length : Int) > 64 then (some 6) else (aumbryref04_Check.l0 k l0 (l0.length : Int) 0)
theorem aumbryref04_Check.calls (k : Nat) (A0 : Option Addr) (c0 : Nat) (l0 : List (S54)) (r : Int) (w : World) (hr0 : Kd.C k54 w A0 l0.length l0) (hc0 : l0.length ≤ c0) (h : aumbryref04_Check.f k l0 = some r) :
 Calls Try.prog 34 #[.slice A0 l0.length c0] w fun e w' => e = .returned (.int .i64 r) ∧ Drawn0 w w' := by
 have HR0 := zM hr0
 have HC0 := zM hc0
 clear hr0 hc0
 have H : (if (l0.length : Int) > 64 then (some 6) else (aumbryref04_Check.l0 k l0 (l0.length : Int) 0)) = some r := h
 clear h
 by_cases c2 : (l0.length : Int) > 64
 ·
  rw [if_pos c2] at H
  have c2b0 : decide (64 < (l0.length : Int)) = true := zQ c2
  have c2b1 : decide (64 < l0.length) = true := zQ (by omega)
  clear c2
  obtain rfl := zS H
  go_enter Try.func34, Try.ntmps34
  go_wp2
  go_ret
  exact ⟨zy, zd⟩
 ·
  rw [if_neg c2] at H
  have c2b0 : decide (64 < (l0.length : Int)) = false := zR c2
  have c2b1 : decide (64 < l0.length) = false := zR (by omega)
  clear c2
  have H' := zM H
  clear H
  go_enter Try.func34, Try.ntmps34
  go_wp2
  go_loopg [10] k (fun kq v10 w' => ∃ (x10_1 : Int), v10 = .int .i64 x10_1 ∧ Aside0 (aumbryref04_Check.l0 kq l0 (l0.length : Int) x10_1 = some r) ∧ Aside0 (kq ≤ k) ∧ Drawn0 w w')
  case atStart => exact ⟨(0), zy, H', ⟨Nat.le_refl _⟩, zd⟩
  case round =>
   clear H'
   try clear c2
   try clear c2b0
   try clear c2b1
   try clear p2
   obtain ⟨x10_1, rfl, HA, HK1, ⟨m1, rfl⟩⟩ := hrel
   cases gk with
   | zero => exact absurd HA.out (by simp [aumbryref04_Check.l0])
   | succ k1 =>
    have H := HA.out
    clear HA
    simp only [aumbryref04_Check.l0] at H
    by_cases c3 : x10_1 < (l0.length : Int)
    ·
     rw [if_pos c3] at H
     have c3b0 : decide (x10_1 < (l0.length : Int)) = true := zQ c3
     clear c3
     by_cases c4 : 0 ≤ x10_1
     ·
      rw [if_pos c4] at H
      have c4b0 : decide (0 ≤ x10_1) = true := zQ c4
      clear c4
      by_cases c5 : x10_1 < (l0.length : Int)
      ·
       rw [if_pos c5] at H
       have c5b0 : decide (x10_1 < (l0.length : Int)) = true := zQ c5
       clear c5
       replace H := zB H
       obtain ⟨t103, A60, H⟩ := H
       try dsimp only at H
       have A6 := zM A60
       clear A60
       by_cases c7 : t103 = 0
       ·
        rw [if_pos c7] at H
        have c7b0 : (t103 == 0) = true := zG c7
        have c7b1 : (t103 != 0) = false := zH c7
        clear c7
        obtain rfl := zS H
        have p102 : 0 ≤ (x10_1 : Int) := zT zv
        have q102 : x10_1 < (l0.length : Int) := zT zv
        obtain ⟨ad102, e102, hx102_0, hx102_1⟩ := at_T54 HR0.out x10_1 p102 q102
        cases e102
        replace p102 := eq_true p102
        replace q102 := eq_true q102
        go_wp2_with (first | ((with_reducible refine gate_callee (f := 45) rfl ?_); refine goesL_ (some 18) rfl rfl Try.func45 (by kernel_rfl) rfl #[.string ((rd_T54 l0 x10_1).f0)] rfl zl ?_; (with_reducible refine (aumbryref03_Kind.calls k1 ((rd_T54 l0 x10_1).f0) t103 _ A6.out).mono ?_); rintro e w' ⟨rfl, ⟨nd, rfl⟩⟩; refine ⟨_, rfl, ?_⟩))
        go_ret
        exact ⟨zy, zd⟩
       ·
        rw [if_neg c7] at H
        have c7b0 : (t103 == 0) = false := zE c7
        have c7b1 : (t103 != 0) = true := zF c7
        by_cases c8 : ((rd_T54 l0 x10_1).f1) < 0
        ·
         rw [if_pos c8] at H
         have c8b0 : decide (((rd_T54 l0 x10_1).f1) < 0) = true := zQ c8
         clear c8
         obtain rfl := zS H
         have p102 : 0 ≤ (x10_1 : Int) := zT zv
         have q102 : x10_1 < (l0.length : Int) := zT zv
         obtain ⟨ad102, e102, hx102_0, hx102_1⟩ := at_T54 HR0.out x10_1 p102 q102
         cases e102
         replace p102 := eq_true p102
         replace q102 := eq_true q102
         go_wp2_with (first | ((with_reducible refine gate_callee (f := 45) rfl ?_); refine goesL_ (some 18) rfl rfl Try.func45 (by kernel_rfl) rfl #[.string ((rd_T54 l0 x10_1).f0)] rfl zl ?_; (with_reducible refine (aumbryref03_Kind.calls k1 ((rd_T54 l0 x10_1).f0) t103 _ A6.out).mono ?_); rintro e w' ⟨rfl, ⟨nd, rfl⟩⟩; refine ⟨_, rfl, ?_⟩; have p104 : 0 ≤ (x10_1 : Int) := zT zv; have q104 : x10_1 < (l0.length : Int) := zT zv; obtain ⟨ad104, e104, hx104_0, hx104_1⟩ := at_T54 HR0.out x10_1 p104 q104; obtain rfl : ad102 = ad104 := (by injection e104); replace p104 := eq_true p104; replace q104 := eq_true q104))
         go_ret
         exact ⟨zy, zd⟩
        ·
         rw [if_neg c8] at H
         have c8b0 : decide (((rd_T54 l0 x10_1).f1) < 0) = false := zR c8
         clear c8
         by_cases c9 : ((rd_T54 l0 x10_1).f1) > 4
         ·
          rw [if_pos c9] at H
          have c9b0 : decide (4 < ((rd_T54 l0 x10_1).f1)) = true := zQ c9
          clear c9
          obtain rfl := zS H
          have p102 : 0 ≤ (x10_1 : Int) := zT zv
          have q102 : x10_1 < (l0.length : Int) := zT zv
          obtain ⟨ad102, e102, hx102_0, hx102_1⟩ := at_T54 HR0.out x10_1 p102 q102
          cases e102
          replace p102 := eq_true p102
          replace q102 := eq_true q102
          go_wp2_with (first | ((with_reducible refine gate_callee (f := 45) rfl ?_); refine goesL_ (some 18) rfl rfl Try.func45 (by kernel_rfl) rfl #[.string ((rd_T54 l0 x10_1).f0)] rfl zl ?_; (with_reducible refine (aumbryref03_Kind.calls k1 ((rd_T54 l0 x10_1).f0) t103 _ A6.out).mono ?_); rintro e w' ⟨rfl, ⟨nd, rfl⟩⟩; refine ⟨_, rfl, ?_⟩; have p104 : 0 ≤ (x10_1 : Int) := zT zv; have q104 : x10_1 < (l0.length : Int) := zT zv; obtain ⟨ad104, e104, hx104_0, hx104_1⟩ := at_T54 HR0.out x10_1 p104 q104; obtain rfl : ad102 = ad104 := (by injection e104); replace p104 := eq_true p104; replace q104 := eq_true q104; have p105 : 0 ≤ (x10_1 : Int) := zT zv; have q105 : x10_1 < (l0.length : Int) := zT zv; obtain ⟨ad105, e105, hx105_0, hx105_1⟩ := at_T54 HR0.out x10_1 p105 q105; obtain rfl : ad102 = ad105 := (by injection e105); replace p105 := eq_true p105; replace q105 := eq_true q105))
          go_ret
          exact ⟨zy, zd⟩
         ·
          rw [if_neg c9] at H
          have c9b0 : decide (4 < ((rd_T54 l0 x10_1).f1)) = false := zR c9
          clear c9
          by_cases c10 : t103 = 2
          ·
           rw [if_pos c10] at H
           have c10b0 : (t103 == 2) = true := zG c10
           have c10b1 : (t103 != 2) = false := zH c10
           clear c10
           by_cases c11 : ((rd_T54 l0 x10_1).f1) = 0
           ·
            rw [if_pos c11] at H
            have c11b0 : (((rd_T54 l0 x10_1).f1) == 0) = true := zG c11
            have c11b1 : (((rd_T54 l0 x10_1).f1) != 0) = false := zH c11
            clear c11
            have H' := zM H
            clear H
            have p102 : 0 ≤ (x10_1 : Int) := zT zv
            have q102 : x10_1 < (l0.length : Int) := zT zv
            obtain ⟨ad102, e102, hx102_0, hx102_1⟩ := at_T54 HR0.out x10_1 p102 q102
            cases e102
            replace p102 := eq_true p102
            replace q102 := eq_true q102
            go_wp2_with (first | ((with_reducible refine gate_callee (f := 45) rfl ?_); refine goesL_ (some 18) rfl rfl Try.func45 (by kernel_rfl) rfl #[.string ((rd_T54 l0 x10_1).f0)] rfl zl ?_; (with_reducible refine (aumbryref03_Kind.calls k1 ((rd_T54 l0 x10_1).f0) t103 _ A6.out).mono ?_); rintro e w' ⟨rfl, ⟨nd, rfl⟩⟩; refine ⟨_, rfl, ?_⟩; have p104 : 0 ≤ (x10_1 : Int) := zT zv; have q104 : x10_1 < (l0.length : Int) := zT zv; obtain ⟨ad104, e104, hx104_0, hx104_1⟩ := at_T54 HR0.out x10_1 p104 q104; obtain rfl : ad102 = ad104 := (by injection e104); replace p104 := eq_true p104; replace q104 := eq_true q104; have p105 : 0 ≤ (x10_1 : Int) := zT zv; have q105 : x10_1 < (l0.length : Int) := zT zv; obtain ⟨ad105, e105, hx105_0, hx105_1⟩ := at_T54 HR0.out x10_1 p105 q105; obtain rfl : ad102 = ad105 := (by injection e105); replace p105 := eq_true p105; replace q105 := eq_true q105; have p106 : 0 ≤ (x10_1 : Int) := zT zv; have q106 : x10_1 < (l0.length : Int) := zT zv; obtain ⟨ad106, e106, hx106_0, hx106_1⟩ := at_T54 HR0.out x10_1 p106 q106; obtain rfl : ad102 = ad106 := (by injection e106); replace p106 := eq_true p106; replace q106 := eq_true q106))
            go_roundg k1
            case measure => have := HK1.out; omega
            case rel => exact ⟨(wrap64 (x10_1 + 1)), zy, H', ⟨by have := HK1.out; omega⟩, zd⟩
           ·
            rw [if_neg c11] at H
            have c11b0 : (((rd_T54 l0 x10_1).f1) == 0) = false := zE c11
            have c11b1 : (((rd_T54 l0 x10_1).f1) != 0) = true := zF c11
            obtain rfl := zS H
            have p102 : 0 ≤ (x10_1 : Int) := zT zv
            have q102 : x10_1 < (l0.length : Int) := zT zv
            obtain ⟨ad102, e102, hx102_0, hx102_1⟩ := at_T54 HR0.out x10_1 p102 q102
            cases e102
            replace p102 := eq_true p102
            replace q102 := eq_true q102
            go_wp2_with (first | ((with_reducible refine gate_callee (f := 45) rfl ?_); refine goesL_ (some 18) rfl rfl Try.func45 (by kernel_rfl) rfl #[.string ((rd_T54 l0 x10_1).f0)] rfl zl ?_; (with_reducible refine (aumbryref03_Kind.calls k1 ((rd_T54 l0 x10_1).f0) t103 _ A6.out).mono ?_); rintro e w' ⟨rfl, ⟨nd, rfl⟩⟩; refine ⟨_, rfl, ?_⟩; have p104 : 0 ≤ (x10_1 : Int) := zT zv; have q104 : x10_1 < (l0.length : Int) := zT zv; obtain ⟨ad104, e104, hx104_0, hx104_1⟩ := at_T54 HR0.out x10_1 p104 q104; obtain rfl : ad102 = ad104 := (by injection e104); replace p104 := eq_true p104; replace q104 := eq_true q104; have p105 : 0 ≤ (x10_1 : Int) := zT zv; have q105 : x10_1 < (l0.length : Int) := zT zv; obtain ⟨ad105, e105, hx105_0, hx105_1⟩ := at_T54 HR0.out x10_1 p105 q105; obtain rfl : ad102 = ad105 := (by injection e105); replace p105 := eq_true p105; replace q105 := eq_true q105; have p106 : 0 ≤ (x10_1 : Int) := zT zv; have q106 : x10_1 < (l0.length : Int) := zT zv; obtain ⟨ad106, e106, hx106_0, hx106_1⟩ := at_T54 HR0.out x10_1 p106 q106; obtain rfl : ad102 = ad106 := (by injection e106); replace p106 := eq_true p106; replace q106 := eq_true q106))
            go_ret
            exact ⟨zy, zd⟩
          ·
           rw [if_neg c10] at H
           have c10b0 : (t103 == 2) = false := zE c10
           have c10b1 : (t103 != 2) = true := zF c10
           have H' := zM H
           clear H
           have p102 : 0 ≤ (x10_1 : Int) := zT zv
           have q102 : x10_1 < (l0.length : Int) := zT zv
           obtain ⟨ad102, e102, hx102_0, hx102_1⟩ := at_T54 HR0.out x10_1 p102 q102
           cases e102
           replace p102 := eq_true p102
           replace q102 := eq_true q102
           go_wp2_with (first | ((with_reducible refine gate_callee (f := 45) rfl ?_); refine goesL_ (some 18) rfl rfl Try.func45 (by kernel_rfl) rfl #[.string ((rd_T54 l0 x10_1).f0)] rfl zl ?_; (with_reducible refine (aumbryref03_Kind.calls k1 ((rd_T54 l0 x10_1).f0) t103 _ A6.out).mono ?_); rintro e w' ⟨rfl, ⟨nd, rfl⟩⟩; refine ⟨_, rfl, ?_⟩; have p104 : 0 ≤ (x10_1 : Int) := zT zv; have q104 : x10_1 < (l0.length : Int) := zT zv; obtain ⟨ad104, e104, hx104_0, hx104_1⟩ := at_T54 HR0.out x10_1 p104 q104; obtain rfl : ad102 = ad104 := (by injection e104); replace p104 := eq_true p104; replace q104 := eq_true q104; have p105 : 0 ≤ (x10_1 : Int) := zT zv; have q105 : x10_1 < (l0.length : Int) := zT zv; obtain ⟨ad105, e105, hx105_0, hx105_1⟩ := at_T54 HR0.out x10_1 p105 q105; obtain rfl : ad102 = ad105 := (by injection e105); replace p105 := eq_true p105; replace q105 := eq_true q105))
           go_roundg k1
           case measure => have := HK1.out; omega
           case rel => exact ⟨(wrap64 (x10_1 + 1)), zy, H', ⟨by have := HK1.out; omega⟩, zd⟩
      ·
       rw [if_neg c5] at H
       exact absurd H (by simp)
     ·
      rw [if_neg c4] at H
      exact absurd H (by simp)
    ·
     rw [if_neg c3] at H
     have c3b0 : decide (x10_1 < (l0.length : Int)) = false := zR c3
     clear c3
     replace H := zB H
     obtain ⟨t101, A120, H⟩ := H
     try dsimp only at H
     have A12 := zM A120
     clear A120
     by_cases c13 : t101 = (l0.length : Int)
     ·
      rw [if_pos c13] at H
      have c13b0 : (t101 == (l0.length : Int)) = true := zG c13
      have c13b1 : (t101 != (l0.length : Int)) = false := zH c13
      clear c13
      obtain rfl := zS H
      go_wp2_with (first | ((with_reducible refine gate_callee (f := 65) rfl ?_); refine goesL_ (some 49) rfl rfl Try.func65 (by kernel_rfl) rfl #[.slice A0 l0.length c0, .int .i64 0] rfl zl ?_; (with_reducible refine (aumbryref04_Behind.calls k1 _ _ l0 0 t101 _ ?side1 ?side2 A12.out).mono ?_); (case side1 => exact Kd.C_below HR0.out zg); (case side2 => exact HC0.out); rintro e w' ⟨rfl, ⟨nd, rfl⟩⟩; refine ⟨_, rfl, ?_⟩))
      go_ret
      exact ⟨zy, zd⟩
     ·
      rw [if_neg c13] at H
      have c13b0 : (t101 == (l0.length : Int)) = false := zE c13
      have c13b1 : (t101 != (l0.length : Int)) = true := zF c13
      obtain rfl := zS H
      go_wp2_with (first | ((with_reducible refine gate_callee (f := 65) rfl ?_); refine goesL_ (some 49) rfl rfl Try.func65 (by kernel_rfl) rfl #[.slice A0 l0.length c0, .int .i64 0] rfl zl ?_; (with_reducible refine (aumbryref04_Behind.calls k1 _ _ l0 0 t101 _ ?side1 ?side2 A12.out).mono ?_); (case side1 => exact Kd.C_below HR0.out zg); (case side2 => exact HC0.out); rintro e w' ⟨rfl, ⟨nd, rfl⟩⟩; refine ⟨_, rfl, ?_⟩))
      go_ret
      exact ⟨zy, zd⟩


-- ==== PF78

/-! ### aumbryref03_Has: function 78 -/
def aumbryref03_Has.l0 : Nat → List ByteArray → ByteArray → Int → Int → Option (Bool)
 | 0, _, _, _, _ => none
 | k + 1, x0, x1, x7, x8 => if x8 < x7 then (if 0 ≤ x8 then (if x8 < (x0.length : Int) then (if (rdOf ByteArray.empty x0 x8).toList = x1.toList then (some true) else (aumbryref03_Has.l0 k x0 x1 x7 (wrap64 (x8 + 1)))) else (none)) else (none)) else (some false)
def aumbryref03_Has.f (k : Nat) (l0 : List ByteArray) (a1 : ByteArray) : Option (Bool) := aumbryref03_Has.l0 k l0 a1 (l0.length : Int) 0
theorem aumbryref03_Has.calls (k : Nat) (A0 : Option Addr) (c0 : Nat) (l0 : List ByteArray) (a1 : ByteArray) (r : Bool) (w : World) (hr0 : Kd.C Kd.string w A0 l0.length l0) (hc0 : l0.length ≤ c0) (h : aumbryref03_Has.f k l0 a1 = some r) :
 Calls Try.prog 78 #[.slice A0 l0.length c0, .string a1] w fun e w' => e = .returned (.bool r) ∧ Drawn0 w w' := by
 have HR0 := zM hr0
 have HC0 := zM hc0
 clear hr0 hc0
 have H : (aumbryref03_Has.l0 k l0 a1 (l0.length : Int) 0) = some r := h
 clear h
 have H' := zM H
 clear H
 go_enter Try.func78, Try.ntmps78
 go_wp2
 go_loopg [8] k (fun kq v8 w' => ∃ (x8_1 : Int), v8 = .int .i64 x8_1 ∧ Aside0 (aumbryref03_Has.l0 kq l0 a1 (l0.length : Int) x8_1 = some r) ∧ Aside0 (kq ≤ k) ∧ Drawn0 w w')
 case atStart => exact ⟨(0), zy, H', ⟨Nat.le_refl _⟩, zd⟩
 case round =>
  clear H'
  try clear p2
  obtain ⟨x8_1, rfl, HA, HK1, ⟨m1, rfl⟩⟩ := hrel
  cases gk with
  | zero => exact absurd HA.out (by simp [aumbryref03_Has.l0])
  | succ k1 =>
   have H := HA.out
   clear HA
   simp only [aumbryref03_Has.l0] at H
   by_cases c3 : x8_1 < (l0.length : Int)
   ·
    rw [if_pos c3] at H
    have c3b0 : decide (x8_1 < (l0.length : Int)) = true := zQ c3
    clear c3
    by_cases c4 : 0 ≤ x8_1
    ·
     rw [if_pos c4] at H
     have c4b0 : decide (0 ≤ x8_1) = true := zQ c4
     clear c4
     by_cases c5 : x8_1 < (l0.length : Int)
     ·
      rw [if_pos c5] at H
      have c5b0 : decide (x8_1 < (l0.length : Int)) = true := zQ c5
      clear c5
      by_cases c6 : (rdOf ByteArray.empty l0 x8_1).toList = a1.toList
      ·
       rw [if_pos c6] at H
       have c6b0 : ((rdOf ByteArray.empty l0 x8_1).toList == a1.toList) = true := zG c6
       have c6b1 : ((rdOf ByteArray.empty l0 x8_1).toList != a1.toList) = false := zH c6
       clear c6
       obtain rfl := zS H
       have p101 : 0 ≤ (x8_1 : Int) := zT zv
       have q101 : x8_1 < (l0.length : Int) := zT zv
       obtain ⟨ad101, e101, hx101_0⟩ := Kd.at_string HR0.out x8_1 p101 q101
       cases e101
       replace p101 := eq_true p101
       replace q101 := eq_true q101
       go_wp2
       go_ret
       exact ⟨zy, zd⟩
      ·
       rw [if_neg c6] at H
       have c6b0 : ((rdOf ByteArray.empty l0 x8_1).toList == a1.toList) = false := zE c6
       have c6b1 : ((rdOf ByteArray.empty l0 x8_1).toList != a1.toList) = true := zF c6
       have H' := zM H
       clear H
       have p101 : 0 ≤ (x8_1 : Int) := zT zv
       have q101 : x8_1 < (l0.length : Int) := zT zv
       obtain ⟨ad101, e101, hx101_0⟩ := Kd.at_string HR0.out x8_1 p101 q101
       cases e101
       replace p101 := eq_true p101
       replace q101 := eq_true q101
       go_wp2
       go_roundg k1
       case measure => have := HK1.out; omega
       case rel => exact ⟨(wrap64 (x8_1 + 1)), zy, H', ⟨by have := HK1.out; omega⟩, zd⟩
     ·
      rw [if_neg c5] at H
      exact absurd H (by simp)
    ·
     rw [if_neg c4] at H
     exact absurd H (by simp)
   ·
    rw [if_neg c3] at H
    have c3b0 : decide (x8_1 < (l0.length : Int)) = false := zR c3
    clear c3
    obtain rfl := zS H
    go_wp2
    go_ret
    exact ⟨zy, zd⟩


-- ==== PF52

/-! ### aumbryref04_Vars: function 52 -/
def aumbryref04_Vars.l0 : Nat → List (S54) → List ByteArray → Int → Int → Option (List ByteArray)
 | 0, _, _, _, _ => none
 | k + 1, x0, x3, x6, x7 => if x7 < x6 then (if 0 ≤ x7 then (if x7 < (x0.length : Int) then ((aumbryref03_Kind.f k ((rd_T54 x0 x7).f0)).bind fun t102 => (if t102 = 2 then ((aumbryref03_Has.f k x3 ((rd_T54 x0 x7).f0)).bind fun t104 => (if t104 = true then (aumbryref04_Vars.l0 k x0 x3 x6 (wrap64 (x7 + 1))) else (if x3.length < 8796093022208 then (aumbryref04_Vars.l0 k x0 (x3 ++ [(rd_T54 x0 x7).f0]) x6 (wrap64 (x7 + 1))) else (none)))) else (aumbryref04_Vars.l0 k x0 x3 x6 (wrap64 (x7 + 1))))) else (none)) else (none)) else (some x3)
def aumbryref04_Vars.f (k : Nat) (l0 : List (S54)) : Option (List ByteArray) := aumbryref04_Vars.l0 k l0 ([] : List ByteArray) (l0.length : Int) 0
theorem aumbryref04_Vars.calls (k : Nat) (A0 : Option Addr) (c0 : Nat) (l0 : List (S54)) (r : List ByteArray) (w : World) (hr0 : Kd.C k54 w A0 l0.length l0) (hc0 : l0.length ≤ c0) (h : aumbryref04_Vars.f k l0 = some r) :
 Calls Try.prog 52 #[.slice A0 l0.length c0] w fun e w' => ∃ v0_ : Value, e = .returned (v0_) ∧ Kd.R Kd.string 9 w' w.heap.size (fun _ => True) v0_ r ∧ Below w.heap.size w w' := by
 have HR0 := zM hr0
 have HC0 := zM hc0
 clear hr0 hc0
 have HB := zM (Below.refl w.heap.size w)
 have H : (aumbryref04_Vars.l0 k l0 ([] : List ByteArray) (l0.length : Int) 0) = some r := h
 clear h
 have H' := zM H
 clear H
 go_enter Try.func52, Try.ntmps52
 go_wp2
 go_loopg [3, 7] k (fun kq v3 v7 w' => ∃ (x3_1 : List ByteArray) (x7_1 : Int), v7 = .int .i64 x7_1 ∧ Aside0 (aumbryref04_Vars.l0 kq l0 x3_1 (l0.length : Int) x7_1 = some r) ∧ Aside0 (kq ≤ k) ∧ Aside0 (Kd.R Kd.string 9 w' w.heap.size (fun _ => True) v3 x3_1) ∧ Aside0 (Below w.heap.size w w'))
 case atStart => exact ⟨(([] : List ByteArray)), (0), zy, H', ⟨Nat.le_refl _⟩, ⟨by first | exact Kd.R_nil _ _ _ _ _ | exact Kd.N_nil _ _ _ _ _ | exact Kd.V_nil _ _ _ _ _ | exact Kd.Q_nil _ _ _ _ _ | exact Kd.S_nil _ _ _ _ _⟩, ⟨zb⟩⟩
 case round =>
  clear H'
  obtain ⟨x3_1, x7_1, rfl, HA, HK1, HO_3, HB⟩ := hrel
  cases gk with
  | zero => exact absurd HA.out (by simp [aumbryref04_Vars.l0])
  | succ k1 =>
   have H := HA.out
   clear HA
   simp only [aumbryref04_Vars.l0] at H
   by_cases c2 : x7_1 < (l0.length : Int)
   ·
    rw [if_pos c2] at H
    have c2b0 : decide (x7_1 < (l0.length : Int)) = true := zQ c2
    clear c2
    by_cases c3 : 0 ≤ x7_1
    ·
     rw [if_pos c3] at H
     have c3b0 : decide (0 ≤ x7_1) = true := zQ c3
     clear c3
     by_cases c4 : x7_1 < (l0.length : Int)
     ·
      rw [if_pos c4] at H
      have c4b0 : decide (x7_1 < (l0.length : Int)) = true := zQ c4
      clear c4
      replace H := zB H
      obtain ⟨t102, A50, H⟩ := H
      try dsimp only at H
      have A5 := zM A50
      clear A50
      by_cases c6 : t102 = 2
      ·
       rw [if_pos c6] at H
       have c6b0 : (t102 == 2) = true := zG c6
       have c6b1 : (t102 != 2) = false := zH c6
       clear c6
       replace H := zB H
       obtain ⟨t104, A70, H⟩ := H
       try dsimp only at H
       have A7 := zM A70
       clear A70
       by_cases c8 : t104 = true
       ·
        subst c8
        rw [if_pos rfl] at H
        have H' := zM H
        clear H
        have p101 : 0 ≤ (x7_1 : Int) := zT zv
        have q101 : x7_1 < (l0.length : Int) := zT zv
        obtain ⟨ad101, e101, hx101_0, hx101_1⟩ := at_T54 HR0.out x7_1 p101 q101
        cases e101
        replace hx101_0 := (HB.out.cell (World.block_lt_of_cell? w _ hx101_0)).trans hx101_0
        replace hx101_1 := (HB.out.cell (World.block_lt_of_cell? w _ hx101_1)).trans hx101_1
        replace p101 := eq_true p101
        replace q101 := eq_true q101
        go_wp2_with (first | ((with_reducible refine gate_callee (f := 45) rfl ?_); refine goesL_ (some 15) rfl rfl Try.func45 (by kernel_rfl) rfl #[.string ((rd_T54 l0 x7_1).f0)] rfl zl ?_; (with_reducible refine (aumbryref03_Kind.calls k1 ((rd_T54 l0 x7_1).f0) t102 _ A5.out).mono ?_); rintro e w' ⟨rfl, ⟨nd, rfl⟩⟩; refine ⟨_, rfl, ?_⟩; have p103 : 0 ≤ (x7_1 : Int) := zT zv; have q103 : x7_1 < (l0.length : Int) := zT zv; obtain ⟨ad103, e103, hx103_0, hx103_1⟩ := at_T54 HR0.out x7_1 p103 q103; obtain rfl : ad101 = ad103 := (by injection e103); replace hx103_0 := (HB.out.cell (World.block_lt_of_cell? w _ hx103_0)).trans hx103_0; replace hx103_1 := (HB.out.cell (World.block_lt_of_cell? w _ hx103_1)).trans hx103_1; replace p103 := eq_true p103; replace q103 := eq_true q103; obtain ⟨Ao9, co9, eo9⟩ := Kd.R_slice HO_3.out; subst eo9) | (go_at_call 78; (with_reducible refine (aumbryref03_Has.calls k1 _ _ x3_1 ((rd_T54 l0 x7_1).f0) true _ ?side1 ?side2 A7.out).mono ?_); (case side1 => exact Kd.C_below (Kd.R_reads' HO_3.out).2.2 zg); (case side2 => exact (Kd.R_reads' HO_3.out).2.1); rintro e w' ⟨rfl, ⟨nd, rfl⟩⟩))
        go_roundg k1
        case measure => have := HK1.out; omega
        case rel => exact ⟨(x3_1), (wrap64 (x7_1 + 1)), zy, H', ⟨by have := HK1.out; omega⟩, ⟨zr HO_3.out⟩, ⟨zb⟩⟩
       ·
        replace c8 := zI c8
        subst c8
        rw [if_neg (show ¬ (false = true) by decide)] at H
        by_cases c10 : x3_1.length < 8796093022208
        ·
         rw [if_pos c10] at H
         have LMc10 := zM c10
         clear c10
         obtain ⟨y106, hy106⟩ : ∃ y_ : List ByteArray, y_ = (x3_1 ++ [(rd_T54 l0 x7_1).f0]) := ⟨_, rfl⟩
         replace H : (aumbryref04_Vars.l0 k1 l0 y106 (l0.length : Int) (wrap64 (x7_1 + 1))) = some r := by first | (rw [hy106]; with_reducible exact H) | (have H2_ := (Option.bind_some _ _).symm.trans H; rw [hy106]; with_reducible exact H2_) | (have H2_ := (Option.bind_some _ _).symm.trans H; with_reducible exact H2_) | with_reducible exact H | (rw [hy106]; exact H) | exact H
         have Ny106 := zM hy106
         clear hy106
         have H' := zM H
         clear H
         have p101 : 0 ≤ (x7_1 : Int) := zT zv
         have q101 : x7_1 < (l0.length : Int) := zT zv
         obtain ⟨ad101, e101, hx101_0, hx101_1⟩ := at_T54 HR0.out x7_1 p101 q101
         cases e101
         replace hx101_0 := (HB.out.cell (World.block_lt_of_cell? w _ hx101_0)).trans hx101_0
         replace hx101_1 := (HB.out.cell (World.block_lt_of_cell? w _ hx101_1)).trans hx101_1
         replace p101 := eq_true p101
         replace q101 := eq_true q101
         go_wp2_with (first | ((with_reducible refine gate_callee (f := 45) rfl ?_); refine goesL_ (some 15) rfl rfl Try.func45 (by kernel_rfl) rfl #[.string ((rd_T54 l0 x7_1).f0)] rfl zl ?_; (with_reducible refine (aumbryref03_Kind.calls k1 ((rd_T54 l0 x7_1).f0) t102 _ A5.out).mono ?_); rintro e w' ⟨rfl, ⟨nd, rfl⟩⟩; refine ⟨_, rfl, ?_⟩; have p103 : 0 ≤ (x7_1 : Int) := zT zv; have q103 : x7_1 < (l0.length : Int) := zT zv; obtain ⟨ad103, e103, hx103_0, hx103_1⟩ := at_T54 HR0.out x7_1 p103 q103; obtain rfl : ad101 = ad103 := (by injection e103); replace hx103_0 := (HB.out.cell (World.block_lt_of_cell? w _ hx103_0)).trans hx103_0; replace hx103_1 := (HB.out.cell (World.block_lt_of_cell? w _ hx103_1)).trans hx103_1; replace p103 := eq_true p103; replace q103 := eq_true q103; obtain ⟨Ao11, co11, eo11⟩ := Kd.R_slice HO_3.out; subst eo11) | (go_at_call 78; (with_reducible refine (aumbryref03_Has.calls k1 _ _ x3_1 ((rd_T54 l0 x7_1).f0) false _ ?side1 ?side2 A7.out).mono ?_); (case side1 => exact Kd.C_below (Kd.R_reads' HO_3.out).2.2 zg); (case side2 => exact (Kd.R_reads' HO_3.out).2.1); rintro e w' ⟨rfl, ⟨nd, rfl⟩⟩; have p105 : 0 ≤ (x7_1 : Int) := zT zv; have q105 : x7_1 < (l0.length : Int) := zT zv; obtain ⟨ad105, e105, hx105_0, hx105_1⟩ := at_T54 HR0.out x7_1 p105 q105; obtain rfl : ad101 = ad105 := (by injection e105); replace hx105_0 := (HB.out.cell (World.block_lt_of_cell? w _ hx105_0)).trans hx105_0; replace hx105_1 := (HB.out.cell (World.block_lt_of_cell? w _ hx105_1)).trans hx105_1; replace p105 := eq_true p105; replace q105 := eq_true q105) | ((with_reducible refine gate_builtin (b := .append) (xs := #[.tmp 27, .tmp 33]) rfl ?_); at_builtin; refine Kd.R_append Kd.string (w0 := w) w.heap.size rfl (.tmp 27) (.tmp 33) 26 9 (.string ⟨#[]⟩) 16 rfl Try.underlying26 info9 rfl (by decide) (by omega) (.slice Ao11 x3_1.length co11) x3_1 ((rd_T54 l0 x7_1).f0) [.string ((rd_T54 l0 x7_1).f0)] (fun _ => True) (fun _ => False) rfl rfl ?aP (fun _ hk => hk.elim) ?aF ?aO ?aB ?aS ?aL ?_; (case aP => exact rfl); (case aB => exact zb); (case aF => exact (fun _ _ => trivial)); (case aO => exact (zr HO_3.out)); (case aS => exact (below_size zb)); (case aL => have := LMc10.out; omega); intro v107 w12 ho hb hg hat; rw [← Ny106.out] at ho; replace HB := zM (hb); have HO108 := zM (ho); clear HO_3; clear ho hb hg hat))
         go_roundg k1
         case measure => have := HK1.out; omega
         case rel => exact ⟨(y106), (wrap64 (x7_1 + 1)), zy, H', ⟨by have := HK1.out; omega⟩, ⟨zr HO108.out⟩, ⟨zb⟩⟩
        ·
         rw [if_neg c10] at H
         exact absurd H (by simp)
      ·
       rw [if_neg c6] at H
       have c6b0 : (t102 == 2) = false := zE c6
       have c6b1 : (t102 != 2) = true := zF c6
       have H' := zM H
       clear H
       have p101 : 0 ≤ (x7_1 : Int) := zT zv
       have q101 : x7_1 < (l0.length : Int) := zT zv
       obtain ⟨ad101, e101, hx101_0, hx101_1⟩ := at_T54 HR0.out x7_1 p101 q101
       cases e101
       replace hx101_0 := (HB.out.cell (World.block_lt_of_cell? w _ hx101_0)).trans hx101_0
       replace hx101_1 := (HB.out.cell (World.block_lt_of_cell? w _ hx101_1)).trans hx101_1
       replace p101 := eq_true p101
       replace q101 := eq_true q101
       go_wp2_with (first | ((with_reducible refine gate_callee (f := 45) rfl ?_); refine goesL_ (some 15) rfl rfl Try.func45 (by kernel_rfl) rfl #[.string ((rd_T54 l0 x7_1).f0)] rfl zl ?_; (with_reducible refine (aumbryref03_Kind.calls k1 ((rd_T54 l0 x7_1).f0) t102 _ A5.out).mono ?_); rintro e w' ⟨rfl, ⟨nd, rfl⟩⟩; refine ⟨_, rfl, ?_⟩))
       go_roundg k1
       case measure => have := HK1.out; omega
       case rel => exact ⟨(x3_1), (wrap64 (x7_1 + 1)), zy, H', ⟨by have := HK1.out; omega⟩, ⟨zr HO_3.out⟩, ⟨zb⟩⟩
     ·
      rw [if_neg c4] at H
      exact absurd H (by simp)
    ·
     rw [if_neg c3] at H
     exact absurd H (by simp)
   ·
    rw [if_neg c2] at H
    have c2b0 : decide (x7_1 < (l0.length : Int)) = false := zR c2
    clear c2
    obtain rfl := zS H
    go_wp2
    go_ret
    exact ⟨_, zw, zr HO_3.out, zb⟩


-- ==== PF23

/-! ### aumbryref07_Ground: function 23 -/
def aumbryref07_Ground.f (k : Nat) (l0 : List (S54)) : Option (Bool) := (aumbryref04_Check.f k l0).bind fun t101 => (if t101 = 0 then ((aumbryref04_Vars.f k l0).bind fun t102 => (some ((t102.length : Int) == 0))) else (some false))
theorem aumbryref07_Ground.calls (k : Nat) (A0 : Option Addr) (c0 : Nat) (l0 : List (S54)) (r : Bool) (w : World) (hr0 : Kd.C k54 w A0 l0.length l0) (hc0 : l0.length ≤ c0) (h : aumbryref07_Ground.f k l0 = some r) :
 Calls Try.prog 23 #[.slice A0 l0.length c0] w fun e w' => e = .returned (.bool r) ∧ Below w.heap.size w w' := by
 have HR0 := zM hr0
 have HC0 := zM hc0
 clear hr0 hc0
 have HB := zM (Below.refl w.heap.size w)
 have H : ((aumbryref04_Check.f k l0).bind fun t101 => (if t101 = 0 then ((aumbryref04_Vars.f k l0).bind fun t102 => (some ((t102.length : Int) == 0))) else (some false))) = some r := h
 clear h
 replace H := zB H
 obtain ⟨t101, A20, H⟩ := H
 try dsimp only at H
 have A2 := zM A20
 clear A20
 by_cases c3 : t101 = 0
 ·
  rw [if_pos c3] at H
  have c3b0 : (t101 == 0) = true := zG c3
  have c3b1 : (t101 != 0) = false := zH c3
  clear c3
  replace H := zB H
  obtain ⟨t102, A40, H⟩ := H
  try dsimp only at H
  have A4 := zM A40
  clear A40
  obtain rfl := zS H
  go_enter Try.func23, Try.ntmps23
  go_wp2_with (first | ((with_reducible refine gate_callee (f := 34) rfl ?_); refine goesL_ (some 4) rfl rfl Try.func34 (by kernel_rfl) rfl #[.slice A0 l0.length c0] rfl zl ?_; (with_reducible refine (aumbryref04_Check.calls k _ _ l0 t101 _ ?side1 ?side2 A2.out).mono ?_); (case side1 => exact Kd.C_below HR0.out zg); (case side2 => exact HC0.out); rintro e w' ⟨rfl, ⟨nd, rfl⟩⟩; refine ⟨_, rfl, ?_⟩) | (go_at_call 52; (with_reducible refine (aumbryref04_Vars.calls k _ _ l0 t102 _ ?side1 ?side2 A4.out).mono ?_); (case side1 => exact Kd.C_below HR0.out zg); (case side2 => exact HC0.out); rintro e w5 ⟨v103, rfl, ho0, hb⟩; have HO104 := zM (Kd.R_lower ho0 (below_size zb)); replace HB := zM (below_step zb hb); (try clear hb); (try clear ho0); obtain ⟨Ao6, co6, eo6⟩ := Kd.R_slice HO104.out; subst eo6))
  go_ret
  exact ⟨zw, zb⟩
 ·
  rw [if_neg c3] at H
  have c3b0 : (t101 == 0) = false := zE c3
  have c3b1 : (t101 != 0) = true := zF c3
  obtain rfl := zS H
  go_enter Try.func23, Try.ntmps23
  go_wp2_with (first | ((with_reducible refine gate_callee (f := 34) rfl ?_); refine goesL_ (some 4) rfl rfl Try.func34 (by kernel_rfl) rfl #[.slice A0 l0.length c0] rfl zl ?_; (with_reducible refine (aumbryref04_Check.calls k _ _ l0 t101 _ ?side1 ?side2 A2.out).mono ?_); (case side1 => exact Kd.C_below HR0.out zg); (case side2 => exact HC0.out); rintro e w' ⟨rfl, ⟨nd, rfl⟩⟩; refine ⟨_, rfl, ?_⟩))
  go_ret
  exact ⟨zw, zb⟩


-- ==== PF35

/-! ### aumbryref07_Turned: function 35 -/
def aumbryref07_Turned.l0 : Nat → List (S70) → List (S70) → Int → Option ((List (S70)))
 | 0, _, _, _ => none
 | k + 1, x0, x3, x4 => if x4 ≥ 0 then (if 0 ≤ x4 then (if x4 < (x0.length : Int) then (if x3.length < 2513169434916 then (aumbryref07_Turned.l0 k x0 (x3 ++ [(⟨(rd_T70 x0 x4).f0, (⟨(rd_T70 x0 x4).f1.f0, (rd_T70 x0 x4).f1.f1⟩ : S54), (rd_T70 x0 x4).f2⟩ : S70)]) (wrap64 (x4 - 1))) else (none)) else (none)) else (none)) else (some x3)
def aumbryref07_Turned.f (k : Nat) (l0 : List (S70)) : Option ((List (S70))) := aumbryref07_Turned.l0 k l0 ([] : List (S70)) (wrap64 ((l0.length : Int) - 1))
theorem aumbryref07_Turned.calls (k : Nat) (P0_ : Nat → Prop) (A0 : Option Addr) (c0 : Nat) (l0 : List (S70)) (r : List (S70)) (w : World) (hs0 : Kd.V k70 70 w w.heap.size (fun k_ => P0_ k_) (.slice A0 l0.length c0) l0) (h : aumbryref07_Turned.f k l0 = some r) :
 Calls Try.prog 35 #[.slice A0 l0.length c0] w fun e w' => ∃ v0_ : Value, e = .returned (v0_) ∧ Kd.N k70 70 w' w.heap.size (fun k_ => (P0_ k_ ∨ w.heap.size ≤ k_)) v0_ r ∧ Below w.heap.size w w' := by
 have hu70 := Try.underlying70
 have HO0 := zM (show Kd.V k70 70 w w.heap.size (fun k_ => (P0_ k_ ∨ w.heap.size ≤ k_)) (.slice A0 l0.length c0) l0 from Kd.V_mono hs0 (fun k_ hk => .inl hk))
 have HB := zM (Below.refl w.heap.size w)
 have H : (aumbryref07_Turned.l0 k l0 ([] : List (S70)) (wrap64 ((l0.length : Int) - 1))) = some r := h
 clear h
 have H' := zM H
 clear H
 go_enter Try.func35, Try.ntmps35
 go_wp2
 go_loopg [3, 4] k (fun kq v3 v4 w' => ∃ (x3_1 : List (S70)) (x4_1 : Int), v4 = .int .i64 x4_1 ∧ Aside0 (aumbryref07_Turned.l0 kq l0 x3_1 x4_1 = some r) ∧ Aside0 (kq ≤ k) ∧ Aside0 (Kd.V k70 70 w' w.heap.size (fun k_ => (P0_ k_ ∨ w.heap.size ≤ k_) ∧ some k_ ≠ (v3 : Value).ownBlock) (.slice A0 l0.length c0) l0) ∧ Aside0 (Kd.N k70 70 w' w.heap.size (fun k_ => (P0_ k_ ∨ w.heap.size ≤ k_)) v3 x3_1) ∧ Aside0 (Below w.heap.size w w'))
 case atStart => exact ⟨(([] : List (S70))), (wrap64 ((l0.length : Int) - 1)), zy, H', ⟨Nat.le_refl _⟩, ⟨by (with_reducible repeat (first | apply Kd.V_alloc | apply Kd.V_drewN | apply Kd.V_drew)); exact Kd.V_mono HO0.out (fun _ hk => ⟨hk, (by simp [Value.ownBlock])⟩)⟩, ⟨by first | exact Kd.S_nil _ _ _ _ _ | exact Kd.N_nil _ _ _ _ _ | exact Kd.V_nil _ _ _ _ _ | exact Kd.Q_nil _ _ _ _ _ | exact Kd.R_nil _ _ _ _ _⟩, ⟨zb⟩⟩
 case round =>
  clear H'
  obtain ⟨x3_1, x4_1, rfl, HA, HK1, HO_0, HO_3, HB⟩ := hrel
  cases gk with
  | zero => exact absurd HA.out (by simp [aumbryref07_Turned.l0])
  | succ k1 =>
   have H := HA.out
   clear HA
   simp only [aumbryref07_Turned.l0] at H
   by_cases c2 : x4_1 ≥ 0
   ·
    rw [if_pos c2] at H
    have c2b0 : decide (0 ≤ x4_1) = true := zQ c2
    clear c2
    by_cases c3 : 0 ≤ x4_1
    ·
     rw [if_pos c3] at H
     have c3b0 : decide (0 ≤ x4_1) = true := zQ c3
     clear c3
     by_cases c4 : x4_1 < (l0.length : Int)
     ·
      rw [if_pos c4] at H
      have c4b0 : decide (x4_1 < (l0.length : Int)) = true := zQ c4
      clear c4
      by_cases c5 : x3_1.length < 2513169434916
      ·
       rw [if_pos c5] at H
       have LMc5 := zM c5
       clear c5
       obtain ⟨y102, hy102⟩ : ∃ y_ : List (S70), y_ = (x3_1 ++ [(⟨(rd_T70 l0 x4_1).f0, (⟨(rd_T70 l0 x4_1).f1.f0, (rd_T70 l0 x4_1).f1.f1⟩ : S54), (rd_T70 l0 x4_1).f2⟩ : S70)]) := ⟨_, rfl⟩
       replace H : (aumbryref07_Turned.l0 k1 l0 y102 (wrap64 (x4_1 - 1))) = some r := by first | (rw [hy102]; with_reducible exact H) | (have H2_ := (Option.bind_some _ _).symm.trans H; rw [hy102]; with_reducible exact H2_) | (have H2_ := (Option.bind_some _ _).symm.trans H; with_reducible exact H2_) | with_reducible exact H | (rw [hy102]; exact H) | exact H
       have Ny102 := zM hy102
       clear hy102
       have H' := zM H
       clear H
       have p101 : 0 ≤ (x4_1 : Int) := zT zv
       have q101 : x4_1 < (l0.length : Int) := zT zv
       obtain ⟨ad101, A101_3, c101_3, e101, hx101_0, hx101_1, hx101_2, hx101_3, hl101_3, hi101_3⟩ := at_T70 (Kd.V_reads' HO_0.out).2.2 x4_1 p101 q101
       cases e101
       obtain ⟨ce101, hce101, hMe101, hcc101⟩ := Kd.V_get HO_0.out z70 x4_1 p101 (by first | exact q101 | exact zT zv | (have e_ := (Kd.V_reads' HO_0.out).1; omega))
       obtain ⟨ua101_3, uc101_3, rfl, ul101_3, ge101_3⟩ := k70_openF hMe101
       have hv101_3 := hcc101 3 _ rfl
       rw [add_field _ _ 3 (by omega)] at hv101_3
       replace hv101_3 := zS (hv101_3.symm.trans hx101_3)
       injection hv101_3 with hva_ hvn_ hvc_
       rw [hva_] at ge101_3
       rw [hvc_] at ul101_3
       have HL101_3 := zM (show Kd.V k54 54 _ w.heap.size _ _ ((rd_T70 l0 x4_1).f2) from Kd.V_mk ul101_3 ge101_3)
       clear hva_ hvn_ hvc_ ge101_3 ul101_3
       clear hcc101 hce101
       have HR101_3 := zM hi101_3
       have HC101_3 := zM hl101_3
       clear hi101_3 hl101_3
       replace p101 := eq_true p101
       replace q101 := eq_true q101
       go_wp2_with (first | ((with_reducible refine gate_builtin (b := .append) (xs := #[.tmp 12, .tmp 17]) rfl ?_); at_builtin; refine Kd.N_append k70 (w0 := w) w.heap.size rfl (.tmp 12) (.tmp 17) 24 70 (.agg #[(.int .i64 0), (.string ⟨#[]⟩), (.int .i64 0), (.slice none 0 0)]) 56 rfl Try.underlying24 info70 rfl (by decide) (by omega) u3 x3_1 (⟨(rd_T70 l0 x4_1).f0, (⟨(rd_T70 l0 x4_1).f1.f0, (rd_T70 l0 x4_1).f1.f1⟩ : S54), (rd_T70 l0 x4_1).f2⟩ : S70) [.int .i64 ((rd_T70 l0 x4_1).f0), .string ((rd_T70 l0 x4_1).f1.f0), .int .i64 ((rd_T70 l0 x4_1).f1.f1), .slice A101_3 ((rd_T70 l0 x4_1).f2).length c101_3] (fun k_ => (P0_ k_ ∨ w.heap.size ≤ k_)) (fun k_ => ((fun k_ => (P0_ k_ ∨ w.heap.size ≤ k_))) k_ ∧ some k_ ≠ (u3 : Value).ownBlock) rfl rfl ?aP (fun _ hk => hk) ?aF ?aO ?aB ?aS ?aL ?_; (case aP => exact (k70_mkF _ _ (⟨(rd_T70 l0 x4_1).f0, (⟨(rd_T70 l0 x4_1).f1.f0, (rd_T70 l0 x4_1).f1.f1⟩ : S54), (rd_T70 l0 x4_1).f2⟩ : S70) (Kd.V_reads' (Kd.V_mono (ok' := (fun k_ => ((fun k_ => (P0_ k_ ∨ w.heap.size ≤ k_))) k_ ∧ some k_ ≠ (u3 : Value).ownBlock)) (HL101_3.out) (fun k_ hk => ⟨hk.1, hk.2⟩))).2.1 (Kd.V_F (Kd.V_mono (ok' := (fun k_ => ((fun k_ => (P0_ k_ ∨ w.heap.size ≤ k_))) k_ ∧ some k_ ≠ (u3 : Value).ownBlock)) (HL101_3.out) (fun k_ hk => ⟨hk.1, hk.2⟩))))); (case aB => exact zb); (case aF => exact (fun k_ hk => (.inr (Nat.le_trans (below_size zb) hk)))); (case aO => exact (Kd.N_below HO_3.out zg)); (case aS => exact (below_size zb)); (case aL => have := LMc5.out; omega); intro v103 w6 ho hb hg hat; rw [← Ny102.out] at ho; replace HO_0 := zM (Kd.V_afterv (ok := (fun k_ => (P0_ k_ ∨ w.heap.size ≤ k_))) (Kd.V_below HO_0.out zg) hg hat); replace HL101_3 := zM (Kd.V_afterv (ok := (fun k_ => (P0_ k_ ∨ w.heap.size ≤ k_))) (Kd.V_below HL101_3.out zg) hg hat); replace HB := zM (hb); have HO104 := zM (ho); clear HO_3; clear ho hb hg hat))
       go_roundg k1
       case measure => have := HK1.out; omega
       case rel => exact ⟨(y102), (wrap64 (x4_1 - 1)), zy, H', ⟨by have := HK1.out; omega⟩, ⟨Kd.V_below HO_0.out zg⟩, ⟨Kd.N_below HO104.out zg⟩, ⟨zb⟩⟩
      ·
       rw [if_neg c5] at H
       exact absurd H (by simp)
     ·
      rw [if_neg c4] at H
      exact absurd H (by simp)
    ·
     rw [if_neg c3] at H
     exact absurd H (by simp)
   ·
    rw [if_neg c2] at H
    have c2b0 : decide (0 ≤ x4_1) = false := zR c2
    clear c2
    obtain rfl := zS H
    go_wp2
    go_ret
    exact ⟨_, zw, Kd.N_below HO_3.out zg, zb⟩


-- ==== PF54

/-! ### aumbryref04_Kids: function 54 -/
def aumbryref04_Kids.l0 : Nat → List (S54) → List (List (S54)) → Int → Option ((List (List (S54))))
 | 0, _, _, _ => none
 | k + 1, x0, x3, x4 => if x4 < (x0.length : Int) then ((aumbryref04_Behind.f k x0 x4).bind fun t101 => (if 0 ≤ x4 then (if x4 ≤ t101 then (if t101 ≤ (x0.length : Int) then ((aumbryref04_Copy.f ((x0.take (t101 : Int).toNat).drop (x4 : Int).toNat)).bind fun t106 => (if x3.length < 5864062014805 then ((aumbryref04_Behind.f k x0 x4).bind fun t112 => (aumbryref04_Kids.l0 k x0 (x3 ++ [t106]) t112)) else (none))) else (none)) else (none)) else (none))) else (some x3)
def aumbryref04_Kids.f (k : Nat) (l0 : List (S54)) : Option ((List (List (S54)))) := aumbryref04_Kids.l0 k l0 ([] : List (List (S54))) 1
theorem aumbryref04_Kids.calls (k : Nat) (A0 : Option Addr) (c0 : Nat) (l0 : List (S54)) (r : List (List (S54))) (w : World) (hr0 : Kd.C k54 w A0 l0.length l0) (hc0 : l0.length ≤ c0) (h : aumbryref04_Kids.f k l0 = some r) :
 Calls Try.prog 54 #[.slice A0 l0.length c0] w fun e w' => ∃ v0_ : Value, e = .returned (v0_) ∧ Kd.S (Kd.slice 54 k54) 23 w' w.heap.size (fun _ => True) v0_ r ∧ Below w.heap.size w w' := by
 have HR0 := zM hr0
 have HC0 := zM hc0
 clear hr0 hc0
 have HB := zM (Below.refl w.heap.size w)
 have H : (aumbryref04_Kids.l0 k l0 ([] : List (List (S54))) 1) = some r := h
 clear h
 have H' := zM H
 clear H
 go_enter Try.func54, Try.ntmps54
 go_wp2
 go_loopg [3, 4] k (fun kq v3 v4 w' => ∃ (x3_1 : List (List (S54))) (x4_1 : Int), v4 = .int .i64 x4_1 ∧ Aside0 (aumbryref04_Kids.l0 kq l0 x3_1 x4_1 = some r) ∧ Aside0 (kq ≤ k) ∧ Aside0 (Kd.S (Kd.slice 54 k54) 23 w' w.heap.size (fun _ => True) v3 x3_1) ∧ Aside0 (Below w.heap.size w w'))
 case atStart => exact ⟨(([] : List (List (S54)))), (1), zy, H', ⟨Nat.le_refl _⟩, ⟨by first | exact Kd.S_nil _ _ _ _ _ | exact Kd.N_nil _ _ _ _ _ | exact Kd.V_nil _ _ _ _ _ | exact Kd.Q_nil _ _ _ _ _ | exact Kd.R_nil _ _ _ _ _⟩, ⟨zb⟩⟩
 case round =>
  clear H'
  obtain ⟨x3_1, x4_1, rfl, HA, HK1, HO_3, HB⟩ := hrel
  cases gk with
  | zero => exact absurd HA.out (by simp [aumbryref04_Kids.l0])
  | succ k1 =>
   have H := HA.out
   clear HA
   simp only [aumbryref04_Kids.l0] at H
   by_cases c2 : x4_1 < (l0.length : Int)
   ·
    rw [if_pos c2] at H
    have c2b0 : decide (x4_1 < (l0.length : Int)) = true := zQ c2
    clear c2
    replace H := zB H
    obtain ⟨t101, A30, H⟩ := H
    try dsimp only at H
    have A3 := zM A30
    clear A30
    by_cases c4 : 0 ≤ x4_1
    ·
     rw [if_pos c4] at H
     have c4b0 := eq_true c4
     have c4b1 : decide (0 ≤ x4_1) = true := zQ c4
     clear c4
     by_cases c5 : x4_1 ≤ t101
     ·
      rw [if_pos c5] at H
      have c5b0 := eq_true c5
      have c5b1 : decide (x4_1 ≤ t101) = true := zQ c5
      clear c5
      by_cases c6 : t101 ≤ (l0.length : Int)
      ·
       rw [if_pos c6] at H
       have c6b0 := eq_true c6
       have c6b1 : decide (t101 ≤ (l0.length : Int)) = true := zQ c6
       clear c6
       obtain ⟨y102, hy102⟩ : ∃ y_ : List (S54), y_ = ((l0.take (t101 : Int).toNat).drop (x4_1 : Int).toNat) := ⟨_, rfl⟩
       replace H : ((aumbryref04_Copy.f y102).bind fun t106 => (if x3_1.length < 5864062014805 then ((aumbryref04_Behind.f k1 l0 x4_1).bind fun t112 => (aumbryref04_Kids.l0 k1 l0 (x3_1 ++ [t106]) t112)) else (none))) = some r := by first | (rw [hy102]; with_reducible exact H) | (have H2_ := (Option.bind_some _ _).symm.trans H; rw [hy102]; with_reducible exact H2_) | (have H2_ := (Option.bind_some _ _).symm.trans H; with_reducible exact H2_) | with_reducible exact H | (rw [hy102]; exact H) | exact H
       have Ny102 := zM hy102
       clear hy102
       replace H := zB H
       obtain ⟨t106, A70, H⟩ := H
       try dsimp only at H
       have A7 := zM A70
       clear A70
       by_cases c8 : x3_1.length < 5864062014805
       ·
        rw [if_pos c8] at H
        have LMc8 := zM c8
        clear c8
        obtain ⟨y109, hy109⟩ : ∃ y_ : List (List (S54)), y_ = (x3_1 ++ [t106]) := ⟨_, rfl⟩
        replace H : ((aumbryref04_Behind.f k1 l0 x4_1).bind fun t112 => (aumbryref04_Kids.l0 k1 l0 y109 t112)) = some r := by first | (rw [hy109]; with_reducible exact H) | (have H2_ := (Option.bind_some _ _).symm.trans H; rw [hy109]; with_reducible exact H2_) | (have H2_ := (Option.bind_some _ _).symm.trans H; with_reducible exact H2_) | with_reducible exact H | (rw [hy109]; exact H) | exact H
        have Ny109 := zM hy109
        clear hy109
        replace H := zB H
        obtain ⟨t112, A90, H⟩ := H
        try dsimp only at H
        have A9 := zM A90
        clear A90
        have H' := zM H
        clear H
        go_wp2_with (first | ((with_reducible refine gate_callee (f := 65) rfl ?_); refine goesL_ (some 17) rfl rfl Try.func65 (by kernel_rfl) rfl #[.slice A0 l0.length c0, .int .i64 x4_1] rfl zl ?_; (with_reducible refine (aumbryref04_Behind.calls k1 _ _ l0 x4_1 t101 _ ?side1 ?side2 A3.out).mono ?_); (case side1 => exact Kd.C_below HR0.out zb); (case side2 => exact HC0.out); rintro e w' ⟨rfl, ⟨nd, rfl⟩⟩; refine ⟨_, rfl, ?_⟩; have q10 : (t101 : Int) ≤ ((l0.length : Int) : Int) := zT zv; obtain ⟨i010, hi010, _, hsz10, _⟩ := info_parts info54; have hroom10 : l0.length ≤ c0 := HC0.out; have hC10 : Kd.C k54 _ A0 l0.length l0 := HR0.out; have ql10 : (x4_1 : Int) ≤ (t101 : Int) := zT zv; have q010 : (0 : Int) ≤ (x4_1 : Int) := zT zv; have hcut10 := cut_mid (P := Try.prog) 23 54 .i64 .i64 Try.underlying23 hi010 2 hsz10 A0 l0.length c0 x4_1 t101 q010 ql10 q10 hroom10; have hr10 := Kd.C_mid (lo := (x4_1 : Int).toNat) (hi := (t101 : Int).toNat) (c := c0) hC10 (by omega) (by omega) hroom10; obtain ⟨A10, hA10⟩ : ∃ Aq_, Aq_ = (if c0 = (x4_1 : Int).toNat then A0 else (A0 : Option Addr).map (·.add ((x4_1 : Int).toNat * 2))) := ⟨_, rfl⟩; obtain ⟨c10, hc10⟩ : ∃ cq_, cq_ = c0 - (x4_1 : Int).toNat := ⟨_, rfl⟩; have hy10 : y102.length = (t101 : Int).toNat - (x4_1 : Int).toNat := (by rw [Ny102.out, List.length_drop, List.length_take] <;> omega); rw [show ((l0).take (t101 : Int).toNat).drop (x4_1 : Int).toNat = y102 from Ny102.out.symm] at hr10; replace hr10 : Kd.C k54 _ A10 y102.length y102 := (by rw [hA10]; exact hr10); rw [← hy10, ← hA10, ← hc10] at hcut10; have HR105 := zM hr10; have HC105 := zM (show y102.length ≤ c10 from by rw [hy10, hc10]; exact Nat.sub_le_sub_right (Nat.le_trans (by omega) hroom10) _); clear hr10 hC10 hroom10 hi010 hsz10 hc10; have KY10 := zM hy10; have KA10 := zM hA10; clear hy10 hA10; replace q10 := eq_true q10) | ((with_reducible refine gate_callee (f := 13) rfl ?_); refine goesL_ (some 19) rfl rfl Try.func13 (by kernel_rfl) rfl #[.slice A10 y102.length c10] rfl zl ?_; (with_reducible refine (aumbryref04_Copy.calls _ _ y102 t106 _ ?side1 ?side2 A7.out).mono ?_); (case side1 => exact Kd.C_below (Kd.C_below HR105.out zb) zg); (case side2 => exact HC105.out); rintro e w11 ⟨v107, rfl, ho0, hb⟩; refine ⟨_, rfl, ?_⟩; replace HO_3 := zM (Kd.S_elder' (Kd.S_below HO_3.out zg) (Kd.R_base ho0) hb); have HO108 := zM (Kd.R_lower ho0 (below_size zb)); replace HB := zM (below_step zb hb); (try clear hb); (try clear ho0); obtain ⟨Ao13, co13, eo13⟩ := Kd.R_slice HO108.out; subst eo13) | ((with_reducible refine gate_builtin (b := .append) (xs := #[.tmp 12, .tmp 20]) rfl ?_); at_builtin; refine Kd.S_append (Kd.slice 54 k54) (w0 := w) w.heap.size rfl (.tmp 12) (.tmp 20) 25 23 (.slice none 0 0) 24 rfl Try.underlying25 info23 rfl (by decide) (by omega) u3 x3_1 t106 [.slice Ao13 t106.length co13] (fun _ => True) (fun k_ => some k_ = (.slice Ao13 t106.length co13 : Value).ownBlock) rfl rfl ?aP (fun k_ hk_ => ((Kd.R_mono (ok' := fun k_ => ((fun _ => True)) k_ ∧ some k_ ≠ (u3 : Value).ownBlock) (Kd.R_apart' (HO108.out) (Kd.S_typed HO_3.out) (by decide)) (fun k_ hk => ⟨trivial, hk.2⟩))).1 k_ hk_.symm) ?aF ?aO ?aB ?aS ?aL ?_; (case aP => exact Kd.M_row (Kd.R_mono (Kd.R_tight rfl (Kd.R_mono (ok' := fun k_ => ((fun _ => True)) k_ ∧ some k_ ≠ (u3 : Value).ownBlock) (Kd.R_apart' (HO108.out) (Kd.S_typed HO_3.out) (by decide)) (fun k_ hk => ⟨trivial, hk.2⟩))) (fun _ h_ => h_))); (case aB => exact zb); (case aF => exact (fun _ _ => trivial)); (case aO => exact (by (with_reducible repeat (first | apply Kd.S_alloc | apply Kd.S_drewN | apply Kd.S_drew)); exact Kd.S_mono HO_3.out (fun k_ hk => ⟨trivial, fun e_ => hk.2 e_⟩))); (case aS => exact (below_size zb)); (case aL => have := LMc8.out; omega); intro v110 w12 ho hb hg hat; rw [← Ny109.out] at ho; replace HB := zM (hb); have HO111 := zM (ho); clear HO108 HO_3; clear ho hb hg hat) | ((with_reducible refine gate_callee (f := 65) rfl ?_); refine goesL_ (some 11) rfl rfl Try.func65 (by kernel_rfl) rfl #[.slice A0 l0.length c0, .int .i64 x4_1] rfl zl ?_; (with_reducible refine (aumbryref04_Behind.calls k1 _ _ l0 x4_1 t112 _ ?side1 ?side2 A9.out).mono ?_); (case side1 => exact Kd.C_below HR0.out zb); (case side2 => exact HC0.out); rintro e w' ⟨rfl, ⟨nd, rfl⟩⟩; refine ⟨_, rfl, ?_⟩))
        go_roundg k1
        case measure => have := HK1.out; omega
        case rel => exact ⟨(y109), (t112), zy, H', ⟨by have := HK1.out; omega⟩, ⟨Kd.S_below HO111.out zg⟩, ⟨zb⟩⟩
       ·
        rw [if_neg c8] at H
        exact absurd H (by simp)
      ·
       rw [if_neg c6] at H
       exact absurd H (by simp)
     ·
      rw [if_neg c5] at H
      exact absurd H (by simp)
    ·
     rw [if_neg c4] at H
     exact absurd H (by simp)
   ·
    rw [if_neg c2] at H
    have c2b0 : decide (x4_1 < (l0.length : Int)) = false := zR c2
    clear c2
    obtain rfl := zS H
    go_wp2
    go_ret
    exact ⟨_, zw, Kd.S_below HO_3.out zg, zb⟩


-- ==== PF56

/-! ### aumbryref05_Var: function 56 -/
def aumbryref05_Var.f (k : Nat) (l0 : List (S54)) : Option (Bool) := if (l0.length : Int) = 1 then (if 0 < (l0.length : Int) then ((aumbryref03_Kind.f k ((rd_T54 l0 0).f0)).bind fun t102 => (some (t102 == 2))) else (none)) else (some false)
theorem aumbryref05_Var.calls (k : Nat) (A0 : Option Addr) (c0 : Nat) (l0 : List (S54)) (r : Bool) (w : World) (hr0 : Kd.C k54 w A0 l0.length l0) (hc0 : l0.length ≤ c0) (h : aumbryref05_Var.f k l0 = some r) :
 Calls Try.prog 56 #[.slice A0 l0.length c0] w fun e w' => e = .returned (.bool r) ∧ Drawn0 w w' := by
 have HR0 := zM hr0
 have HC0 := zM hc0
 clear hr0 hc0
 have H : (if (l0.length : Int) = 1 then (if 0 < (l0.length : Int) then ((aumbryref03_Kind.f k ((rd_T54 l0 0).f0)).bind fun t102 => (some (t102 == 2))) else (none)) else (some false)) = some r := h
 clear h
 by_cases c2 : (l0.length : Int) = 1
 ·
  rw [if_pos c2] at H
  have c2b0 : ((l0.length : Int) == 1) = true := zG c2
  have c2b1 : ((l0.length : Int) != 1) = false := zH c2
  clear c2
  by_cases c3 : 0 < (l0.length : Int)
  ·
   rw [if_pos c3] at H
   have c3b0 : decide (0 < (l0.length : Int)) = true := zQ c3
   have c3b1 : decide (0 < l0.length) = true := zQ (by omega)
   clear c3
   replace H := zB H
   obtain ⟨t102, A40, H⟩ := H
   try dsimp only at H
   have A4 := zM A40
   clear A40
   obtain rfl := zS H
   have p101 : 0 ≤ (0 : Int) := (by omega)
   have q101 : 0 < (l0.length : Int) := zT zv
   obtain ⟨ad101, e101, hx101_0, hx101_1⟩ := at_T54 HR0.out 0 p101 q101
   cases e101
   have qi101 : (0 < l0.length) = True := eq_true (by omega)
   (try rw [show ((0 : Int)).toNat = 0 from rfl] at hx101_0)
   (try rw [show 0 * 2 = 0 from rfl] at hx101_0)
   (try rw [Addr.add_zero'] at hx101_0)
   (try rw [show ((0 : Int)).toNat = 0 from rfl] at hx101_1)
   (try rw [show 0 * 2 = 0 from rfl] at hx101_1)
   (try rw [Addr.add_zero'] at hx101_1)
   replace p101 := eq_true p101
   replace q101 := eq_true q101
   go_enter Try.func56, Try.ntmps56
   go_wp2_with (first | (go_at_call 45; (with_reducible refine (aumbryref03_Kind.calls k ((rd_T54 l0 0).f0) t102 _ A4.out).mono ?_); rintro e w' ⟨rfl, ⟨nd, rfl⟩⟩))
   go_ret
   exact ⟨zy, zd⟩
  ·
   rw [if_neg c3] at H
   exact absurd H (by simp)
 ·
  rw [if_neg c2] at H
  have c2b0 : ((l0.length : Int) == 1) = false := zE c2
  have c2b1 : ((l0.length : Int) != 1) = true := zF c2
  obtain rfl := zS H
  go_enter Try.func56, Try.ntmps56
  go_wp2
  go_ret
  exact ⟨zy, zd⟩

end Go.Proofs.Ytdlkhpfgkghhmaa.P
