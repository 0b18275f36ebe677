/- CommandReads: the law answers true at every input that the given row speaks of. Conditions: those of the given row, none besides. (Part 5 of 5; written by programs of this session, which drive the kit's print, and by hand.) -/
import Derived.Deep.RegionHeld3
import Derived.KernelRfl
import Derived.Lib.ParseIntBCases
import Derived.Lib.ItoaMem
import Derived.Test.YtmlddeogmckgmaaGreatDoorCards
import Derived.Test.YtmlddeogmckgmaaGreatDoorTie
import Derived.Deep.DeepWitnessRowRef
import Derived.Lay
import Derived.SevenTiedAt
import Derived.Test.YtmlddeogmckgmaaGreatDoorRows
import Derived.WalkKit
import Derived.ProofKit
import Derived.OpenShut
import Derived.ShutString
import Derived.ChangeOld
import Derived.Below
import Derived.Carry
import Derived.SizedLaws
import Derived.Test.YtmlddeogmckgmaaGreatDoorZCommandReads0
import Derived.Test.YtmlddeogmckgmaaGreatDoorZCommandReads1
import Derived.Test.YtmlddeogmckgmaaGreatDoorZCommandReads2
import Derived.Test.YtmlddeogmckgmaaGreatDoorZCommandReads3
set_option maxHeartbeats 8000000
set_option maxRecDepth 100000
set_option linter.unusedVariables false
set_option linter.unusedSimpArgs false
-- ==== Cr3
/- aumbryref22.Parse, by hand. -/
namespace Go.Proofs.YtmlddeogmckgmaaGreatDoor.P
open Go.RowKit Go.Proofs.YtmlddeogmckgmaaGreatDoorW.PrintWords Go.Proofs.YtmlddeogmckgmaaGreatDoorW.PrintLast Go.Proofs.YtmlddeogmckgmaaGreatDoorW.PrintMore
def bareL : List ByteArray := [⟨#[110, 97, 109, 101, 115]⟩, ⟨#[115, 121, 109, 98, 111, 108, 115]⟩, ⟨#[114, 117, 108, 101, 115]⟩, ⟨#[109, 101, 109, 111, 115]⟩, ⟨#[106, 111, 98, 115]⟩, ⟨#[118, 101, 114, 115, 105, 111, 110]⟩]
def bareK : List Int := [5, 6, 9, 12, 17, 19]
def bareF (a : ByteArray) : List (ByteArray × Int) → Dr × Int
 | [] => (dr0 0, 12)
 | p :: ps => if a.toList = p.1.toList then (dr0 p.2, 0) else bareF a ps
abbrev rdW (l : List ByteArray) (i : Int) : ByteArray := rdOf ByteArray.empty l i
def ruleR (k : Nat) (a b : ByteArray) : Option (Dr × Int) := (aumbryref06_Parse.f k a b).bind fun r => some ({ dr0 7 with rid := r.1, lf := r.2.1, rt := r.2.2.1 }, r.2.2.2)
def finR (p : Dr × Int) : Option (Dr × Int) := if p.2 = 0 then some (p.1, 0) else some (dr0 0, p.2)
def refB (k : Nat) (l : List ByteArray) : Option (Dr × Int) :=
 if (l.length : Int) = 1 then some (bareF (rdW l 0) (bareL.zip bareK))
 else if (l.length : Int) = 2 then (oneR k (rdW l 0) (rdW l 1)).bind finR
 else if (l.length : Int) = 3 then (twoR k (rdW l 0) (rdW l 1) (rdW l 2)).bind finR
 else if (l.length : Int) = 4 then (if (rdW l 0).toList = [114, 117, 108, 101] then (if (rdW l 2).toList = [45, 62] then (ruleR k (rdW l 1) (rdW l 3)).bind finR else some (dr0 0, 12)) else some (dr0 0, 12))
 else some (dr0 0, 12)
def refF (k : Nat) (s : ByteArray) : Option (Dr × Int) := if (s.size : Int) > 256 then some (dr0 0, 2) else (aumbryref03_Words.f k s).bind (refB k)
theorem bareF_step (a : ByteArray) (i : Int) (h0 : 0 ≤ i) (h1 : i < 6) : bareF a ((bareL.zip bareK).drop i.toNat) = if a.toList = (rdOf ByteArray.empty bareL i).toList then (dr0 (rd bareK i), 0) else bareF a ((bareL.zip bareK).drop (i + 1).toNat) := by
 have h : i = 0 ∨ i = 1 ∨ i = 2 ∨ i = 3 ∨ i = 4 ∨ i = 5 := by omega
 rcases h with rfl | rfl | rfl | rfl | rfl | rfl <;> rfl
theorem cmdV_kd (B : Nat) (w : World) (kd : Int) : CmdV B w (.agg (cmdCs (dr0 kd) (.slice none 0 0) (.slice none 0 0) (.slice none 0 0))) (dr0 kd) := ⟨_, _, _, rfl, Kd.R_nil _ _ _ _ _, Kd.R_nil _ _ _ _ _, Kd.R_nil _ _ _ _ _⟩
theorem CmV.of {W : World} {B d : Nat} {x y : Dr} {v5 v7 v8 u5 u7 u8 : Value} (hb : W.heap[d]? = some (.cells (cmdCs y u5 u7 u8) 28 (0, 0))) (hB : d + 1 ≤ B) (h5 : CmR W B v7 v8 v5 x.tm) (h7 : CmR W B v5 v8 v7 x.lf) (h8 : CmR W B v5 v7 v8 x.rt) :
 CmV (((((((((W.setCell ⟨d, 0, none⟩ (.int .i64 x.kd)).setCell ⟨d, 1, none⟩ (.string x.nm)).setCell ⟨d, 2, none⟩ (.int .i64 x.n)).setCell ⟨d, 3, none⟩ (.int .i64 x.id)).setCell ⟨d, 4, none⟩ (.bool x.on)).setCell ⟨d, 5, none⟩ (v5)).setCell ⟨d, 6, none⟩ (.int .i64 x.rid)).setCell ⟨d, 7, none⟩ (v7)).setCell ⟨d, 8, none⟩ (v8)) d x v5 v7 v8 :=
 have hoff := fun (k : Nat) (hk : d + 1 ≤ k) (_ : k < W.heap.size) => set9_off (W := W) (g := d) (.int .i64 x.kd) (.string x.nm) (.int .i64 x.n) (.int .i64 x.id) (.bool x.on) v5 (.int .i64 x.rid) v7 v8 k (by omega)
 ⟨set9_blk hb _ _ _ _ _ _ _ _ _, CmR.step (Kd.R_lower h5 hB) hoff, CmR.step (Kd.R_lower h7 hB) hoff, CmR.step (Kd.R_lower h8 hB) hoff⟩
theorem keepB {W W' : World} {a : Addr} {v : Value} (h : W.cell? a = some v) (hb : Below W.heap.size W W') : W'.cell? a = some v := (cell_heap (hb.block _ (World.block_lt_of_cell? _ _ h))).trans h
theorem keep3 {W : World} {g : Nat} {a : Addr} {v : Value} (b0 b1 b2 : Value) (h : W.cell? a = some v) (hd : a.block ≠ g) : (((W.setCell ⟨g, 0, none⟩ b0).setCell ⟨g, 1, none⟩ b1).setCell ⟨g, 2, none⟩ b2).cell? a = some v :=
 (cell_heap ((Below.heap_setCell _ _ _ _ hd).trans ((Below.heap_setCell _ _ _ _ hd).trans (Below.heap_setCell _ _ _ _ hd)))).trans h
theorem set3_blk {W : World} {g t : Nat} {a0 a1 a2 : Value} (h : W.heap[g]? = some (.cells #[a0, a1, a2] t (0, 0))) (b0 b1 b2 : Value) : (((W.setCell ⟨g, 0, none⟩ b0).setCell ⟨g, 1, none⟩ b1).setCell ⟨g, 2, none⟩ b2).heap[g]? = some (.cells #[b0, b1, b2] t (0, 0)) := by
 refine blk_put (cs := #[b0, b1, a2]) ?_ 2 _ rfl
 refine blk_put (cs := #[b0, a1, a2]) ?_ 1 _ rfl
 exact blk_put h 0 _ rfl
theorem R_set3 {W : World} {g base : Nat} {ok : Nat → Prop} {v : Value} {xs : List CmC} (b0 b1 b2 : Value) (h : Kd.R k48 48 W base ok v xs) (hg : g < base) : Kd.R k48 48 (((W.setCell ⟨g, 0, none⟩ b0).setCell ⟨g, 1, none⟩ b1).setCell ⟨g, 2, none⟩ b2) base ok v xs :=
 Kd.R_mono (Kd.R_step (Kd.R_bound h) (fun k ho hlt => (Below.heap_setCell _ _ _ k (by have := ho.2.1; simp only; omega)).trans ((Below.heap_setCell _ _ _ k (by have := ho.2.1; simp only; omega)).trans (Below.heap_setCell _ _ _ k (by have := ho.2.1; simp only; omega))))) (fun k hk => hk.1)
theorem keep9 {W : World} {g : Nat} {a : Addr} {v : Value} (b0 b1 b2 b3 b4 b5 b6 b7 b8 : Value) (h : W.cell? a = some v) (hd : a.block ≠ g) : (((((((((W.setCell ⟨g, 0, none⟩ (b0)).setCell ⟨g, 1, none⟩ (b1)).setCell ⟨g, 2, none⟩ (b2)).setCell ⟨g, 3, none⟩ (b3)).setCell ⟨g, 4, none⟩ (b4)).setCell ⟨g, 5, none⟩ (b5)).setCell ⟨g, 6, none⟩ (b6)).setCell ⟨g, 7, none⟩ (b7)).setCell ⟨g, 8, none⟩ (b8)).cell? a = some v := (cell_heap (set9_off b0 b1 b2 b3 b4 b5 b6 b7 b8 a.block hd)).trans h
theorem refP_calls {k : Nat} {s : ByteArray} {x : Dr} {e : Int} {W : World} (h : refF k s = some (x, e)) :
 Calls Tryz.prog 10 #[.string s] W fun r w' => ∃ v, r = .returned (.tuple #[v, .int .i64 e]) ∧ CmdV W.heap.size w' v x ∧ Below W.heap.size W w' := by
 obtain ⟨br, hbr⟩ : ∃ n, n = W.heap.size := ⟨_, rfl⟩
 have HLE := Aside0.mk (Nat.le_of_eq hbr.symm)
 have HB := Aside0.mk (below_alloc (Below.refl W.heap.size W) (.cells cmdZ 28))
 have HR := Aside0.mk (heap_alloc_new W (.cells cmdZ 28))
 have HH := Aside0.mk h
 clear h
 go_enter Tryz.func10, Tryz.ntmps10
 go_upto_region 1 with fail
 generalize (W.alloc (.cells cmdZ 28)) = W0 at HR HB ⊢
 rw [← hbr] at HR ⊢
 clear hbr
 have h1 := HH.out
 unfold refF at h1
 clear HH
 by_cases c1 : (s.size : Int) > 256
 ·
  have d1 : decide ((s.size : Int) > 256) = true := decide_eq_true c1
  have d2 : decide (256 < s.size) = true := decide_eq_true (by omega)
  rw [if_pos c1] at h1
  obtain ⟨rfl, rfl⟩ := Prod.mk.inj (Option.some.inj h1)
  clear c1 h1
  obtain ⟨y0, y1, y2, y3⟩ := zc4 HR.out; have y4 := (blk_cell HR.out 4).trans rfl; have y5 := (blk_cell HR.out 5).trans rfl; have y6 := (blk_cell HR.out 6).trans rfl; have y7 := (blk_cell HR.out 7).trans rfl; have y8 := (blk_cell HR.out 8).trans rfl
  obtain ⟨g0, g1, g2, g3⟩ := zf4 HR.out; have g4 := blk_frozen HR.out 4; have g5 := blk_frozen HR.out 5; have g6 := blk_frozen HR.out 6; have g7 := blk_frozen HR.out 7; have g8 := blk_frozen HR.out 8
  go_wp2
  refine bodyPost_ret (results_ct rfl _ _ br 28 _ (0, 0) _ rfl (set9_blk HR.out _ _ _ _ _ _ _ _ _) Tryz.underlying28 rfl (by kernel_rfl)) rfl ?_
  exact ⟨_, rfl, cmdV_zero _ _, set9_below HB.out HLE.out _ _ _ _ _ _ _ _ _⟩
 rw [if_neg c1] at h1
 have d1 : decide ((s.size : Int) > 256) = false := decide_eq_false c1
 have d2 : decide (256 < s.size) = false := decide_eq_false (by omega)
 obtain ⟨l, hl, h1⟩ := bindS h1
 have HH := Aside0.mk h1
 have C1 := aumbryref03_Words.calls k s l W0 hl
 clear c1 h1 hl
 go_upto_region 4 with (first | (go_at_call 15; (with_reducible refine C1.mono ?_); rintro ez W1 ⟨vl, rfl, hR_, hb_⟩; obtain ⟨Al, cl, el, hcl, hCl⟩ := Kd.R_reads hR_; subst el; have HCL := Aside0.mk hCl; have HCC := Aside0.mk hcl; have HS := Aside0.mk hb_; clear hR_ hb_ hCl hcl))
 clear C1 d1 d2
 have n1_ := Aside0.mk (blk_below HR.out HS.out)
 have n2_ := Aside0.mk (below_step HB.out HS.out)
 clear HR; have HR := n1_; clear n1_
 clear HB; have HB := n2_; clear n2_
 clear HS
 have HNE := Aside0.mk (Nat.ne_of_lt (blk_lt HR.out))
 have HLB := Aside0.mk (show br < W1.heap.size + 1 ∧ W.heap.size ≤ W1.heap.size + 1 ∧ W.heap.size ≤ W1.heap.size from ⟨by have := blk_lt HR.out; omega, by have := blk_lt HR.out; have := HLE.out; omega, by have := blk_lt HR.out; have := HLE.out; omega⟩)
 have HS := Aside0.mk (below_alloc (Below.refl W1.heap.size W1) (.cells cmdZ 28))
 have HC := Aside0.mk (CmV.fresh (heap_alloc_new W1 (.cells cmdZ 28)))
 have HN := heap_alloc_new W1 (.cells cmdZ 28)
 obtain ⟨x0, x1, x2, x3, f0, f1, f2, f3⟩ := zcf HN; have x4 := (blk_cell HN 4).trans rfl; have f4 := blk_frozen HN 4; have x5 := (blk_cell HN 5).trans rfl; have f5 := blk_frozen HN 5; have x6 := (blk_cell HN 6).trans rfl; have f6 := blk_frozen HN 6; have x7 := (blk_cell HN 7).trans rfl; have f7 := blk_frozen HN 7; have x8 := (blk_cell HN 8).trans rfl; have f8 := blk_frozen HN 8
 go_upto_region 5 with fail
 clear HN x0 f0 x1 f1 x2 f2 x3 f3 x4 f4 x5 f5 x6 f6 x7 f7 x8 f8
 change Code.wp _ _ _ _ (W1.alloc (.cells cmdZ 28))
 have HCB := Aside0.mk (show ∀ ad, Al = some ad → 0 < l.length → ad.block ≠ W1.heap.size from fun ad ea hp => by obtain ⟨ad', ea', z⟩ := Kd.at_string HCL.out 0 (by omega) (by omega); rw [ea] at ea'; obtain rfl := Option.some.inj ea'; have h_ := World.block_lt_of_cell? _ _ z; rw [show ((0 : Int)).toNat = 0 from rfl, Addr.add_zero'] at h_; omega)
 generalize (W1.alloc (.cells cmdZ 28)) = W2 at HC HS ⊢
 obtain ⟨bc, hbc⟩ : ∃ n, n = W1.heap.size := ⟨_, rfl⟩
 rw [← hbc] at HC HNE HLB HCB ⊢
 have n1_ := Aside0.mk (blk_below HR.out HS.out)
 have n2_ := Aside0.mk (below_step HB.out HS.out)
 clear HR; have HR := n1_; clear n1_
 clear HB; have HB := n2_; clear n2_
 have n0_ := Aside0.mk (Kd.C_below HCL.out HS.out)
 clear HCL
 have HCL := n0_
 clear n0_
 clear HS hbc
 have h1 := HH.out
 unfold refB at h1
 clear HH
 go_upto_region 6 with fail
 by_cases c : (l.length : Int) = 1
 ·
  rw [if_pos c] at h1
  have q1 : ((l.length : Int) == 1) = true := beq_iff_eq.mpr c
  have q2 : ((l.length : Int) == 2) = false := beq_eq_false_iff_ne.mpr (by omega)
  have q3 : ((l.length : Int) == 3) = false := beq_eq_false_iff_ne.mpr (by omega)
  have q4 : ((l.length : Int) == 4) = false := beq_eq_false_iff_ne.mpr (by omega)
  have HH := Aside0.mk (Option.some.inj h1)
  clear h1
  obtain ⟨ad0, ea0, z0⟩ := Kd.at_string HCL.out 0 (by omega) (by omega)
  subst ea0
  rw [show ((0 : Int)).toNat = 0 from rfl] at z0
  rw [Addr.add_zero'] at z0
  have qi0 : (0 < l.length) = True := eq_true (by omega)
  have qj0 : (0 < (l.length : Int)) = True := eq_true (by omega)
  have HZ0 := Aside0.mk z0
  clear z0 c
  go_upto_region 9 with (first | ((with_reducible refine gate_dst (N := 22) rfl ?_); refine Kd.R_lit Kd.string _ 9 ?hg (N := 22) ?hd (xs := [(⟨#[110, 97, 109, 101, 115]⟩ : ByteArray), (⟨#[115, 121, 109, 98, 111, 108, 115]⟩ : ByteArray), (⟨#[114, 117, 108, 101, 115]⟩ : ByteArray), (⟨#[109, 101, 109, 111, 115]⟩ : ByteArray), (⟨#[106, 111, 98, 115]⟩ : ByteArray), (⟨#[118, 101, 114, 115, 105, 111, 110]⟩ : ByteArray)]) (inner := [.string (⟨#[110, 97, 109, 101, 115]⟩ : ByteArray), .string (⟨#[115, 121, 109, 98, 111, 108, 115]⟩ : ByteArray), .string (⟨#[114, 117, 108, 101, 115]⟩ : ByteArray), .string (⟨#[109, 101, 109, 111, 115]⟩ : ByteArray), .string (⟨#[106, 111, 98, 115]⟩ : ByteArray), .string (⟨#[118, 101, 114, 115, 105, 111, 110]⟩ : ByteArray)]) (ok := fun _ => True) (okp := fun _ => True) ?hr ?hp (fun _ hk => hk) trivial (Below.refl _ _) (Nat.le_refl _) (by simp) ?_; (case hd => rfl); (case hg => rfl); (case hr => first | (go_simp; done) | (go_simp; rfl)); (case hp => exact (Reps.one (show Kd.M Kd.string _ _ _ (⟨#[110, 97, 109, 101, 115]⟩ : ByteArray) [.string (⟨#[110, 97, 109, 101, 115]⟩ : ByteArray)] from rfl) (Reps.one (show Kd.M Kd.string _ _ _ (⟨#[115, 121, 109, 98, 111, 108, 115]⟩ : ByteArray) [.string (⟨#[115, 121, 109, 98, 111, 108, 115]⟩ : ByteArray)] from rfl) (Reps.one (show Kd.M Kd.string _ _ _ (⟨#[114, 117, 108, 101, 115]⟩ : ByteArray) [.string (⟨#[114, 117, 108, 101, 115]⟩ : ByteArray)] from rfl) (Reps.one (show Kd.M Kd.string _ _ _ (⟨#[109, 101, 109, 111, 115]⟩ : ByteArray) [.string (⟨#[109, 101, 109, 111, 115]⟩ : ByteArray)] from rfl) (Reps.one (show Kd.M Kd.string _ _ _ (⟨#[106, 111, 98, 115]⟩ : ByteArray) [.string (⟨#[106, 111, 98, 115]⟩ : ByteArray)] from rfl) (Reps.one (show Kd.M Kd.string _ _ _ (⟨#[118, 101, 114, 115, 105, 111, 110]⟩ : ByteArray) [.string (⟨#[118, 101, 114, 115, 105, 111, 110]⟩ : ByteArray)] from rfl) (Reps.none _ _)))))))); intro v0 w2_ ho_ hb_ hg_ hnew_; obtain ⟨An, cn, en, hcn, hCn⟩ := Kd.R_reads ho_; subst en; have HNM := Aside0.mk (show Kd.C Kd.string _ An 6 bareL from hCn); have n1_ := Aside0.mk (blk_below HR.out hb_); have n2_ := Aside0.mk (below_step HB.out hb_); have n3_ := Aside0.mk (HC.out.below hb_); have n4_ := Aside0.mk (keepB HZ0.out hb_); clear HR HB HC HZ0; have HR := n1_; have HB := n2_; have HC := n3_; have HZ0 := n4_; clear n1_ n2_ n3_ n4_; clear hb_ hg_ hnew_ ho_ hcn hCn) | ((with_reducible refine gate_dst (N := 23) rfl ?_); refine Kd.R_lit (Kd.int .i64) _ 3 ?hg (N := 23) ?hd (xs := [5, 6, 9, 12, 17, 19]) (inner := [.int .i64 5, .int .i64 6, .int .i64 9, .int .i64 12, .int .i64 17, .int .i64 19]) (ok := fun _ => True) (okp := fun _ => True) ?hr ?hp (fun _ hk => hk) trivial (Below.refl _ _) (Nat.le_refl _) (by simp) ?_; (case hd => rfl); (case hg => rfl); (case hr => first | (go_simp; done) | (go_simp; rfl)); (case hp => exact (Reps.one (show Kd.M (Kd.int .i64) _ _ _ 5 [.int .i64 5] from rfl) (Reps.one (show Kd.M (Kd.int .i64) _ _ _ 6 [.int .i64 6] from rfl) (Reps.one (show Kd.M (Kd.int .i64) _ _ _ 9 [.int .i64 9] from rfl) (Reps.one (show Kd.M (Kd.int .i64) _ _ _ 12 [.int .i64 12] from rfl) (Reps.one (show Kd.M (Kd.int .i64) _ _ _ 17 [.int .i64 17] from rfl) (Reps.one (show Kd.M (Kd.int .i64) _ _ _ 19 [.int .i64 19] from rfl) (Reps.none _ _)))))))); intro v0 w2_ ho_ hb_ hg_ hnew_; obtain ⟨Ak, ck, ek, hck, hCk⟩ := Kd.R_reads ho_; subst ek; have HKM := Aside0.mk (show Kd.C (Kd.int .i64) _ Ak 6 bareK from hCk); have n0_ := Aside0.mk (Kd.C_below HNM.out hb_); clear HNM; have HNM := n0_; clear n0_; have n1_ := Aside0.mk (blk_below HR.out hb_); have n2_ := Aside0.mk (below_step HB.out hb_); have n3_ := Aside0.mk (HC.out.below hb_); have n4_ := Aside0.mk (keepB HZ0.out hb_); clear HR HB HC HZ0; have HR := n1_; have HB := n2_; have HC := n3_; have HZ0 := n4_; clear n1_ n2_ n3_ n4_; clear hb_ hg_ hnew_ ho_ hck hCk))
  skip
  go_wp2
  go_loopg [26] 6 (fun kq v26 w' => ∃ i : Int, v26 = .int .i64 i ∧ Aside0 (0 ≤ i ∧ i + kq = 6) ∧ Aside0 (bareF (rdW l 0) ((bareL.zip bareK).drop i.toNat) = (x, e)) ∧ Aside0 (Below w2_.heap.size w2_ w'))
  case atStart => exact ⟨0, rfl, ⟨by omega⟩, HH, ⟨Below.refl _ _⟩⟩
  case round =>
   obtain ⟨i, rfl, HI, HL, HX⟩ := hrel
   have n1_ := Aside0.mk (blk_below HR.out HX.out)
   have n2_ := Aside0.mk (below_step HB.out HX.out)
   clear HR HB
   have HR := n1_
   have HB := n2_
   have z0 := keepB HZ0.out HX.out
   clear n1_ n2_
   cases gk with
   | zero =>
    have hi : i = 6 := by have := HI.out; omega
    subst hi
    have hl := HL.out
    obtain ⟨rfl, rfl⟩ := Prod.mk.inj (show ((dr0 0, 12) : Dr × Int) = (x, e) from hl)
    have p3 : decide ((6 : Int) < 6) = false := decide_eq_false (by omega)
    clear hl z0
    obtain ⟨y0, y1, y2, y3⟩ := zc4 HR.out; have y4 := (blk_cell HR.out 4).trans rfl; have y5 := (blk_cell HR.out 5).trans rfl; have y6 := (blk_cell HR.out 6).trans rfl; have y7 := (blk_cell HR.out 7).trans rfl; have y8 := (blk_cell HR.out 8).trans rfl
    obtain ⟨g0, g1, g2, g3⟩ := zf4 HR.out; have g4 := blk_frozen HR.out 4; have g5 := blk_frozen HR.out 5; have g6 := blk_frozen HR.out 6; have g7 := blk_frozen HR.out 7; have g8 := blk_frozen HR.out 8
    go_wp2
    refine bodyPost_ret (results_ct rfl _ _ br 28 _ (0, 0) _ rfl (set9_blk HR.out _ _ _ _ _ _ _ _ _) Tryz.underlying28 rfl (by kernel_rfl)) rfl ?_
    exact ⟨_, rfl, cmdV_zero _ _, set9_below HB.out HLE.out _ _ _ _ _ _ _ _ _⟩
   | succ k1 =>
    have hi : 0 ≤ i ∧ i < 6 := by have := HI.out; omega
    have p1 : (0 ≤ i) = True := eq_true hi.1
    have p2 : (i < 6) = True := eq_true hi.2
    have p3 : decide (i < 6) = true := decide_eq_true hi.2
    obtain ⟨an, en, z1⟩ := Kd.at_string (Kd.C_below HNM.out HX.out) i hi.1 hi.2
    subst en
    obtain ⟨ak, ek, z2⟩ := Kd.at_int (Kd.C_below HKM.out HX.out) i hi.1 hi.2
    subst ek
    have hl := HL.out
    rw [bareF_step _ i hi.1 hi.2] at hl
    have HZ2 := Aside0.mk z2
    clear z2 hi HL
    by_cases c : (rdOf ByteArray.empty l 0).toList = (rdOf ByteArray.empty bareL i).toList
    ·
     have g1 : ((rdOf ByteArray.empty l 0).toList == (rdOf ByteArray.empty bareL i).toList) = true := beq_iff_eq.mpr c
     rw [if_pos c] at hl
     obtain ⟨rfl, rfl⟩ := Prod.mk.inj hl
     clear hl c
     go_wp2
     go_quiet (fail)
     have z2 := HZ2.out
     skip
     obtain ⟨y0, y1, y2, y3⟩ := zc4 HR.out; have y4 := (blk_cell HR.out 4).trans rfl; have y5 := (blk_cell HR.out 5).trans rfl; have y6 := (blk_cell HR.out 6).trans rfl; have y7 := (blk_cell HR.out 7).trans rfl; have y8 := (blk_cell HR.out 8).trans rfl
     obtain ⟨g0, g1, g2, g3⟩ := zf4 HR.out; have g4 := blk_frozen HR.out 4; have g5 := blk_frozen HR.out 5; have g6 := blk_frozen HR.out 6; have g7 := blk_frozen HR.out 7; have g8 := blk_frozen HR.out 8
     go_wp2
     refine bodyPost_ret (results_ct rfl _ _ br 28 _ (0, 0) _ rfl (set9_blk HR.out _ _ _ _ _ _ _ _ _) Tryz.underlying28 rfl (by kernel_rfl)) rfl ?_
     exact ⟨_, rfl, cmdV_kd _ _ _, set9_below (pw_below_drewN HB.out _) HLE.out _ _ _ _ _ _ _ _ _⟩
    ·
     have g1 : ((rdOf ByteArray.empty l 0).toList == (rdOf ByteArray.empty bareL i).toList) = false := beq_eq_false_iff_ne.mpr c
     rw [if_neg c] at hl
     have HL2 := Aside0.mk hl
     clear hl c
     go_wp2
     go_quiet (fail)
     go_wp2
     go_roundg k1
     case measure => omega
     case rel => exact ⟨i + 1, by have e_ : wrap64 (i + 1) = i + 1 := (by have := HI.out; unfold wrap64; omega); first | rfl | rw [e_] | (simp [e_]; done), ⟨by have := HI.out; omega⟩, HL2, ⟨pw_below_drewN HX.out _⟩⟩
 rw [if_neg c] at h1
 have n0 := c
 clear c
 by_cases c : (l.length : Int) = 2
 ·
  rw [if_pos c] at h1
  have q1 : ((l.length : Int) == 1) = false := beq_eq_false_iff_ne.mpr (by omega)
  have q2 : ((l.length : Int) == 2) = true := beq_iff_eq.mpr c
  have q3 : ((l.length : Int) == 3) = false := beq_eq_false_iff_ne.mpr (by omega)
  have q4 : ((l.length : Int) == 4) = false := beq_eq_false_iff_ne.mpr (by omega)
  obtain ⟨⟨p1, p2⟩, hp, h1⟩ := bindS h1
  have HP := Aside0.mk hp
  have HH := Aside0.mk h1
  clear h1 hp n0
  obtain ⟨ad0, ea0, z0⟩ := Kd.at_string HCL.out 0 (by omega) (by omega)
  subst ea0
  rw [show ((0 : Int)).toNat = 0 from rfl] at z0
  rw [Addr.add_zero'] at z0
  have qi0 : (0 < l.length) = True := eq_true (by omega)
  have qj0 : (0 < (l.length : Int)) = True := eq_true (by omega)
  obtain ⟨ad1, ea1, z1⟩ := Kd.at_string HCL.out 1 (by omega) (by omega)
  obtain rfl : ad0 = ad1 := by injection ea1
  simp only [show (1 : Int).toNat = 1 from rfl, Nat.reduceMul, Nat.reduceEqDiff, Go.Addr.add, ↓reduceIte] at z1
  have qi1 : (1 < l.length) = True := eq_true (by omega)
  have qj1 : (1 < (l.length : Int)) = True := eq_true (by omega)
  clear c
  go_upto_region 16 with fail
  have HZB := Aside0.mk (show ad0.block ≠ bc from HCB.out ad0 rfl (by have := of_eq_true qi0; omega))
  have C1 := fun W' : World => one_calls (k := k) (W := W') HP.out
  go_region_held3 (fun w' => w'.cell? ad0 = some (.string (rdW l 0)) ∧ w'.cell? ⟨ad0.block, ad0.off + 1, none⟩ = some (.string (rdW l 1))) (first | with_reducible exact ⟨z0, z1⟩ | with_reducible exact ⟨keep9 _ _ _ _ _ _ _ _ _ z0 HZB.out, keep9 _ _ _ _ _ _ _ _ _ z1 HZB.out⟩ | exact ⟨z0, z1⟩) (first | (go_at_call 20; (with_reducible refine (C1 _).mono ?_); rintro ez W3 ⟨v, rfl, hv_, hb_⟩; obtain ⟨v5, v7, v8, rfl, k5, k7, k8⟩ := hv_; obtain ⟨A5, c5, e5⟩ := Kd.R_slice k5; obtain ⟨A7, c7, e7⟩ := Kd.R_slice k7; obtain ⟨A8, c8, e8⟩ := Kd.R_slice k8; subst e5; subst e7; subst e8; have HS := Aside0.mk (below_step (show Below W2.heap.size W2 _ from (by repeat (first | exact Below.refl _ _ | apply pw_below_drewN | apply below_drew1 | apply below_drew))) hb_); have HK := Aside0.mk (And.intro k5 (And.intro k7 k8)); clear hb_ k5 k7 k8; have z0 := keepB z0 HS.out; have z1 := keepB z1 HS.out; have HBK := Aside0.mk (blk_below HC.out.blk HS.out); obtain ⟨x0, x1, x2, x3⟩ := zc4 HBK.out; have x4 := (blk_cell HBK.out 4).trans rfl; have x5 := (blk_cell HBK.out 5).trans rfl; have x6 := (blk_cell HBK.out 6).trans rfl; have x7 := (blk_cell HBK.out 7).trans rfl; have x8 := (blk_cell HBK.out 8).trans rfl; obtain ⟨f0, f1, f2, f3⟩ := zf4 HBK.out; have f4 := blk_frozen HBK.out 4; have f5 := blk_frozen HBK.out 5; have f6 := blk_frozen HBK.out 6; have f7 := blk_frozen HBK.out 7; have f8 := blk_frozen HBK.out 8))
  have n3_ := Aside0.mk (CmV.of (x := p1) HBK.out (Nat.succ_le_of_lt (blk_lt HC.out.blk)) HK.out.1 HK.out.2.1 HK.out.2.2)
  have n1_ := Aside0.mk ((set9_off (.int .i64 p1.kd) (.string p1.nm) (.int .i64 p1.n) (.int .i64 p1.id) (.bool p1.on) (.slice A5 p1.tm.length c5) (.int .i64 p1.rid) (.slice A7 p1.lf.length c7) (.slice A8 p1.rt.length c8) br HNE.out).trans (blk_below HR.out HS.out))
  have n2_ := Aside0.mk (set9_below (below_step HB.out HS.out) HLB.out.2.2 (.int .i64 p1.kd) (.string p1.nm) (.int .i64 p1.n) (.int .i64 p1.id) (.bool p1.on) (.slice A5 p1.tm.length c5) (.int .i64 p1.rid) (.slice A7 p1.lf.length c7) (.slice A8 p1.rt.length c8))
  go_upto_region 17 with fail
  change Code.wp _ _ _ _ (((((((((W3.setCell ⟨bc, 0, none⟩ (.int .i64 p1.kd)).setCell ⟨bc, 1, none⟩ (.string p1.nm)).setCell ⟨bc, 2, none⟩ (.int .i64 p1.n)).setCell ⟨bc, 3, none⟩ (.int .i64 p1.id)).setCell ⟨bc, 4, none⟩ (.bool p1.on)).setCell ⟨bc, 5, none⟩ (.slice A5 p1.tm.length c5)).setCell ⟨bc, 6, none⟩ (.int .i64 p1.rid)).setCell ⟨bc, 7, none⟩ (.slice A7 p1.lf.length c7)).setCell ⟨bc, 8, none⟩ (.slice A8 p1.rt.length c8))
  generalize (((((((((W3.setCell ⟨bc, 0, none⟩ (.int .i64 p1.kd)).setCell ⟨bc, 1, none⟩ (.string p1.nm)).setCell ⟨bc, 2, none⟩ (.int .i64 p1.n)).setCell ⟨bc, 3, none⟩ (.int .i64 p1.id)).setCell ⟨bc, 4, none⟩ (.bool p1.on)).setCell ⟨bc, 5, none⟩ (.slice A5 p1.tm.length c5)).setCell ⟨bc, 6, none⟩ (.int .i64 p1.rid)).setCell ⟨bc, 7, none⟩ (.slice A7 p1.lf.length c7)).setCell ⟨bc, 8, none⟩ (.slice A8 p1.rt.length c8)) = W4 at n1_ n2_ n3_ ⊢
  clear HBK C1 HK HS x0 f0 x1 f1 x2 f2 x3 f3 x4 f4 x5 f5 x6 f6 x7 f7 x8 f8 z0 z1
  clear HR; have HR := n1_; clear n1_
  clear HB; have HB := n2_; clear n2_
  clear HC; have HC := n3_; clear n3_
  have h1 := HH.out
  clear HH HP
  have h1 : (if p2 = 0 then some ((p1 : Dr), (0 : Int)) else some (dr0 0, p2)) = some (x, e) := h1
  by_cases ce : p2 = 0
  ·
   have d1 : (p2 != 0) = false := bne_eq_false_iff_eq.mpr ce
   rw [if_pos ce] at h1
   obtain ⟨rfl, rfl⟩ := Prod.mk.inj (Option.some.inj h1)
   clear ce h1
   obtain ⟨x0, x1, x2, x3⟩ := zc4 HC.out.blk; have x4 := (blk_cell HC.out.blk 4).trans rfl; have x5 := (blk_cell HC.out.blk 5).trans rfl; have x6 := (blk_cell HC.out.blk 6).trans rfl; have x7 := (blk_cell HC.out.blk 7).trans rfl; have x8 := (blk_cell HC.out.blk 8).trans rfl
   obtain ⟨f0, f1, f2, f3⟩ := zf4 HC.out.blk; have f4 := blk_frozen HC.out.blk 4; have f5 := blk_frozen HC.out.blk 5; have f6 := blk_frozen HC.out.blk 6; have f7 := blk_frozen HC.out.blk 7; have f8 := blk_frozen HC.out.blk 8
   obtain ⟨y0, y1, y2, y3⟩ := zc4 HR.out; have y4 := (blk_cell HR.out 4).trans rfl; have y5 := (blk_cell HR.out 5).trans rfl; have y6 := (blk_cell HR.out 6).trans rfl; have y7 := (blk_cell HR.out 7).trans rfl; have y8 := (blk_cell HR.out 8).trans rfl
   obtain ⟨g0, g1, g2, g3⟩ := zf4 HR.out; have g4 := blk_frozen HR.out 4; have g5 := blk_frozen HR.out 5; have g6 := blk_frozen HR.out 6; have g7 := blk_frozen HR.out 7; have g8 := blk_frozen HR.out 8
   go_wp2
   refine bodyPost_ret (results_ct rfl _ _ br 28 _ (0, 0) _ rfl (set9_blk HR.out _ _ _ _ _ _ _ _ _) Tryz.underlying28 rfl (by kernel_rfl)) rfl ?_
   exact ⟨_, rfl, cmV_end HC.out ⟨HLB.out.1, HLB.out.2.1⟩, set9_below HB.out HLE.out _ _ _ _ _ _ _ _ _⟩
  ·
   have d1 : (p2 != 0) = true := bne_iff_ne.mpr ce
   rw [if_neg ce] at h1
   obtain ⟨rfl, rfl⟩ := Prod.mk.inj (Option.some.inj h1)
   clear ce h1
   obtain ⟨y0, y1, y2, y3⟩ := zc4 HR.out; have y4 := (blk_cell HR.out 4).trans rfl; have y5 := (blk_cell HR.out 5).trans rfl; have y6 := (blk_cell HR.out 6).trans rfl; have y7 := (blk_cell HR.out 7).trans rfl; have y8 := (blk_cell HR.out 8).trans rfl
   obtain ⟨g0, g1, g2, g3⟩ := zf4 HR.out; have g4 := blk_frozen HR.out 4; have g5 := blk_frozen HR.out 5; have g6 := blk_frozen HR.out 6; have g7 := blk_frozen HR.out 7; have g8 := blk_frozen HR.out 8
   go_wp2
   refine bodyPost_ret (results_ct rfl _ _ br 28 _ (0, 0) _ rfl (set9_blk HR.out _ _ _ _ _ _ _ _ _) Tryz.underlying28 rfl (by kernel_rfl)) rfl ?_
   exact ⟨_, rfl, cmdV_zero _ _, set9_below HB.out HLE.out _ _ _ _ _ _ _ _ _⟩
 rw [if_neg c] at h1
 have n1 := c
 clear c
 by_cases c : (l.length : Int) = 3
 ·
  rw [if_pos c] at h1
  have q1 : ((l.length : Int) == 1) = false := beq_eq_false_iff_ne.mpr (by omega)
  have q2 : ((l.length : Int) == 2) = false := beq_eq_false_iff_ne.mpr (by omega)
  have q3 : ((l.length : Int) == 3) = true := beq_iff_eq.mpr c
  have q4 : ((l.length : Int) == 4) = false := beq_eq_false_iff_ne.mpr (by omega)
  obtain ⟨⟨p1, p2⟩, hp, h1⟩ := bindS h1
  have HP := Aside0.mk hp
  have HH := Aside0.mk h1
  clear h1 hp n0 n1
  obtain ⟨ad0, ea0, z0⟩ := Kd.at_string HCL.out 0 (by omega) (by omega)
  subst ea0
  rw [show ((0 : Int)).toNat = 0 from rfl] at z0
  rw [Addr.add_zero'] at z0
  have qi0 : (0 < l.length) = True := eq_true (by omega)
  have qj0 : (0 < (l.length : Int)) = True := eq_true (by omega)
  obtain ⟨ad1, ea1, z1⟩ := Kd.at_string HCL.out 1 (by omega) (by omega)
  obtain rfl : ad0 = ad1 := by injection ea1
  simp only [show (1 : Int).toNat = 1 from rfl, Nat.reduceMul, Nat.reduceEqDiff, Go.Addr.add, ↓reduceIte] at z1
  have qi1 : (1 < l.length) = True := eq_true (by omega)
  have qj1 : (1 < (l.length : Int)) = True := eq_true (by omega)
  obtain ⟨ad2, ea2, z2⟩ := Kd.at_string HCL.out 2 (by omega) (by omega)
  obtain rfl : ad0 = ad2 := by injection ea2
  simp only [show (2 : Int).toNat = 2 from rfl, Nat.reduceMul, Nat.reduceEqDiff, Go.Addr.add, ↓reduceIte] at z2
  have qi2 : (2 < l.length) = True := eq_true (by omega)
  have qj2 : (2 < (l.length : Int)) = True := eq_true (by omega)
  clear c
  go_upto_region 18 with fail
  have HZB := Aside0.mk (show ad0.block ≠ bc from HCB.out ad0 rfl (by have := of_eq_true qi0; omega))
  have C1 := fun W' : World => two_calls (k := k) (W := W') HP.out
  go_region_held3 (fun w' => w'.cell? ad0 = some (.string (rdW l 0)) ∧ w'.cell? ⟨ad0.block, ad0.off + 1, none⟩ = some (.string (rdW l 1)) ∧ w'.cell? ⟨ad0.block, ad0.off + 2, none⟩ = some (.string (rdW l 2))) (first | with_reducible exact ⟨z0, z1, z2⟩ | with_reducible exact ⟨keep9 _ _ _ _ _ _ _ _ _ z0 HZB.out, keep9 _ _ _ _ _ _ _ _ _ z1 HZB.out, keep9 _ _ _ _ _ _ _ _ _ z2 HZB.out⟩ | exact ⟨z0, z1, z2⟩) (first | (go_at_call 21; (with_reducible refine (C1 _).mono ?_); rintro ez W3 ⟨v, rfl, hv_, hb_⟩; obtain ⟨v5, v7, v8, rfl, k5, k7, k8⟩ := hv_; obtain ⟨A5, c5, e5⟩ := Kd.R_slice k5; obtain ⟨A7, c7, e7⟩ := Kd.R_slice k7; obtain ⟨A8, c8, e8⟩ := Kd.R_slice k8; subst e5; subst e7; subst e8; have HS := Aside0.mk (below_step (show Below W2.heap.size W2 _ from (by repeat (first | exact Below.refl _ _ | apply pw_below_drewN | apply below_drew1 | apply below_drew))) hb_); have HK := Aside0.mk (And.intro k5 (And.intro k7 k8)); clear hb_ k5 k7 k8; have z0 := keepB z0 HS.out; have z1 := keepB z1 HS.out; have z2 := keepB z2 HS.out; have HBK := Aside0.mk (blk_below HC.out.blk HS.out); obtain ⟨x0, x1, x2, x3⟩ := zc4 HBK.out; have x4 := (blk_cell HBK.out 4).trans rfl; have x5 := (blk_cell HBK.out 5).trans rfl; have x6 := (blk_cell HBK.out 6).trans rfl; have x7 := (blk_cell HBK.out 7).trans rfl; have x8 := (blk_cell HBK.out 8).trans rfl; obtain ⟨f0, f1, f2, f3⟩ := zf4 HBK.out; have f4 := blk_frozen HBK.out 4; have f5 := blk_frozen HBK.out 5; have f6 := blk_frozen HBK.out 6; have f7 := blk_frozen HBK.out 7; have f8 := blk_frozen HBK.out 8))
  have n3_ := Aside0.mk (CmV.of (x := p1) HBK.out (Nat.succ_le_of_lt (blk_lt HC.out.blk)) HK.out.1 HK.out.2.1 HK.out.2.2)
  have n1_ := Aside0.mk ((set9_off (.int .i64 p1.kd) (.string p1.nm) (.int .i64 p1.n) (.int .i64 p1.id) (.bool p1.on) (.slice A5 p1.tm.length c5) (.int .i64 p1.rid) (.slice A7 p1.lf.length c7) (.slice A8 p1.rt.length c8) br HNE.out).trans (blk_below HR.out HS.out))
  have n2_ := Aside0.mk (set9_below (below_step HB.out HS.out) HLB.out.2.2 (.int .i64 p1.kd) (.string p1.nm) (.int .i64 p1.n) (.int .i64 p1.id) (.bool p1.on) (.slice A5 p1.tm.length c5) (.int .i64 p1.rid) (.slice A7 p1.lf.length c7) (.slice A8 p1.rt.length c8))
  go_upto_region 19 with fail
  change Code.wp _ _ _ _ (((((((((W3.setCell ⟨bc, 0, none⟩ (.int .i64 p1.kd)).setCell ⟨bc, 1, none⟩ (.string p1.nm)).setCell ⟨bc, 2, none⟩ (.int .i64 p1.n)).setCell ⟨bc, 3, none⟩ (.int .i64 p1.id)).setCell ⟨bc, 4, none⟩ (.bool p1.on)).setCell ⟨bc, 5, none⟩ (.slice A5 p1.tm.length c5)).setCell ⟨bc, 6, none⟩ (.int .i64 p1.rid)).setCell ⟨bc, 7, none⟩ (.slice A7 p1.lf.length c7)).setCell ⟨bc, 8, none⟩ (.slice A8 p1.rt.length c8))
  generalize (((((((((W3.setCell ⟨bc, 0, none⟩ (.int .i64 p1.kd)).setCell ⟨bc, 1, none⟩ (.string p1.nm)).setCell ⟨bc, 2, none⟩ (.int .i64 p1.n)).setCell ⟨bc, 3, none⟩ (.int .i64 p1.id)).setCell ⟨bc, 4, none⟩ (.bool p1.on)).setCell ⟨bc, 5, none⟩ (.slice A5 p1.tm.length c5)).setCell ⟨bc, 6, none⟩ (.int .i64 p1.rid)).setCell ⟨bc, 7, none⟩ (.slice A7 p1.lf.length c7)).setCell ⟨bc, 8, none⟩ (.slice A8 p1.rt.length c8)) = W4 at n1_ n2_ n3_ ⊢
  clear HBK C1 HK HS x0 f0 x1 f1 x2 f2 x3 f3 x4 f4 x5 f5 x6 f6 x7 f7 x8 f8 z0 z1 z2
  clear HR; have HR := n1_; clear n1_
  clear HB; have HB := n2_; clear n2_
  clear HC; have HC := n3_; clear n3_
  have h1 := HH.out
  clear HH HP
  have h1 : (if p2 = 0 then some ((p1 : Dr), (0 : Int)) else some (dr0 0, p2)) = some (x, e) := h1
  by_cases ce : p2 = 0
  ·
   have d1 : (p2 != 0) = false := bne_eq_false_iff_eq.mpr ce
   rw [if_pos ce] at h1
   obtain ⟨rfl, rfl⟩ := Prod.mk.inj (Option.some.inj h1)
   clear ce h1
   obtain ⟨x0, x1, x2, x3⟩ := zc4 HC.out.blk; have x4 := (blk_cell HC.out.blk 4).trans rfl; have x5 := (blk_cell HC.out.blk 5).trans rfl; have x6 := (blk_cell HC.out.blk 6).trans rfl; have x7 := (blk_cell HC.out.blk 7).trans rfl; have x8 := (blk_cell HC.out.blk 8).trans rfl
   obtain ⟨f0, f1, f2, f3⟩ := zf4 HC.out.blk; have f4 := blk_frozen HC.out.blk 4; have f5 := blk_frozen HC.out.blk 5; have f6 := blk_frozen HC.out.blk 6; have f7 := blk_frozen HC.out.blk 7; have f8 := blk_frozen HC.out.blk 8
   obtain ⟨y0, y1, y2, y3⟩ := zc4 HR.out; have y4 := (blk_cell HR.out 4).trans rfl; have y5 := (blk_cell HR.out 5).trans rfl; have y6 := (blk_cell HR.out 6).trans rfl; have y7 := (blk_cell HR.out 7).trans rfl; have y8 := (blk_cell HR.out 8).trans rfl
   obtain ⟨g0, g1, g2, g3⟩ := zf4 HR.out; have g4 := blk_frozen HR.out 4; have g5 := blk_frozen HR.out 5; have g6 := blk_frozen HR.out 6; have g7 := blk_frozen HR.out 7; have g8 := blk_frozen HR.out 8
   go_wp2
   refine bodyPost_ret (results_ct rfl _ _ br 28 _ (0, 0) _ rfl (set9_blk HR.out _ _ _ _ _ _ _ _ _) Tryz.underlying28 rfl (by kernel_rfl)) rfl ?_
   exact ⟨_, rfl, cmV_end HC.out ⟨HLB.out.1, HLB.out.2.1⟩, set9_below HB.out HLE.out _ _ _ _ _ _ _ _ _⟩
  ·
   have d1 : (p2 != 0) = true := bne_iff_ne.mpr ce
   rw [if_neg ce] at h1
   obtain ⟨rfl, rfl⟩ := Prod.mk.inj (Option.some.inj h1)
   clear ce h1
   obtain ⟨y0, y1, y2, y3⟩ := zc4 HR.out; have y4 := (blk_cell HR.out 4).trans rfl; have y5 := (blk_cell HR.out 5).trans rfl; have y6 := (blk_cell HR.out 6).trans rfl; have y7 := (blk_cell HR.out 7).trans rfl; have y8 := (blk_cell HR.out 8).trans rfl
   obtain ⟨g0, g1, g2, g3⟩ := zf4 HR.out; have g4 := blk_frozen HR.out 4; have g5 := blk_frozen HR.out 5; have g6 := blk_frozen HR.out 6; have g7 := blk_frozen HR.out 7; have g8 := blk_frozen HR.out 8
   go_wp2
   refine bodyPost_ret (results_ct rfl _ _ br 28 _ (0, 0) _ rfl (set9_blk HR.out _ _ _ _ _ _ _ _ _) Tryz.underlying28 rfl (by kernel_rfl)) rfl ?_
   exact ⟨_, rfl, cmdV_zero _ _, set9_below HB.out HLE.out _ _ _ _ _ _ _ _ _⟩
 rw [if_neg c] at h1
 have n2 := c
 clear c
 by_cases c : (l.length : Int) = 4
 ·
  rw [if_pos c] at h1
  have q1 : ((l.length : Int) == 1) = false := beq_eq_false_iff_ne.mpr (by omega)
  have q2 : ((l.length : Int) == 2) = false := beq_eq_false_iff_ne.mpr (by omega)
  have q3 : ((l.length : Int) == 3) = false := beq_eq_false_iff_ne.mpr (by omega)
  have q4 : ((l.length : Int) == 4) = true := beq_iff_eq.mpr c
  clear n0 n1 n2
  obtain ⟨ad0, ea0, z0⟩ := Kd.at_string HCL.out 0 (by omega) (by omega)
  subst ea0
  rw [show ((0 : Int)).toNat = 0 from rfl] at z0
  rw [Addr.add_zero'] at z0
  have qi0 : (0 < l.length) = True := eq_true (by omega)
  have qj0 : (0 < (l.length : Int)) = True := eq_true (by omega)
  obtain ⟨ad1, ea1, z1⟩ := Kd.at_string HCL.out 1 (by omega) (by omega)
  obtain rfl : ad0 = ad1 := by injection ea1
  simp only [show (1 : Int).toNat = 1 from rfl, Nat.reduceMul, Nat.reduceEqDiff, Go.Addr.add, ↓reduceIte] at z1
  have qi1 : (1 < l.length) = True := eq_true (by omega)
  have qj1 : (1 < (l.length : Int)) = True := eq_true (by omega)
  obtain ⟨ad2, ea2, z2⟩ := Kd.at_string HCL.out 2 (by omega) (by omega)
  obtain rfl : ad0 = ad2 := by injection ea2
  simp only [show (2 : Int).toNat = 2 from rfl, Nat.reduceMul, Nat.reduceEqDiff, Go.Addr.add, ↓reduceIte] at z2
  have qi2 : (2 < l.length) = True := eq_true (by omega)
  have qj2 : (2 < (l.length : Int)) = True := eq_true (by omega)
  obtain ⟨ad3, ea3, z3⟩ := Kd.at_string HCL.out 3 (by omega) (by omega)
  obtain rfl : ad0 = ad3 := by injection ea3
  simp only [show (3 : Int).toNat = 3 from rfl, Nat.reduceMul, Nat.reduceEqDiff, Go.Addr.add, ↓reduceIte] at z3
  have qi3 : (3 < l.length) = True := eq_true (by omega)
  have qj3 : (3 < (l.length : Int)) = True := eq_true (by omega)
  have HHC := Aside0.mk c
  clear c
  by_cases c4 : (rdW l 0).toList = [114, 117, 108, 101]
  ·
   rw [if_pos c4] at h1
   have g4 : ((rdW l 0).toList == ([114, 117, 108, 101] : List UInt8)) = true := beq_iff_eq.mpr c4
   clear c4
   by_cases c5 : (rdW l 2).toList = [45, 62]
   ·
    rw [if_pos c5] at h1
    have g5 : ((rdW l 2).toList == ([45, 62] : List UInt8)) = true := beq_iff_eq.mpr c5
    clear c5
    obtain ⟨⟨p1, p2⟩, hp, h1⟩ := bindS h1
    obtain ⟨⟨r1, r2, r3, r4⟩, hr, hp⟩ := bindS hp
    obtain ⟨rfl, rfl⟩ := Prod.mk.inj (Option.some.inj hp)
    have HP := Aside0.mk hr
    have HH := Aside0.mk h1
    clear h1 hp hr
    have HZB := Aside0.mk (show ad0.block ≠ bc from HCB.out ad0 rfl (by have := of_eq_true qi0; omega))
    have x0 := (blk_cell HC.out.blk 0).trans rfl; have f0 := blk_frozen HC.out.blk 0
    go_upto_region 21 with fail
    clear x0 f0
    change Code.wp _ _ _ _ (W2.setCell ⟨bc, 0, none⟩ (.int .i64 7))
    have n3_ := Aside0.mk (HC.out.set (i := 0) (u := .int .i64 7) (y := dr0 7) rfl rfl rfl rfl)
    have n1_ := Aside0.mk (blk_far HR.out (p := ⟨bc, 0, none⟩) HNE.out (.int .i64 7))
    have n2_ := Aside0.mk (HB.out.setCell (p := ⟨bc, 0, none⟩) HLB.out.2.2 (.int .i64 7))
    have z1 := (cell_heap (a := ⟨ad0.block, ad0.off + 1, none⟩) (Below.heap_setCell W2 ⟨bc, 0, none⟩ (.int .i64 7) _ HZB.out)).trans z1
    have z3 := (cell_heap (a := ⟨ad0.block, ad0.off + 3, none⟩) (Below.heap_setCell W2 ⟨bc, 0, none⟩ (.int .i64 7) _ HZB.out)).trans z3
    generalize (W2.setCell ⟨bc, 0, none⟩ (.int .i64 7)) = W3 at n1_ n2_ n3_ z1 z3 ⊢
    clear HR; have HR := n1_; clear n1_
    clear HB; have HB := n2_; clear n2_
    clear HC; have HC := n3_; clear n3_
    have HZW := Aside0.mk (show ad0.block ≠ W3.heap.size from Nat.ne_of_lt (World.block_lt_of_cell? _ ⟨ad0.block, ad0.off + 1, none⟩ z1))
    have C1 := fun W' : World => aumbryref06_Parse.calls k (rdW l 1) (rdW l 3) r1 r2 r3 r4 W' HP.out
    go_region_held3 (fun w' => w'.cell? ⟨ad0.block, ad0.off + 1, none⟩ = some (.string (rdW l 1)) ∧ w'.cell? ⟨ad0.block, ad0.off + 3, none⟩ = some (.string (rdW l 3))) (first | with_reducible exact ⟨z1, z3⟩ | with_reducible exact ⟨keepB z1 (below_alloc (Below.refl _ _) _), keepB z3 (below_alloc (Below.refl _ _) _)⟩ | with_reducible exact ⟨keepB z1 (below_drew (below_alloc (Below.refl _ _) _)), keepB z3 (below_drew (below_alloc (Below.refl _ _) _))⟩ | with_reducible exact ⟨keep3 _ _ _ z1 HZW.out, keep3 _ _ _ z3 HZW.out⟩ | exact ⟨z1, z3⟩) (first | (go_at_call 22; (with_reducible refine (C1 _).mono ?_); rintro ez W4 ⟨v1, v2, rfl, hL_, hR_, hb_⟩; obtain ⟨A1, c1, e1⟩ := Kd.R_slice hL_; obtain ⟨A2, c2, e2⟩ := Kd.R_slice hR_; subst e1; subst e2; have HS := Aside0.mk (below_step (show Below W3.heap.size W3 _ from (by repeat (first | exact Below.refl _ _ | apply below_alloc | apply pw_below_drewN | apply below_drew1 | apply below_drew))) hb_); have z1 := keepB z1 HS.out; have z3 := keepB z3 HS.out; have HK := Aside0.mk (And.intro hL_ hR_); clear hL_ hR_; have HA1 := Aside0.mk (blk_below (show (W3.alloc (.cells #[.int .i64 0, .slice none 0 0, .slice none 0 0] 26)).drew.heap[W3.heap.size]? = some (.cells #[.int .i64 0, .slice none 0 0, .slice none 0 0] 26 (0, 0)) from heap_alloc_new W3 (.cells #[.int .i64 0, .slice none 0 0, .slice none 0 0] 26)) hb_); have xa0 := (blk_cell HA1.out 0).trans rfl; have fa0 := blk_frozen HA1.out 0; have xa1 := (blk_cell HA1.out 1).trans rfl; have fa1 := blk_frozen HA1.out 1; have xa2 := (blk_cell HA1.out 2).trans rfl; have fa2 := blk_frozen HA1.out 2; clear hb_) | (go_at_call 22; (with_reducible refine (C1 _).mono ?_); rintro ez W4 ⟨v1, v2, rfl, hL_, hR_, hb_⟩; obtain ⟨A1, c1, e1⟩ := Kd.R_slice hL_; obtain ⟨A2, c2, e2⟩ := Kd.R_slice hR_; subst e1; subst e2; have HS := Aside0.mk (below_step (show Below W3.heap.size W3 _ from (by repeat (first | exact Below.refl _ _ | apply below_alloc | apply pw_below_drewN | apply below_drew1 | apply below_drew))) hb_); have z1 := keepB z1 HS.out; have z3 := keepB z3 HS.out; have HK := Aside0.mk (And.intro hL_ hR_); clear hL_ hR_; have HA1 := heap_alloc_new W4 (.cells #[.int .i64 0, .slice none 0 0, .slice none 0 0] 26); have xa0 := (blk_cell HA1 0).trans rfl; have fa0 := blk_frozen HA1 0; have xa1 := (blk_cell HA1 1).trans rfl; have fa1 := blk_frozen HA1 1; have xa2 := (blk_cell HA1 2).trans rfl; have fa2 := blk_frozen HA1 2; clear HA1; clear hb_))
    all_goals go_upto_region 22 with fail
    clear xa0 fa0 xa1 fa1 xa2 fa2 z0 z1 z2 z3 C1
    have HBX := Aside0.mk (heap_alloc_new W4 (.cells #[.int .i64 r1, .slice A1 r2.length c1, .slice A2 r3.length c2] 26))
    have H5 := Aside0.mk (below_alloc HS.out (.cells #[.int .i64 r1, .slice A1 r2.length c1, .slice A2 r3.length c2] 26))
    have HL5 := Aside0.mk (show Kd.R k48 48 _ W3.heap.size _ _ _ from Kd.R_below HK.out.1 (below_alloc (Below.refl _ _) (.cells #[.int .i64 r1, .slice A1 r2.length c1, .slice A2 r3.length c2] 26)))
    have HR5 := Aside0.mk (show Kd.R k48 48 _ W3.heap.size _ _ _ from Kd.R_below HK.out.2 (below_alloc (Below.refl _ _) (.cells #[.int .i64 r1, .slice A1 r2.length c1, .slice A2 r3.length c2] 26)))
    change Code.wp _ _ _ _ (W4.alloc (.cells #[.int .i64 r1, .slice A1 r2.length c1, .slice A2 r3.length c2] 26))
    generalize (W4.alloc (.cells #[.int .i64 r1, .slice A1 r2.length c1, .slice A2 r3.length c2] 26)) = W5 at HBX H5 HL5 HR5 ⊢
    obtain ⟨gb, hgb⟩ : ∃ n, n = W4.heap.size := ⟨_, rfl⟩
    rw [← hgb] at HBX ⊢
    clear hgb
    rotate_left
    clear xa0 fa0 xa1 fa1 xa2 fa2 z0 z1 z2 z3 C1
    have hl_ := blk_lt (heap_alloc_new W3 (.cells #[.int .i64 0, .slice none 0 0, .slice none 0 0] 26))
    have HBX := Aside0.mk (set3_blk HA1.out (.int .i64 r1) (.slice A1 r2.length c1) (.slice A2 r3.length c2))
    have H5 := Aside0.mk (below_set (below_set (below_set (j := 0) (v := .int .i64 r1) HS.out (Nat.le_refl _)) (Nat.le_refl _) (j := 1) (v := .slice A1 r2.length c1)) (Nat.le_refl _) (j := 2) (v := .slice A2 r3.length c2))
    have HL5 := Aside0.mk (Kd.R_lower (R_set3 (.int .i64 r1) (.slice A1 r2.length c1) (.slice A2 r3.length c2) HK.out.1 (show W3.heap.size < _ from hl_)) (show W3.heap.size ≤ _ from Nat.le_of_lt hl_))
    have HR5 := Aside0.mk (Kd.R_lower (R_set3 (.int .i64 r1) (.slice A1 r2.length c1) (.slice A2 r3.length c2) HK.out.2 (show W3.heap.size < _ from hl_)) (show W3.heap.size ≤ _ from Nat.le_of_lt hl_))
    clear hl_ HA1
    change Code.wp _ _ _ _ (((W4.setCell ⟨W3.heap.size, 0, none⟩ (.int .i64 r1)).setCell ⟨W3.heap.size, 1, none⟩ (.slice A1 r2.length c1)).setCell ⟨W3.heap.size, 2, none⟩ (.slice A2 r3.length c2))
    generalize (((W4.setCell ⟨W3.heap.size, 0, none⟩ (.int .i64 r1)).setCell ⟨W3.heap.size, 1, none⟩ (.slice A1 r2.length c1)).setCell ⟨W3.heap.size, 2, none⟩ (.slice A2 r3.length c2)) = W5 at HBX H5 HL5 HR5 ⊢
    obtain ⟨gb, hgb⟩ : ∃ n, n = W3.heap.size := ⟨_, rfl⟩
    rw [← hgb] at HBX ⊢
    clear hgb
    all_goals
     have xa0 := (blk_cell HBX.out 0).trans rfl; have xa1 := (blk_cell HBX.out 1).trans rfl; have xa2 := (blk_cell HBX.out 2).trans rfl
     have HBK := Aside0.mk (blk_below HC.out.blk H5.out)
     have x6 := (blk_cell HBK.out 6).trans rfl; have f6 := blk_frozen HBK.out 6; have x7 := (blk_cell HBK.out 7).trans rfl; have f7 := blk_frozen HBK.out 7; have x8 := (blk_cell HBK.out 8).trans rfl; have f8 := blk_frozen HBK.out 8
     go_upto_region 23 with fail
     clear xa0 xa1 xa2 x6 f6 x7 f7 x8 f8 HBK HBX
     change Code.wp _ _ _ _ (((W5.setCell ⟨bc, 6, none⟩ (.int .i64 r1)).setCell ⟨bc, 7, none⟩ (.slice A1 r2.length c1)).setCell ⟨bc, 8, none⟩ (.slice A2 r3.length c2))
     have n3_ := Aside0.mk (HC.out.putR (i := r1) H5.out HL5.out HR5.out)
     have n1_ := Aside0.mk (blk_far (blk_far (blk_far (blk_below HR.out H5.out) (p := ⟨bc, 6, none⟩) HNE.out (.int .i64 r1)) (p := ⟨bc, 7, none⟩) HNE.out (.slice A1 r2.length c1)) (p := ⟨bc, 8, none⟩) HNE.out (.slice A2 r3.length c2))
     have n2_ := Aside0.mk ((((below_step HB.out H5.out).setCell (p := ⟨bc, 6, none⟩) HLB.out.2.2 (.int .i64 r1)).setCell (p := ⟨bc, 7, none⟩) HLB.out.2.2 (.slice A1 r2.length c1)).setCell (p := ⟨bc, 8, none⟩) HLB.out.2.2 (.slice A2 r3.length c2))
     generalize (((W5.setCell ⟨bc, 6, none⟩ (.int .i64 r1)).setCell ⟨bc, 7, none⟩ (.slice A1 r2.length c1)).setCell ⟨bc, 8, none⟩ (.slice A2 r3.length c2)) = W6 at n1_ n2_ n3_ ⊢
     clear HR; have HR := n1_; clear n1_
     clear HB; have HB := n2_; clear n2_
     clear HC; have HC := n3_; clear n3_
     clear H5 HL5 HR5 HS HK HP
     have h1 := HH.out
     clear HH
     have h1 : (if r4 = 0 then some (({ dr0 7 with rid := r1, lf := r2, rt := r3 } : Dr), (0 : Int)) else some (dr0 0, r4)) = some (x, e) := h1
     by_cases ce : r4 = 0
     ·
      have d1 : (r4 != 0) = false := bne_eq_false_iff_eq.mpr ce
      rw [if_pos ce] at h1
      obtain ⟨rfl, rfl⟩ := Prod.mk.inj (Option.some.inj h1)
      clear ce h1
      obtain ⟨x0, x1, x2, x3⟩ := zc4 HC.out.blk; have x4 := (blk_cell HC.out.blk 4).trans rfl; have x5 := (blk_cell HC.out.blk 5).trans rfl; have x6 := (blk_cell HC.out.blk 6).trans rfl; have x7 := (blk_cell HC.out.blk 7).trans rfl; have x8 := (blk_cell HC.out.blk 8).trans rfl
      obtain ⟨f0, f1, f2, f3⟩ := zf4 HC.out.blk; have f4 := blk_frozen HC.out.blk 4; have f5 := blk_frozen HC.out.blk 5; have f6 := blk_frozen HC.out.blk 6; have f7 := blk_frozen HC.out.blk 7; have f8 := blk_frozen HC.out.blk 8
      obtain ⟨y0, y1, y2, y3⟩ := zc4 HR.out; have y4 := (blk_cell HR.out 4).trans rfl; have y5 := (blk_cell HR.out 5).trans rfl; have y6 := (blk_cell HR.out 6).trans rfl; have y7 := (blk_cell HR.out 7).trans rfl; have y8 := (blk_cell HR.out 8).trans rfl
      obtain ⟨g0, g1, g2, g3⟩ := zf4 HR.out; have g4 := blk_frozen HR.out 4; have g5 := blk_frozen HR.out 5; have g6 := blk_frozen HR.out 6; have g7 := blk_frozen HR.out 7; have g8 := blk_frozen HR.out 8
      go_wp2
      refine bodyPost_ret (results_ct rfl _ _ br 28 _ (0, 0) _ rfl (set9_blk HR.out _ _ _ _ _ _ _ _ _) Tryz.underlying28 rfl (by kernel_rfl)) rfl ?_
      exact ⟨_, rfl, cmV_end HC.out ⟨HLB.out.1, HLB.out.2.1⟩, set9_below HB.out HLE.out _ _ _ _ _ _ _ _ _⟩
     ·
      have d1 : (r4 != 0) = true := bne_iff_ne.mpr ce
      rw [if_neg ce] at h1
      obtain ⟨rfl, rfl⟩ := Prod.mk.inj (Option.some.inj h1)
      clear ce h1
      obtain ⟨y0, y1, y2, y3⟩ := zc4 HR.out; have y4 := (blk_cell HR.out 4).trans rfl; have y5 := (blk_cell HR.out 5).trans rfl; have y6 := (blk_cell HR.out 6).trans rfl; have y7 := (blk_cell HR.out 7).trans rfl; have y8 := (blk_cell HR.out 8).trans rfl
      obtain ⟨g0, g1, g2, g3⟩ := zf4 HR.out; have g4 := blk_frozen HR.out 4; have g5 := blk_frozen HR.out 5; have g6 := blk_frozen HR.out 6; have g7 := blk_frozen HR.out 7; have g8 := blk_frozen HR.out 8
      go_wp2
      refine bodyPost_ret (results_ct rfl _ _ br 28 _ (0, 0) _ rfl (set9_blk HR.out _ _ _ _ _ _ _ _ _) Tryz.underlying28 rfl (by kernel_rfl)) rfl ?_
      exact ⟨_, rfl, cmdV_zero _ _, set9_below HB.out HLE.out _ _ _ _ _ _ _ _ _⟩
   ·
    rw [if_neg c5] at h1
    have g5 : ((rdW l 2).toList == ([45, 62] : List UInt8)) = false := beq_eq_false_iff_ne.mpr c5
    clear c5
    obtain ⟨rfl, rfl⟩ := Prod.mk.inj (Option.some.inj h1)
    clear h1
    go_upto_region 24 with fail
    obtain ⟨y0, y1, y2, y3⟩ := zc4 HR.out; have y4 := (blk_cell HR.out 4).trans rfl; have y5 := (blk_cell HR.out 5).trans rfl; have y6 := (blk_cell HR.out 6).trans rfl; have y7 := (blk_cell HR.out 7).trans rfl; have y8 := (blk_cell HR.out 8).trans rfl
    obtain ⟨g0, g1, g2, g3⟩ := zf4 HR.out; have g4 := blk_frozen HR.out 4; have g5 := blk_frozen HR.out 5; have g6 := blk_frozen HR.out 6; have g7 := blk_frozen HR.out 7; have g8 := blk_frozen HR.out 8
    go_wp2
    refine bodyPost_ret (results_ct rfl _ _ br 28 _ (0, 0) _ rfl (set9_blk HR.out _ _ _ _ _ _ _ _ _) Tryz.underlying28 rfl (by kernel_rfl)) rfl ?_
    exact ⟨_, rfl, cmdV_zero _ _, set9_below HB.out HLE.out _ _ _ _ _ _ _ _ _⟩
  ·
   rw [if_neg c4] at h1
   have g4 : ((rdW l 0).toList == ([114, 117, 108, 101] : List UInt8)) = false := beq_eq_false_iff_ne.mpr c4
   clear c4
   obtain ⟨rfl, rfl⟩ := Prod.mk.inj (Option.some.inj h1)
   clear h1
   go_upto_region 24 with fail
   obtain ⟨y0, y1, y2, y3⟩ := zc4 HR.out; have y4 := (blk_cell HR.out 4).trans rfl; have y5 := (blk_cell HR.out 5).trans rfl; have y6 := (blk_cell HR.out 6).trans rfl; have y7 := (blk_cell HR.out 7).trans rfl; have y8 := (blk_cell HR.out 8).trans rfl
   obtain ⟨g0, g1, g2, g3⟩ := zf4 HR.out; have g4 := blk_frozen HR.out 4; have g5 := blk_frozen HR.out 5; have g6 := blk_frozen HR.out 6; have g7 := blk_frozen HR.out 7; have g8 := blk_frozen HR.out 8
   go_wp2
   refine bodyPost_ret (results_ct rfl _ _ br 28 _ (0, 0) _ rfl (set9_blk HR.out _ _ _ _ _ _ _ _ _) Tryz.underlying28 rfl (by kernel_rfl)) rfl ?_
   exact ⟨_, rfl, cmdV_zero _ _, set9_below HB.out HLE.out _ _ _ _ _ _ _ _ _⟩
 rw [if_neg c] at h1
 have q1 : ((l.length : Int) == 1) = false := beq_eq_false_iff_ne.mpr (by omega)
 have q2 : ((l.length : Int) == 2) = false := beq_eq_false_iff_ne.mpr (by omega)
 have q3 : ((l.length : Int) == 3) = false := beq_eq_false_iff_ne.mpr (by omega)
 have q4 : ((l.length : Int) == 4) = false := beq_eq_false_iff_ne.mpr (by omega)
 clear n0 n1 n2 c
 obtain ⟨rfl, rfl⟩ := Prod.mk.inj (Option.some.inj h1)
 clear h1
 go_upto_region 24 with fail
 obtain ⟨y0, y1, y2, y3⟩ := zc4 HR.out; have y4 := (blk_cell HR.out 4).trans rfl; have y5 := (blk_cell HR.out 5).trans rfl; have y6 := (blk_cell HR.out 6).trans rfl; have y7 := (blk_cell HR.out 7).trans rfl; have y8 := (blk_cell HR.out 8).trans rfl
 obtain ⟨g0, g1, g2, g3⟩ := zf4 HR.out; have g4 := blk_frozen HR.out 4; have g5 := blk_frozen HR.out 5; have g6 := blk_frozen HR.out 6; have g7 := blk_frozen HR.out 7; have g8 := blk_frozen HR.out 8
 go_wp2
 refine bodyPost_ret (results_ct rfl _ _ br 28 _ (0, 0) _ rfl (set9_blk HR.out _ _ _ _ _ _ _ _ _) Tryz.underlying28 rfl (by kernel_rfl)) rfl ?_
 exact ⟨_, rfl, cmdV_zero _ _, set9_below HB.out HLE.out _ _ _ _ _ _ _ _ _⟩
end Go.Proofs.YtmlddeogmckgmaaGreatDoor.P

-- ==== Cl3
/- The law CommandReads, walked. -/
namespace Go.Proofs.YtmlddeogmckgmaaGreatDoor.P
open Go.RowKit Go.Proofs.YtmlddeogmckgmaaGreatDoorW.PrintWords Go.Proofs.YtmlddeogmckgmaaGreatDoorW.PrintLast Go.Proofs.YtmlddeogmckgmaaGreatDoorW.PrintMore
def lawRd (k : Nat) (line : ByteArray) : Option Bool :=
 (wakesF k).bind fun wk => if wk = true then (cmdF k line).bind fun p => (refF k line).bind fun q => (sameG k p.1 q.1).bind fun b => if b = true then (if p.2 = q.2 then some true else none) else none else none
theorem lawRd_calls {k : Nat} {line : ByteArray} {r : Bool} {W : World} (hgl : Glob W) (h : lawRd k line = some r) :
 Calls Tryz.prog 3 #[.string line] W fun e w' => e = .returned (.bool true) ∧ Below W.heap.size W w' := by
 unfold lawRd at h
 obtain ⟨wk, hw, h⟩ := bindS h
 split at h
 case isFalse => cases h
 rename_i hwk
 subst hwk
 obtain ⟨⟨p, p2⟩, hp, h⟩ := bindS h
 obtain ⟨⟨q, q2⟩, hq, h⟩ := bindS h
 obtain ⟨b, hbs, h⟩ := bindS h
 simp only at h hbs
 split at h
 case isFalse => cases h
 rename_i hbt
 subst hbt
 split at h
 case isFalse => cases h
 rename_i he
 have f1 : (p2 == q2) = true := beq_iff_eq.mpr he
 have HW := Aside0.mk hw
 have HG := Aside0.mk hgl
 have HX := Aside0.mk (Below.refl W.heap.size W)
 have HP1 := Aside0.mk hp
 have HQ1 := Aside0.mk hq
 have HBS := Aside0.mk hbs
 clear h hp hq hbs he hw hgl
 go_enter Tryz.func3, Tryz.ntmps3
 have C1 := wakes_calls HW.out (HG.out.below HX.out)
 go_upto_region 3 with (first | (go_at_call 8; (with_reducible refine C1.mono ?_); rintro ez w1 ⟨rfl, hb_⟩; have HS := Aside0.mk hb_; clear hb_))
 clear C1
 have n0_ := Aside0.mk (below_step HX.out HS.out)
 clear HX
 have HX := n0_
 clear n0_
 clear HS
 have C2 := cmdP_calls HP1.out (HG.out.below HX.out)
 go_upto_region 4 with (first | (go_at_call 9; (with_reducible refine C2.mono ?_); rintro ez w2 ⟨v2, rfl, hd_, hb_⟩; obtain ⟨Ap5, cp5, Ap7, cp7, Ap8, cp8, ed, hd2⟩ := hd_.reads; have HPp := Aside0.mk hd_.reads; rw [ed] at HPp; subst ed; have HY := Aside0.mk hb_; clear hd_ hb_ hd2))
 have HA := Aside0.mk (below_alloc (Below.refl w2.heap.size w2) (.cells (cmdCs p (.slice Ap5 p.tm.length cp5) (.slice Ap7 p.lf.length cp7) (.slice Ap8 p.rt.length cp8)) 28))
 have HZp := Aside0.mk (heap_alloc_new w2 (.cells (cmdCs p (.slice Ap5 p.tm.length cp5) (.slice Ap7 p.lf.length cp7) (.slice Ap8 p.rt.length cp8)) 28))
 change Code.wp _ _ _ _ (w2.alloc (.cells (cmdCs p (.slice Ap5 p.tm.length cp5) (.slice Ap7 p.lf.length cp7) (.slice Ap8 p.rt.length cp8)) 28))
 have HS := Aside0.mk (below_step HY.out HA.out)
 have n0_ := Aside0.mk (HPp.out.below HA.out)
 clear HPp
 have HPp := n0_
 clear n0_ HY
 generalize (w2.alloc (.cells (cmdCs p (.slice Ap5 p.tm.length cp5) (.slice Ap7 p.lf.length cp7) (.slice Ap8 p.rt.length cp8)) 28)) = W2 at HA HZp HS HPp ⊢
 generalize w2.heap.size = bp at HZp ⊢
 clear HA C2
 have n0_ := Aside0.mk (below_step HX.out HS.out)
 clear HX
 have HX := n0_
 clear n0_
 clear HS
 have C3 := refP_calls (W := W2) HQ1.out
 go_upto_region 5 with (first | (go_at_call 10; (with_reducible refine C3.mono ?_); rintro ez w3 ⟨v3, rfl, hd_, hb_⟩; obtain ⟨Aq5, cq5, Aq7, cq7, Aq8, cq8, ed, hd2⟩ := hd_.reads; have HPq := Aside0.mk hd_.reads; rw [ed] at HPq; subst ed; have HY := Aside0.mk hb_; clear hd_ hb_ hd2))
 have HA := Aside0.mk (below_alloc (Below.refl w3.heap.size w3) (.cells (cmdCs q (.slice Aq5 q.tm.length cq5) (.slice Aq7 q.lf.length cq7) (.slice Aq8 q.rt.length cq8)) 28))
 have HZq := Aside0.mk (heap_alloc_new w3 (.cells (cmdCs q (.slice Aq5 q.tm.length cq5) (.slice Aq7 q.lf.length cq7) (.slice Aq8 q.rt.length cq8)) 28))
 change Code.wp _ _ _ _ (w3.alloc (.cells (cmdCs q (.slice Aq5 q.tm.length cq5) (.slice Aq7 q.lf.length cq7) (.slice Aq8 q.rt.length cq8)) 28))
 have HS := Aside0.mk (below_step HY.out HA.out)
 have n0_ := Aside0.mk (HPq.out.below HA.out)
 clear HPq
 have HPq := n0_
 clear n0_ HY
 generalize (w3.alloc (.cells (cmdCs q (.slice Aq5 q.tm.length cq5) (.slice Aq7 q.lf.length cq7) (.slice Aq8 q.rt.length cq8)) 28)) = W3 at HA HZq HS HPq ⊢
 generalize w3.heap.size = bq at HZq ⊢
 clear HA C3
 have n0_ := Aside0.mk (below_step HX.out HS.out)
 clear HX
 have HX := n0_
 clear n0_
 have n0_ := Aside0.mk (blk_below HZp.out HS.out)
 clear HZp
 have HZp := n0_
 clear n0_
 have n0_ := Aside0.mk (HPp.out.below HS.out)
 clear HPp
 have HPp := n0_
 clear n0_
 clear HS
 obtain ⟨x0, x1, x2, x3⟩ := zc4 HZp.out; have x4 := (blk_cell HZp.out 4).trans rfl; have x5 := (blk_cell HZp.out 5).trans rfl; have x6 := (blk_cell HZp.out 6).trans rfl; have x7 := (blk_cell HZp.out 7).trans rfl; have x8 := (blk_cell HZp.out 8).trans rfl
 obtain ⟨y0, y1, y2, y3⟩ := zc4 HZq.out; have y4 := (blk_cell HZq.out 4).trans rfl; have y5 := (blk_cell HZq.out 5).trans rfl; have y6 := (blk_cell HZq.out 6).trans rfl; have y7 := (blk_cell HZq.out 7).trans rfl; have y8 := (blk_cell HZq.out 8).trans rfl
 have C4 := same22_calls HPp.out HPq.out HBS.out
 go_wp2_with (first | (go_at_call 11; (with_reducible refine C4.mono ?_); rintro ez w4 ⟨rfl, hb_⟩; have HS := Aside0.mk hb_; clear hb_))
 clear C4
 clear x0 x1 x2 x3 x4 x5 x6 x7 x8 y0 y1 y2 y3 y4 y5 y6 y7 y8
 have n0_ := Aside0.mk (below_step HX.out HS.out)
 clear HX
 have HX := n0_
 clear n0_
 have n0_ := Aside0.mk (blk_below HZp.out HS.out)
 clear HZp
 have HZp := n0_
 clear n0_
 have n0_ := Aside0.mk (blk_below HZq.out HS.out)
 clear HZq
 have HZq := n0_
 clear n0_
 have n0_ := Aside0.mk (HPp.out.below HS.out)
 clear HPp
 have HPp := n0_
 clear n0_
 have n0_ := Aside0.mk (HPq.out.below HS.out)
 clear HPq
 have HPq := n0_
 clear n0_
 clear HS
 go_ret
 exact ⟨rfl, HX.out⟩
end Go.Proofs.YtmlddeogmckgmaaGreatDoor.P

-- ==== PF8
namespace Go.Proofs.YtmlddeogmckgmaaGreatDoor.P
open Go.RowKit Go.Proofs.YtmlddeogmckgmaaGreatDoorW.PrintWords Go.Proofs.YtmlddeogmckgmaaGreatDoorW.PrintLast Go.Proofs.YtmlddeogmckgmaaGreatDoorW.PrintMore
attribute [local go_sem] max2_int min2_int max_two min_two max_three min_three max_four min_four

def aumbrylaw22_wakes.f (k : Nat) : Option Bool := wakesF k
theorem aumbrylaw22_wakes.mono : ∀ k, LeO (aumbrylaw22_wakes.f k) (aumbrylaw22_wakes.f (k + 1)) := fun k => wakesF_mono k
theorem aumbrylaw22_wakes.calls (k : Nat) (r : Bool) (w : World) (h : aumbrylaw22_wakes.f k = some r) (hgl : Glob w) :
 Calls Tryz.prog 8 #[] w fun e w' => e = .returned (.bool r) ∧ Below w.heap.size w w' := by
 exact wakes_calls h hgl



-- ==== PF3

def aumbrylaw22_CommandReads.f (k : Nat) (a0 : ByteArray) : Option Bool := lawRd k a0
theorem aumbrylaw22_CommandReads.calls (k : Nat) (a0 : ByteArray) (r : Bool) (w : World) (h : aumbrylaw22_CommandReads.f k a0 = some r) (hr : r = true) (hgl : Glob w) :
 Calls Tryz.prog 3 #[.string a0] w fun e w' => e = .returned (.bool true) ∧ Below w.heap.size w w' := by
 have GL := zM hgl
 clear hgl
 have HRT := zM hr
 clear hr
 obtain rfl := HRT.out
 exact lawRd_calls GL.out h



-- ==== PF9

def command_Parse.f (k : Nat) (a0 : ByteArray) : Option (Int × ByteArray × Int × Int × Bool × (List (S48)) × Int × (List (S48)) × (List (S48)) × Int) := (cmdF k a0).bind fun p => some (p.1.kd, p.1.nm, p.1.n, p.1.id, p.1.on, p.1.tm, p.1.rid, p.1.lf, p.1.rt, p.2)
theorem command_Parse.mono : ∀ a0 k, LeO (command_Parse.f k a0) (command_Parse.f (k + 1) a0) := fun a0 k => LeO.bind (cmdF_mono k a0) fun _ => LeO.refl _
theorem command_Parse.calls (k : Nat) (a0 : ByteArray) (r1 : Int) (r2 : ByteArray) (r3 : Int) (r4 : Int) (r5 : Bool) (r6 : List (S48)) (r7 : Int) (r8 : List (S48)) (r9 : List (S48)) (r10 : Int) (w : World) (h : command_Parse.f k a0 = some (r1, r2, r3, r4, r5, r6, r7, r8, r9, r10)) (hgl : Glob w) :
 Calls Tryz.prog 9 #[.string a0] w fun e w' => ∃ v5_ v7_ v8_ : Value, e = .returned (.tuple #[.agg #[.int .i64 r1, .string r2, .int .i64 r3, .int .i64 r4, .bool r5, v5_, .int .i64 r7, v7_, v8_], .int .i64 r10]) ∧ Kd.R k48 48 w' w.heap.size (fun k_ => some k_ ≠ (v7_ : Value).ownBlock ∧ some k_ ≠ (v8_ : Value).ownBlock) v5_ r6 ∧ Kd.R k48 48 w' w.heap.size (fun k_ => some k_ ≠ (v5_ : Value).ownBlock ∧ some k_ ≠ (v8_ : Value).ownBlock) v7_ r8 ∧ Kd.R k48 48 w' w.heap.size (fun k_ => some k_ ≠ (v5_ : Value).ownBlock ∧ some k_ ≠ (v7_ : Value).ownBlock) v8_ r9 ∧ Below w.heap.size w w' := by
 obtain ⟨⟨x, e⟩, hx, h⟩ := zB h
 simp only [Option.some.injEq, Prod.mk.injEq] at h
 obtain ⟨rfl, rfl, rfl, rfl, rfl, rfl, rfl, rfl, rfl, rfl⟩ := h
 refine (cmdP_calls hx hgl).mono ?_
 rintro z w' ⟨v, rfl, ⟨v5, v7, v8, rfl, h5, h7, h8⟩, hb⟩
 exact ⟨v5, v7, v8, rfl, h5, h7, h8, hb⟩


end Go.Proofs.YtmlddeogmckgmaaGreatDoor.P

-- ==== PO
namespace Go.Proofs.YtmlddeogmckgmaaGreatDoor.P
open Go.RowKit Go.Proofs.YtmlddeogmckgmaaGreatDoorW.PrintWords Go.Proofs.YtmlddeogmckgmaaGreatDoor.Open
def sz9 (s : ByteArray) : Prop := s.size ≤ 140737488351232
def bk9 (s : ByteArray) : Nat := s.size + 1
theorem op9 : Opens Tryz.prog 9 Kd.string sz9 bk9 := opens_string Tryz.underlying9 (by kernel_rfl)
end Go.Proofs.YtmlddeogmckgmaaGreatDoor.P

-- ==== PS3
namespace Go.Proofs.YtmlddeogmckgmaaGreatDoor.P
open Go.RowKit Go.Proofs.YtmlddeogmckgmaaGreatDoorW.PrintWords
def aumbrylaw22_CommandReads.Pure : Prop := ∀ (a0 : ByteArray), sz9 a0 → ∃ k, aumbrylaw22_CommandReads.f k a0 = some true
end Go.Proofs.YtmlddeogmckgmaaGreatDoor.P

-- ==== PLz
/- Plain laws: places in lists, sizes that came in. -/
namespace Go.Proofs.YtmlddeogmckgmaaGreatDoor.P
open Go.RowKit Go.Proofs.YtmlddeogmckgmaaGreatDoorW.PrintWords
theorem up_cast (a : Nat) (h : a < 9223372036854775807) : wrap64 ((a : Int) + 1) = ((a + 1 : Nat) : Int) := by rw [wrap_up (by omega) (by omega)]; rfl
theorem checkS_len {t : List Cel} (h : checkS t = 0) : t.length ≤ 64 := (checkS_ok h).1
end Go.Proofs.YtmlddeogmckgmaaGreatDoor.P

-- ==== PL4x
/- Plain laws of chapter 4: a text's signs, its words. -/
namespace Go.Proofs.YtmlddeogmckgmaaGreatDoor.P
open Go.RowKit Go.Proofs.YtmlddeogmckgmaaGreatDoorW.PrintWords
def signI (c : Int) : Bool := (decide (97 ≤ c) && decide (c ≤ 122)) || (decide (65 ≤ c) && decide (c ≤ 90)) || (decide (48 ≤ c) && decide (c ≤ 57))
def signU (x : UInt8) : Bool := signI (x.toNat : Int)
abbrev bl (s : ByteArray) : List UInt8 := s.data.toList
theorem bl_len (s : ByteArray) : (bl s).length = s.size := data_length s
theorem bl_inj {a b : ByteArray} (h : bl a = bl b) : a = b := by
 cases a; cases b
 simp only [ByteArray.mk.injEq]
 exact Array.toList_inj.1 h
theorem bt_drop {s : ByteArray} {j : Nat} {x : UInt8} {r : List UInt8} (h : (bl s).drop j = x :: r) : j < s.size ∧ bt s (j : Int) = (x.toNat : Int) ∧ (bl s).drop (j + 1) = r := by
 obtain ⟨h1, h2, h3⟩ := drop_cons h
 rw [bl_len] at h1
 refine ⟨h1, ?_, h3⟩
 unfold bt
 simp only [Int.toNat_natCast]
 rw [dif_pos h1]
 have := h2 0
 rw [List.getD_eq_getElem?_getD, List.getElem?_eq_getElem (by rw [bl_len]; exact h1)] at this
 simp only [Option.getD_some] at this
 rw [← this]
 simp [bl, ByteArray.getElem_eq_getElem_data]
theorem bl_drop_nil {s : ByteArray} {j : Nat} (h : j ≤ s.size) (h1 : (bl s).drop j = []) : j = s.size := by
 have := drop_nil_len (by rw [bl_len]; exact h) h1
 rw [bl_len] at this
 exact this
theorem bl_extract (s : ByteArray) (i j : Nat) : bl (s.extract i j) = ((bl s).drop i).take (j - i) := by
 unfold bl
 rw [ByteArray.data_extract, Array.toList_extract]
theorem sign_eq (c : Int) : aumbryref04_sign.f c = some (signI c) := by
 unfold aumbryref04_sign.f signI
 by_cases c1 : c ≥ 48 <;> by_cases c2 : c ≤ 57 <;> by_cases c3 : c ≥ 97 <;> by_cases c4 : c ≤ 122 <;> by_cases c5 : c ≥ 65 <;> by_cases c6 : c ≤ 90 <;> first | (exfalso; omega) | (simp [c1, c2, c3, c4, c5, c6])
def wdL (s : ByteArray) (i : Nat) : List UInt8 := ((bl s).drop i).takeWhile signU
theorem wdL_cons {s : ByteArray} {j : Nat} {x : UInt8} {r : List UInt8} (h : (bl s).drop j = x :: r) (hx : signU x = true) : wdL s j = x :: wdL s (j + 1) := by
 unfold wdL
 rw [h, List.takeWhile_cons_of_pos hx, (bt_drop h).2.2]
theorem wdL_stop {s : ByteArray} {j : Nat} {x : UInt8} {r : List UInt8} (h : (bl s).drop j = x :: r) (hx : ¬ signU x = true) : wdL s j = [] := by
 unfold wdL
 rw [h, List.takeWhile_cons_of_neg hx]
theorem wdL_end {s : ByteArray} {j : Nat} (h : (bl s).drop j = []) : wdL s j = [] := by
 unfold wdL
 rw [h]
 rfl
theorem wdL_bound {s : ByteArray} {j : Nat} (h : j ≤ s.size) : j + (wdL s j).length ≤ s.size := by
 have h1 : (wdL s j).length ≤ ((bl s).drop j).length := by
  unfold wdL
  exact (List.takeWhile_sublist _).length_le
 rw [List.length_drop, bl_len] at h1
 omega
def wdT (s : ByteArray) (i : Nat) : ByteArray := s.extract i (i + (wdL s i).length)
theorem wdT_bl (s : ByteArray) (i : Nat) : bl (wdT s i) = wdL s i := by
 unfold wdT
 rw [bl_extract, show i + (wdL s i).length - i = (wdL s i).length by omega]
 have : wdL s i <+: (bl s).drop i := List.takeWhile_prefix _
 exact (List.prefix_iff_eq_take.1 this).symm
theorem wd_behind (s : ByteArray) (i : Nat) : (bl s).drop (i + (wdL s i).length) = ((bl s).drop i).dropWhile signU := by
 rw [← List.drop_drop]
 have : ∀ l : List UInt8, l.drop (l.takeWhile signU).length = l.dropWhile signU := by
  intro l
  induction l with
  | nil => rfl
  | cons x l ih =>
   by_cases hx : signU x = true
   ·
    rw [List.takeWhile_cons_of_pos hx, List.dropWhile_cons_of_pos hx]
    simpa using ih
   ·
    rw [List.takeWhile_cons_of_neg hx, List.dropWhile_cons_of_neg hx]
    rfl
 exact this _
def nxL (s : ByteArray) (i : Nat) : Int := match (bl s).drop i with
 | [] => 0
 | x :: _ => (x.toNat : Int)
theorem nxS_eq (s : ByteArray) (i : Nat) (h : i ≤ s.size) : nxS s (i : Int) = nxL s i := by
 unfold nxS nxL
 cases hd : (bl s).drop i with
 | nil =>
  have := bl_drop_nil h hd
  rw [if_neg (by omega)]
 | cons x r =>
  have := bt_drop hd
  rw [if_pos (by omega), this.2.1]
theorem word_step (k : Nat) (from_ c : Int) (s : ByteArray) (i : Int) (v : Value) : term_reader_word.l0 (k + 1) from_ c s i v =
 if signI c = true then ((term_reader_next.f s (wrap64 (i + 1)) v).bind fun b => term_reader_word.l0 k from_ b.1 b.2.1 b.2.2 v)
 else (if 0 ≤ from_ then (if from_ ≤ i then (if i ≤ (s.size : Int) then some (s.extract from_.toNat i.toNat, s, i) else none) else none) else none) := by
 rw [term_reader_word.l0]
 unfold signI
 by_cases c1 : c ≥ 48 <;> by_cases c2 : c ≤ 57 <;> by_cases c3 : c ≥ 97 <;> by_cases c4 : c ≤ 122 <;> by_cases c5 : c ≥ 65 <;> by_cases c6 : c ≤ 90 <;> first | (exfalso; omega) | (simp [c1, c2, c3, c4, c5, c6])
theorem ev_word_loop (s : ByteArray) (v : Value) (hs : s.size ≤ 100000) (from_ : Nat) : ∀ (l : List UInt8) (j : Nat), from_ ≤ j → j ≤ s.size → (bl s).drop j = l →
 Ev (fun k => term_reader_word.l0 k (from_ : Int) (nxL s j) s (j : Int) v) (s.extract from_ (j + (wdL s j).length), s, ((j + (wdL s j).length : Nat) : Int))
 | [], j, hf, hj, hd => by
  have h0 : nxL s j = 0 := by unfold nxL; rw [hd]
  refine Ev.step (fun k => word_step k _ _ s _ v) ?_
  rw [h0, wdL_end hd]
  refine evIfn (by decide) (evIfp (by omega) (evIfp (by omega) (evIfp (by omega) ?_)))
  simp only [Int.toNat_natCast, List.length_nil, Nat.add_zero]
  exact Ev.now _
 | x :: r, j, hf, hj, hd => by
  obtain ⟨h1, h2, h3⟩ := bt_drop hd
  have h0 : nxL s j = (x.toNat : Int) := by unfold nxL; rw [hd]
  refine Ev.step (fun k => word_step k _ _ s _ v) ?_
  rw [h0]
  by_cases hx : signU x = true
  ·
   refine evIfp hx ?_
   rw [wrap_up (by omega) (by omega)]
   have hn : term_reader_next.f s ((j : Int) + 1) v = some (nxL s (j + 1), s, ((j + 1 : Nat) : Int)) := by
    rw [next_at s _ v (by omega), show (j : Int) + 1 = ((j + 1 : Nat) : Int) by omega, nxS_eq s (j + 1) (by omega)]
   refine Ev.bind (evIs hn) ?_
   rw [wdL_cons hd hx]
   have := ev_word_loop s v hs from_ r (j + 1) (by omega) (by omega) h3
   simp only [List.length_cons]
   rw [show j + ((wdL s (j + 1)).length + 1) = j + 1 + (wdL s (j + 1)).length by omega]
   exact this
  ·
   refine evIfn hx (evIfp (by omega) (evIfp (by omega) (evIfp (by omega) ?_)))
   rw [wdL_stop hd hx]
   simp only [Int.toNat_natCast, List.length_nil, Nat.add_zero]
   exact Ev.now _
theorem ev_word (s : ByteArray) (v : Value) (hs : s.size ≤ 100000) (i : Nat) (hi : i ≤ s.size) : Ev (fun k => term_reader_word.f k s (i : Int) v) (wdT s i, s, ((i + (wdL s i).length : Nat) : Int)) := by
 unfold term_reader_word.f
 have hn : term_reader_next.f s (i : Int) v = some (nxL s i, s, (i : Int)) := by
  rw [next_at s _ v (by omega), nxS_eq s i hi]
 refine Ev.bind (evIs hn) ?_
 exact ev_word_loop s v hs i _ i (by omega) hi rfl
end Go.Proofs.YtmlddeogmckgmaaGreatDoor.P

-- ==== PL4t
/- Plain laws of chapter 4: a term's text. -/
namespace Go.Proofs.YtmlddeogmckgmaaGreatDoor.P
open Go.RowKit Go.Proofs.YtmlddeogmckgmaaGreatDoorW.PrintWords
def closeB (n : Nat) : List UInt8 := if n = 0 then [] else [41]
def sepB (i : Nat) : UInt8 := if i = 0 then 40 else 44
inductive Tx : Nat → Nat → List Cel → List UInt8 → Nat → Prop
 | done (n : Nat) : Tx n n [] [] 0
 | arg {i n : Nat} {c : Cel} {l1 l2 : List Cel} {b1 b2 : List UInt8} {d1 d2 : Nat} (h : i < n) (h1 : Tx 0 (ar c) l1 b1 d1) (h2 : Tx (i + 1) n l2 b2 d2) :
  Tx i n (c :: (l1 ++ l2)) (sepB i :: (bl c.f0 ++ b1 ++ closeB (ar c) ++ b2)) (max (d1 + 1) d2)
theorem tx_seg {i n : Nat} {l : List Cel} {b : List UInt8} {d : Nat} (h : Tx i n l b d) : segN l (n - i) = some [] := by
 induction h with
 | done n => rw [Nat.sub_self]; rfl
 | @arg i n c l1 l2 b1 b2 d1 d2 h h1 h2 ih1 ih2 =>
  rw [show n - i = (n - (i + 1)) + 1 by omega]
  show segN (l1 ++ l2) (n - (i + 1) + ar c) = some []
  rw [Nat.add_comm, segN_add]
  have := segN_append l2 ih1
  rw [Nat.sub_zero] at this
  rw [this]
  exact ih2
theorem tx_of : ∀ (m : Nat) (l : List Cel) (i n : Nat), l.length ≤ m → i ≤ n → segN l (n - i) = some [] → ∃ b d, Tx i n l b d := by
 intro m
 induction m with
 | zero =>
  intro l i n hl hi h
  have : l = [] := List.eq_nil_of_length_eq_zero (by omega)
  subst this
  have := segN_nil_pos h
  have : i = n := by omega
  subst this
  exact ⟨[], 0, .done i⟩
 | succ m ih =>
  intro l i n hl hi h
  cases l with
  | nil =>
   have := segN_nil_pos h
   have : i = n := by omega
   subst this
   exact ⟨[], 0, .done i⟩
  | cons c l =>
   have hin : i < n := by
    rcases Nat.lt_or_ge i n with h1 | h1
    ·
     exact h1
    ·
     rw [show n - i = 0 by omega] at h
     cases h
   rw [show n - i = (n - (i + 1)) + 1 by omega] at h
   have h' : segN l (n - (i + 1) + ar c) = some [] := h
   rw [Nat.add_comm, segN_add] at h'
   cases hr : segN l (ar c) with
   | none => rw [hr] at h'; cases h'
   | some r =>
    rw [hr] at h'
    obtain ⟨e, hs⟩ := segN_fst hr
    have hrl := (segN_len hr).1
    simp at hl
    obtain ⟨b1, d1, t1⟩ := ih (fstT l r) 0 (ar c) (by unfold fstT; rw [List.length_take]; omega) (Nat.zero_le _) (by rw [Nat.sub_zero]; exact hs)
    obtain ⟨b2, d2, t2⟩ := ih r (i + 1) n (by omega) (by omega) h'
    have ht := Tx.arg (c := c) hin t1 t2
    rw [← e] at ht
    exact ⟨_, _, ht⟩
theorem tx_term {t : List Cel} (h : checkS t = 0) : ∃ c l b d, t = c :: l ∧ Tx 0 (ar c) l b d ∧ (∀ x ∈ c :: l, Okc x) ∧ (c :: l).length ≤ 64 := by
 obtain ⟨h1, h2, h3⟩ := checkS_ok h
 rcases t with _ | ⟨c, l⟩
 ·
  cases h3
 have h4 : segN l (0 + ar c) = some [] := h3
 rw [Nat.zero_add] at h4
 obtain ⟨b, d, ht⟩ := tx_of l.length l 0 (ar c) (Nat.le_refl _) (Nat.zero_le _) h4
 exact ⟨c, l, b, d, rfl, ht, h2, h1⟩
def txtL (c : Cel) (b : List UInt8) : List UInt8 := bl c.f0 ++ b ++ closeB (ar c)
end Go.Proofs.YtmlddeogmckgmaaGreatDoor.P

-- ==== PLv
/- Plain laws: a term's variables, its arguments and its text: the program's answers and the document's. -/
namespace Go.Proofs.YtmlddeogmckgmaaGreatDoor.P
open Go.RowKit Go.Proofs.YtmlddeogmckgmaaGreatDoorW.PrintWords
instance txtMem (a : ByteArray) (l : List ByteArray) : Decidable (a ∈ l) :=
 if h : l.any (fun b => decide (a = b)) = true then isTrue (by obtain ⟨b, h1, h2⟩ := List.any_eq_true.1 h; rw [of_decide_eq_true h2]; exact h1) else isFalse (fun h1 => h (List.any_eq_true.2 ⟨a, h1, decide_eq_true rfl⟩))
theorem rd_txt {t : List ByteArray} {n : Nat} {c : ByteArray} {s : List ByteArray} (h : t.drop n = c :: s) : rdOf ByteArray.empty t (n : Int) = c := by
 unfold rdOf
 exact (drop_cons h).2.1 _
theorem ev_index_loop (l : List ByteArray) (a : ByteArray) (hl : l.length ≤ 9223372036854775806) : ∀ (u : List ByteArray) (i : Nat), i ≤ l.length → l.drop i = u →
 ∃ r, Ev (fun k => slices_Index_string_string.l0 k l a (l.length : Int) (i : Int)) r ∧ decide (r ≥ 0) = decide (a ∈ u)
 | [], i, hi, hu => by
  have h1 := drop_nil_len hi hu
  refine ⟨-1, Ev.step (fun k => (show slices_Index_string_string.l0 (k + 1) l a (l.length : Int) (i : Int) = _ from by rw [slices_Index_string_string.l0])) ?_, by simp⟩
  exact evIfn (by omega) (Ev.now _)
 | b :: u, i, hi, hu => by
  obtain ⟨h1, _, h3⟩ := drop_cons hu
  by_cases hab : a.toList = b.toList
  ·
   refine ⟨(i : Int), Ev.step (fun k => (show slices_Index_string_string.l0 (k + 1) l a (l.length : Int) (i : Int) = _ from by rw [slices_Index_string_string.l0])) ?_, ?_⟩
   ·
    refine evIfp (by omega) (evIfp (by omega) (evIfp (by omega) ?_))
    rw [rd_txt hu]
    exact evIfp hab (Ev.now _)
   ·
    rw [(bytes_eq a b).1 hab]
    simp
  ·
   obtain ⟨r, hr, he⟩ := ev_index_loop l a hl u (i + 1) (by omega) h3
   refine ⟨r, Ev.step (fun k => (show slices_Index_string_string.l0 (k + 1) l a (l.length : Int) (i : Int) = _ from by rw [slices_Index_string_string.l0])) ?_, ?_⟩
   ·
    refine evIfp (by omega) (evIfp (by omega) (evIfp (by omega) ?_))
    rw [rd_txt hu]
    refine evIfn hab ?_
    rw [up_cast i (by omega)]
    exact hr
   ·
    rw [he]
    have : a ≠ b := fun h => hab (by rw [h])
    simp [this]
theorem ev_contains (l : List ByteArray) (a : ByteArray) (hl : l.length ≤ 9223372036854775806) : Ev (fun k => slices_Contains_string_string.f k l a) (decide (a ∈ l)) := by
 unfold slices_Contains_string_string.f slices_Index_string_string.f
 obtain ⟨r, hr, he⟩ := ev_index_loop l a hl l 0 (by omega) rfl
 refine Ev.bind hr ?_
 rw [he]
 exact Ev.now _
theorem ev_has_loop (l : List ByteArray) (a : ByteArray) (hl : l.length ≤ 9223372036854775806) : ∀ (u : List ByteArray) (i : Nat), i ≤ l.length → l.drop i = u →
 Ev (fun k => aumbryref03_Has.l0 k l a (l.length : Int) (i : Int)) (decide (a ∈ u))
 | [], i, hi, hu => by
  have h1 := drop_nil_len hi hu
  refine Ev.step (fun k => (show aumbryref03_Has.l0 (k + 1) l a (l.length : Int) (i : Int) = _ from by rw [aumbryref03_Has.l0])) ?_
  exact evIfn (by omega) (Ev.now _)
 | b :: u, i, hi, hu => by
  obtain ⟨h1, _, h3⟩ := drop_cons hu
  refine Ev.step (fun k => (show aumbryref03_Has.l0 (k + 1) l a (l.length : Int) (i : Int) = _ from by rw [aumbryref03_Has.l0])) ?_
  refine evIfp (by omega) (evIfp (by omega) (evIfp (by omega) ?_))
  rw [rd_txt hu]
  by_cases hab : b.toList = a.toList
  ·
   have : decide (a ∈ b :: u) = true := by rw [(bytes_eq b a).1 hab]; simp
   rw [this]
   exact evIfp hab (Ev.now _)
  ·
   have : decide (a ∈ b :: u) = decide (a ∈ u) := by
    have : a ≠ b := fun h => hab (by rw [h])
    simp [this]
   rw [this]
   refine evIfn hab ?_
   rw [up_cast i (by omega)]
   exact ev_has_loop l a hl u (i + 1) (by omega) h3
theorem ev_has (l : List ByteArray) (a : ByteArray) (hl : l.length ≤ 9223372036854775806) : Ev (fun k => aumbryref03_Has.f k l a) (decide (a ∈ l)) := by
 unfold aumbryref03_Has.f
 exact ev_has_loop l a hl l 0 (by omega) rfl
def varsS : List ByteArray → List Cel → List ByteArray
 | out, [] => out
 | out, c :: l => if kindS c.f0 = 2 then (if c.f0 ∈ out then varsS out l else varsS (out ++ [c.f0]) l) else varsS out l
theorem ev_vars_loop (t : List Cel) (ht : t.length ≤ 1000) : ∀ (u : List Cel) (i : Nat) (out : List ByteArray), i ≤ t.length → t.drop i = u → out.length ≤ i →
 Ev (fun k => term_Vars.l0 k out t (t.length : Int) (i : Int)) (varsS out u, 0)
 | [], i, out, hi, hu, ho => by
  have h1 := drop_nil_len hi hu
  refine Ev.step (fun k => (show term_Vars.l0 (k + 1) out t (t.length : Int) (i : Int) = _ from by rw [term_Vars.l0])) ?_
  exact evIfn (by omega) (Ev.now _)
 | c :: u, i, out, hi, hu, ho => by
  obtain ⟨h1, _, h3⟩ := drop_cons hu
  refine Ev.step (fun k => (show term_Vars.l0 (k + 1) out t (t.length : Int) (i : Int) = _ from by rw [term_Vars.l0])) ?_
  refine evIfp (by omega) (evIfp (by omega) (evIfp (by omega) ?_))
  simp only [rd_cel hu, up_cast i (by omega)]
  refine Ev.bind (ev_kind c.f0) ?_
  have hv : varsS out (c :: u) = if kindS c.f0 = 2 then (if c.f0 ∈ out then varsS out u else varsS (out ++ [c.f0]) u) else varsS out u := rfl
  by_cases hk : kindS c.f0 = 2
  ·
   refine evIfp hk ?_
   rw [hv, if_pos hk]
   refine Ev.bind (ev_contains out c.f0 (by omega)) ?_
   by_cases hm : c.f0 ∈ out
   ·
    rw [if_pos hm]
    exact evIfp (decide_eq_true hm) (ev_vars_loop t ht u (i + 1) out (by omega) h3 (by omega))
   ·
    rw [if_neg hm]
    exact evIfn (by simpa using hm) (evIfp (by omega) (ev_vars_loop t ht u (i + 1) (out ++ [c.f0]) (by omega) h3 (by simp; omega)))
  ·
   refine evIfn hk ?_
   rw [hv, if_neg hk]
   exact ev_vars_loop t ht u (i + 1) out (by omega) h3 (by omega)
theorem ev_rvars_loop (t : List Cel) (ht : t.length ≤ 1000) : ∀ (u : List Cel) (i : Nat) (out : List ByteArray), i ≤ t.length → t.drop i = u → out.length ≤ i →
 Ev (fun k => aumbryref04_Vars.l0 k t out (t.length : Int) (i : Int)) (varsS out u)
 | [], i, out, hi, hu, ho => by
  have h1 := drop_nil_len hi hu
  refine Ev.step (fun k => (show aumbryref04_Vars.l0 (k + 1) t out (t.length : Int) (i : Int) = _ from by rw [aumbryref04_Vars.l0])) ?_
  exact evIfn (by omega) (Ev.now _)
 | c :: u, i, out, hi, hu, ho => by
  obtain ⟨h1, _, h3⟩ := drop_cons hu
  refine Ev.step (fun k => (show aumbryref04_Vars.l0 (k + 1) t out (t.length : Int) (i : Int) = _ from by rw [aumbryref04_Vars.l0])) ?_
  refine evIfp (by omega) (evIfp (by omega) (evIfp (by omega) ?_))
  simp only [rd_cel hu, up_cast i (by omega)]
  refine Ev.bind (ev_refKind c.f0) ?_
  have hv : varsS out (c :: u) = if kindS c.f0 = 2 then (if c.f0 ∈ out then varsS out u else varsS (out ++ [c.f0]) u) else varsS out u := rfl
  by_cases hk : kindS c.f0 = 2
  ·
   refine evIfp hk ?_
   rw [hv, if_pos hk]
   refine Ev.bind (ev_has out c.f0 (by omega)) ?_
   by_cases hm : c.f0 ∈ out
   ·
    rw [if_pos hm]
    exact evIfp (decide_eq_true hm) (ev_rvars_loop t ht u (i + 1) out (by omega) h3 (by omega))
   ·
    rw [if_neg hm]
    exact evIfn (by simpa using hm) (evIfp (by omega) (ev_rvars_loop t ht u (i + 1) (out ++ [c.f0]) (by omega) h3 (by simp; omega)))
  ·
   refine evIfn hk ?_
   rw [hv, if_neg hk]
   exact ev_rvars_loop t ht u (i + 1) out (by omega) h3 (by omega)
theorem ev_vars {t : List Cel} (h : checkS t = 0) : Ev (fun k => term_Vars.f k t) (varsS [] t, 0) := by
 have := checkS_len h
 unfold term_Vars.f
 refine Ev.bind (ev_check t) (evIfp h ?_)
 exact ev_vars_loop t (by omega) t 0 [] (by omega) rfl (by simp)
theorem ev_vars_no {t : List Cel} (h : ¬ checkS t = 0) : Ev (fun k => term_Vars.f k t) ([], checkS t) := by
 unfold term_Vars.f
 exact Ev.bind (ev_check t) (evIfn h (Ev.now _))
theorem ev_rvars {t : List Cel} (h : t.length ≤ 1000) : Ev (fun k => aumbryref04_Vars.f k t) (varsS [] t) := by
 unfold aumbryref04_Vars.f
 exact ev_rvars_loop t h t 0 [] (by omega) rfl (by simp)
theorem varsS_len : ∀ (u : List Cel) (out : List ByteArray), (varsS out u).length ≤ out.length + u.length
 | [], out => by simp [varsS]
 | c :: u, out => by
  have hv : varsS out (c :: u) = if kindS c.f0 = 2 then (if c.f0 ∈ out then varsS out u else varsS (out ++ [c.f0]) u) else varsS out u := rfl
  have h1 := varsS_len u out
  have h2 := varsS_len u (out ++ [c.f0])
  rw [hv]
  simp only [List.length_append, List.length_cons, List.length_nil] at h2 ⊢
  split
  ·
   split <;> omega
  ·
   omega
theorem bl_append (a b : ByteArray) : bl (a ++ b) = bl a ++ bl b := by
 unfold bl
 rw [ByteArray.data_append, Array.toList_append]
end Go.Proofs.YtmlddeogmckgmaaGreatDoor.P

-- ==== PL6
/- Plain laws of chapter 6: whether a rule may be: the program's answer and the document's come to one function. -/
namespace Go.Proofs.YtmlddeogmckgmaaGreatDoor.P
open Go.RowKit Go.Proofs.YtmlddeogmckgmaaGreatDoorW.PrintWords
abbrev zc : Cel := z48
def ruleS (id : Int) (l r : List Cel) : Int := if id < 0 then 1 else if id > 65535 then 1 else if checkS l = 0 then (if checkS r = 0 then (if l.length > 8 then 6 else if r.length > 8 then 6 else
 if kindS (l.getD 0 zc).f0 = 2 then 20 else if (varsS [] r).all (fun v => decide (v ∈ varsS [] l)) = true then 0 else 7) else checkS r) else checkS l
theorem ev_strF (vl : List ByteArray) (hl : vl.length ≤ 9223372036854775806) : ∀ vr : List ByteArray, Ev (fun k => strF k vl vr) (!(vr.all (fun v => decide (v ∈ vl))))
 | [] => Ev.now _
 | v :: u => by
  have e : (fun k => strF k vl (v :: u)) = (fun k => (slices_Contains_string_string.f k vl v).bind fun b => if b = true then strF k vl u else some true) := rfl
  rw [e]
  refine Ev.bind (ev_contains vl v hl) ?_
  by_cases hv : v ∈ vl
  ·
   refine evIfp (decide_eq_true hv) ?_
   have : (v :: u).all (fun v => decide (v ∈ vl)) = u.all (fun v => decide (v ∈ vl)) := by simp [hv]
   rw [this]
   exact ev_strF vl hl u
  ·
   refine evIfn (by simpa using hv) ?_
   have : (v :: u).all (fun v => decide (v ∈ vl)) = false := by simp [hv]
   rw [this]
   exact Ev.now _
theorem ok_pos {l : List Cel} (h : checkS l = 0) : 0 < l.length := by
 obtain ⟨c, u, _, _, rfl, _⟩ := tx_term h
 simp
theorem vars_len {l : List Cel} (h : checkS l = 0) : (varsS [] l).length ≤ 64 := by
 have := varsS_len l []
 have := checkS_len h
 simp only [List.length_nil] at *
 omega
theorem ev_rch (id : Int) (l r : List Cel) : Ev (fun k => rule_Check.f k id l r) (ruleS id l r) := by
 unfold rule_Check.f rchF ruleS
 by_cases h1 : id < 0
 ·
  simp only [if_pos h1]; exact Ev.now _
 simp only [if_neg h1]
 by_cases h2 : id > 65535
 ·
  simp only [if_pos h2]; exact Ev.now _
 simp only [if_neg h2]
 refine Ev.bind (ev_check l) ?_
 by_cases h3 : checkS l = 0
 case neg =>
  refine evIfn h3 ?_
  rw [if_neg h3]
  exact Ev.now _
 refine evIfp h3 ?_
 rw [if_pos h3]
 refine Ev.bind (ev_check r) ?_
 by_cases h4 : checkS r = 0
 case neg =>
  refine evIfn h4 ?_
  rw [if_neg h4]
  exact Ev.now _
 refine evIfp h4 ?_
 rw [if_pos h4]
 by_cases h5 : l.length > 8
 ·
  simp only [if_pos h5]; exact Ev.now _
 simp only [if_neg h5]
 by_cases h6 : r.length > 8
 ·
  simp only [if_pos h6]; exact Ev.now _
 simp only [if_neg h6]
 refine evIfp (ok_pos h3) ?_
 refine Ev.bind (ev_kind _) ?_
 have e : rd_T48 l 0 = l.getD 0 zc := rfl
 rw [e]
 by_cases h7 : kindS (l.getD 0 zc).f0 = 2
 ·
  refine evIfp h7 ?_
  rw [if_pos h7]
  exact Ev.now _
 refine evIfn h7 ?_
 rw [if_neg h7]
 refine Ev.bind (ev_vars h3) (Ev.bind (ev_vars h4) ?_)
 refine Ev.bind (ev_strF (varsS [] l) (by have := vars_len h3; omega) (varsS [] r)) ?_
 by_cases h8 : (varsS [] r).all (fun v => decide (v ∈ varsS [] l)) = true
 ·
  rw [if_pos h8, h8]
  exact Ev.now _
 ·
  have h9 : (varsS [] r).all (fun v => decide (v ∈ varsS [] l)) = false := by simpa using h8
  rw [if_neg h8, h9]
  exact Ev.now _
theorem one_var {l : List Cel} (h : checkS l = 0) (hk : kindS (l.getD 0 zc).f0 = 2) : l.length = 1 := by
 obtain ⟨c, u, b, d, rfl, h1, h2, _⟩ := tx_term h
 have hc := h2 c (List.mem_cons_self ..)
 have ha : ar c = 0 := by unfold ar; rw [hc.var hk]; rfl
 rw [ha] at h1
 have := tx_seg h1
 rw [Nat.sub_zero, segN_zero] at this
 injection this with this
 rw [this]
 rfl
theorem ev_rcheck_loop (vl vr : List ByteArray) (hl : vl.length ≤ 9223372036854775806) (hr : vr.length ≤ 9223372036854775806) : ∀ (u : List ByteArray) (i : Nat), i ≤ vr.length → vr.drop i = u →
 Ev (fun k => aumbryref06_Check.l0 k vl vr (vr.length : Int) (i : Int)) (if u.all (fun v => decide (v ∈ vl)) = true then 0 else 7)
 | [], i, hi, hu => by
  have h1 := drop_nil_len hi hu
  refine Ev.step (fun k => (show aumbryref06_Check.l0 (k + 1) vl vr (vr.length : Int) (i : Int) = _ from by rw [aumbryref06_Check.l0])) ?_
  exact evIfn (by omega) (Ev.now _)
 | v :: u, i, hi, hu => by
  obtain ⟨h1, _, h3⟩ := drop_cons hu
  refine Ev.step (fun k => (show aumbryref06_Check.l0 (k + 1) vl vr (vr.length : Int) (i : Int) = _ from by rw [aumbryref06_Check.l0])) ?_
  refine evIfp (by omega) (evIfp (by omega) (evIfp (by omega) ?_))
  rw [rd_txt hu, up_cast i (by omega)]
  refine Ev.bind (ev_has vl v hl) ?_
  by_cases hv : v ∈ vl
  ·
   refine evIfp (decide_eq_true hv) ?_
   have : (v :: u).all (fun v => decide (v ∈ vl)) = u.all (fun v => decide (v ∈ vl)) := by simp [hv]
   rw [this]
   exact ev_rcheck_loop vl vr hl hr u (i + 1) (by omega) h3
  ·
   refine evIfn (by simpa using hv) ?_
   have : (v :: u).all (fun v => decide (v ∈ vl)) = false := by simp [hv]
   rw [this]
   exact Ev.now _
theorem ev_rcheck (id : Int) (l r : List Cel) : Ev (fun k => aumbryref06_Check.f k id l r) (ruleS id l r) := by
 have hj0t : ∀ q : Int, q = 1 → Ev (fun k => aumbryref06_Check.j0 k true id l r) q := fun q hq => by
  subst hq
  refine Ev.step (fun k => (show aumbryref06_Check.j0 (k + 1) true id l r = _ from by rw [aumbryref06_Check.j0])) ?_
  exact evIfp rfl (Ev.now _)
 have hj1t : ∀ q : Int, q = 6 → Ev (fun k => aumbryref06_Check.j1 k true id l r) q := fun q hq => by
  subst hq
  refine Ev.step (fun k => (show aumbryref06_Check.j1 (k + 1) true id l r = _ from by rw [aumbryref06_Check.j1])) ?_
  exact evIfp rfl (Ev.now _)
 unfold aumbryref06_Check.f ruleS
 by_cases h1 : id < 0
 ·
  rw [if_pos h1]
  exact evIfp h1 (hj0t _ rfl)
 rw [if_neg h1]
 refine evIfn h1 ?_
 by_cases h2 : id > 65535
 ·
  rw [if_pos h2, decide_eq_true h2]
  exact hj0t _ rfl
 rw [if_neg h2, decide_eq_false h2]
 refine Ev.step (fun k => (show aumbryref06_Check.j0 (k + 1) false id l r = _ from by rw [aumbryref06_Check.j0])) ?_
 refine evIfn (by simp) ?_
 refine Ev.bind (ev_refCheck l) ?_
 by_cases h3 : checkS l = 0
 case neg =>
  refine evIfn h3 ?_
  rw [if_neg h3]
  exact Ev.now _
 refine evIfp h3 ?_
 rw [if_pos h3]
 refine Ev.bind (ev_refCheck r) ?_
 by_cases h4 : checkS r = 0
 case neg =>
  refine evIfn h4 ?_
  rw [if_neg h4]
  exact Ev.now _
 refine evIfp h4 ?_
 rw [if_pos h4]
 have hl64 := checkS_len h3
 have hr64 := checkS_len h4
 by_cases h5 : l.length > 8
 ·
  rw [if_pos h5]
  exact evIfp (by omega) (hj1t _ rfl)
 rw [if_neg h5]
 refine evIfn (by omega) ?_
 by_cases h6 : r.length > 8
 ·
  rw [if_pos h6, decide_eq_true (show (r.length : Int) > 8 by omega)]
  exact hj1t _ rfl
 rw [if_neg h6, decide_eq_false (show ¬ (r.length : Int) > 8 by omega)]
 refine Ev.step (fun k => (show aumbryref06_Check.j1 (k + 1) false id l r = _ from by rw [aumbryref06_Check.j1])) ?_
 refine evIfn (by simp) ?_
 have hvar : Ev (fun k => aumbryref05_Var.f k l) (decide (kindS (l.getD 0 zc).f0 = 2)) := by
  unfold aumbryref05_Var.f
  by_cases h7 : (l.length : Int) = 1
  ·
   refine evIfp h7 (evIfp (by omega) ?_)
   refine Ev.bind (ev_refKind _) ?_
   have e : rd_T48 l 0 = l.getD 0 zc := rfl
   rw [e]
   exact Ev.now _
  ·
   refine evIfn h7 ?_
   have : ¬ kindS (l.getD 0 zc).f0 = 2 := fun hk => h7 (by have := one_var h3 hk; omega)
   rw [decide_eq_false this]
   exact Ev.now _
 refine Ev.bind hvar ?_
 by_cases h7 : kindS (l.getD 0 zc).f0 = 2
 ·
  rw [if_pos h7]
  exact evIfp (decide_eq_true h7) (Ev.now _)
 rw [if_neg h7]
 refine evIfn (by simpa using h7) ?_
 refine Ev.bind (ev_rvars (by omega)) (Ev.bind (ev_rvars (by omega)) ?_)
 exact ev_rcheck_loop _ _ (by have := vars_len h3; omega) (by have := vars_len h4; omega) _ 0 (by omega) rfl
end Go.Proofs.YtmlddeogmckgmaaGreatDoor.P

-- ==== PL4r
/- Plain laws of chapter 4: reading: what the program's reader and the document's come to, for every text; a term's text is read as the term. -/
namespace Go.Proofs.YtmlddeogmckgmaaGreatDoor.P
open Go.RowKit Go.Proofs.YtmlddeogmckgmaaGreatDoorW.PrintWords
abbrev RdR := Sum (Int × Int) (Int × List Cel)
theorem nxL_cons {s : ByteArray} {j : Nat} {x : UInt8} {r : List UInt8} (h : (bl s).drop j = x :: r) : nxL s j = (x.toNat : Int) := by
 unfold nxL
 rw [h]
theorem nxL_pos {s : ByteArray} {j : Nat} {c : Int} (h : nxL s j = c) (hc : c ≠ 0) : ∃ x r, (bl s).drop j = x :: r ∧ (x.toNat : Int) = c := by
 unfold nxL at h
 cases hd : (bl s).drop j with
 | nil => rw [hd] at h; exact absurd h.symm hc
 | cons x r => rw [hd] at h; exact ⟨x, r, rfl, h⟩
theorem u8_of {x : UInt8} {n : Nat} (h : (x.toNat : Int) = (n : Int)) (hn : n < 256) : x = UInt8.ofNat n := by
 apply UInt8.toNat_inj.1
 rw [UInt8.toNat_ofNat']
 omega
theorem wdT_empty (s : ByteArray) (i : Nat) : (wdT s i).toList = [] ↔ wdL s i = [] := by
 rw [toList_nil, ← bl_len, wdT_bl]
 exact List.length_eq_zero_iff
theorem drop_word (s : ByteArray) (i : Nat) : (bl s).drop i = wdL s i ++ (bl s).drop (i + (wdL s i).length) := by
 rw [wd_behind]
 exact (List.takeWhile_append_dropWhile).symm
theorem ev_rdTerm_at {s : ByteArray} {l : List Cel} {i : Nat} {r : RdR} (hs : s.size ≤ 100000) (hi : i ≤ s.size)
 (h : Ev (fun k => if (wdT s i).toList = [] then some (.inl ((i : Int), (3 : Int))) else if kindS (wdT s i) = 0 then some (.inl ((i : Int), (4 : Int))) else if (l.length : Int) = 64 then some (.inl ((i : Int), (6 : Int)))
  else if nxL s (i + (wdL s i).length) = 40 then (if kindS (wdT s i) = 2 then some (.inl (((i + (wdL s i).length : Nat) : Int), (5 : Int))) else rdArgs k s ((i + (wdL s i).length : Nat) : Int) (l ++ [⟨wdT s i, 0⟩]) l.length 1) else some (.inr (((i + (wdL s i).length : Nat) : Int), l ++ [⟨wdT s i, 0⟩]))) r) :
 Ev (fun k => rdTerm k s (i : Int) l) r := by
 refine Ev.step (fun k => (show rdTerm (k + 1) s (i : Int) l = _ from by rw [rdTerm])) ?_
 refine Ev.bind (ev_word s .nilIface hs i hi) ?_
 refine Ev.bind (ev_kind (wdT s i)) ?_
 simp only [nxS_eq s (i + (wdL s i).length) (wdL_bound hi)]
 exact h
theorem ev_rdArgs_inl {s : ByteArray} {l : List Cel} {i c : Nat} {n : Int} {x : Int × Int} (hi : i < 100000) (h : Ev (fun k => rdTerm k s ((i + 1 : Nat) : Int) l) (.inl x)) : Ev (fun k => rdArgs k s (i : Int) l c n) (.inl x) := by
 refine Ev.step (fun k => (show rdArgs (k + 1) s (i : Int) l c n = _ from by rw [rdArgs])) ?_
 rw [up_cast i (by omega)]
 exact Ev.bind h (Ev.now _)
theorem ev_rdArgs_inr {s : ByteArray} {l m : List Cel} {i c j : Nat} {n : Int} {r : RdR} (hi : i < 100000) (hj : j ≤ s.size) (hs : s.size ≤ 100000) (h : Ev (fun k => rdTerm k s ((i + 1 : Nat) : Int) l) (.inr ((j : Int), m))) (hc : c < m.length)
 (h2 : Ev (fun k => if nxL s j = 41 then some (.inr (((j + 1 : Nat) : Int), m.set c ⟨(rd_T48 m (c : Int)).f0, n⟩))
  else if nxL s j = 44 then (if n = 4 then some (.inl ((j : Int), (5 : Int))) else rdArgs k s (j : Int) (m.set c ⟨(rd_T48 m (c : Int)).f0, n⟩) c (wrap64 (n + 1))) else some (.inl ((j : Int), (3 : Int)))) r) :
 Ev (fun k => rdArgs k s (i : Int) l c n) r := by
 refine Ev.step (fun k => (show rdArgs (k + 1) s (i : Int) l c n = _ from by rw [rdArgs])) ?_
 rw [up_cast i (by omega)]
 refine Ev.bind h ?_
 refine evIfp hc ?_
 simp only [nxS_eq s j hj, up_cast j (by omega)]
 exact h2
theorem ev_read_scan {s : ByteArray} {l : List Cel} {i : Nat} {r : List Cel × Int × Int} (hs : s.size ≤ 100000) : ∀ (q : List UInt8) (j : Nat), j ≤ s.size → (bl s).drop j = q →
 Ev (fun k => aumbryref04_Read.j1 k s (i : Int) l ((j + (wdL s j).length : Nat) : Int)) r → Ev (fun k => aumbryref04_Read.l0 k s (i : Int) l (j : Int)) r
 | [], j, hj, hd, h => by
  have := bl_drop_nil hj hd
  rw [wdL_end hd] at h
  refine Ev.step (fun k => (show aumbryref04_Read.l0 (k + 1) s (i : Int) l (j : Int) = _ from by rw [aumbryref04_Read.l0])) ?_
  exact evIfn (by omega) h
 | x :: q, j, hj, hd, h => by
  obtain ⟨h1, h2, h3⟩ := bt_drop hd
  refine Ev.step (fun k => (show aumbryref04_Read.l0 (k + 1) s (i : Int) l (j : Int) = _ from by rw [aumbryref04_Read.l0])) ?_
  refine evIfp (by omega) (evIfp (by omega) ?_)
  refine Ev.bind (evIs (sign_eq _)) ?_
  rw [h2, up_cast j (by omega)]
  by_cases hx : signU x = true
  ·
   refine evIfp hx ?_
   rw [wdL_cons hd hx] at h
   refine ev_read_scan hs q (j + 1) (by omega) h3 ?_
   simp only [List.length_cons] at h
   rw [show j + 1 + (wdL s (j + 1)).length = j + ((wdL s (j + 1)).length + 1) by omega]
   exact h
  ·
   refine evIfn hx ?_
   rw [wdL_stop hd hx] at h
   exact h
theorem ev_Read_at {s : ByteArray} {l : List Cel} {i : Nat} {r : List Cel × Int × Int} (hs : s.size ≤ 100000) (hi : i ≤ s.size) (hl : l.length ≤ 64)
 (h : Ev (fun k => if (wdT s i).toList = [] then some (([] : List Cel), (i : Int), (3 : Int)) else if kindS (wdT s i) = 0 then some (([] : List Cel), (i : Int), (4 : Int)) else if (l.length : Int) = 64 then some (([] : List Cel), (i : Int), (6 : Int))
  else if nxL s (i + (wdL s i).length) = 40 then (if kindS (wdT s i) = 2 then some (([] : List Cel), ((i + (wdL s i).length : Nat) : Int), (5 : Int)) else aumbryref04_Read.l1 k s (l ++ [⟨wdT s i, 0⟩]) ((i + (wdL s i).length : Nat) : Int) (l.length : Int) 1) else some (l ++ [⟨wdT s i, 0⟩], ((i + (wdL s i).length : Nat) : Int), (0 : Int))) r) :
 Ev (fun k => aumbryref04_Read.f k s (i : Int) l) r := by
 have hb := wdL_bound (s := s) hi
 refine Ev.step (fun k => (show aumbryref04_Read.f (k + 1) s (i : Int) l = _ from by rw [aumbryref04_Read.f])) ?_
 refine ev_read_scan hs _ i hi rfl ?_
 refine Ev.step (fun k => (show aumbryref04_Read.j1 (k + 1) s (i : Int) l ((i + (wdL s i).length : Nat) : Int) = _ from by rw [aumbryref04_Read.j1])) ?_
 refine evIfp (by omega) (evIfp (by omega) (evIfp (by omega) ?_))
 have hw : s.extract ((i : Int)).toNat (((i + (wdL s i).length : Nat) : Int)).toNat = wdT s i := rfl
 simp only [hw]
 by_cases h1 : (wdT s i).toList = []
 ·
  simp only [if_pos h1] at h ⊢
  exact h
 ·
  simp only [if_neg h1] at h ⊢
  refine Ev.bind (ev_refKind _) ?_
  by_cases h2 : kindS (wdT s i) = 0
  ·
   simp only [if_pos h2] at h ⊢
   exact h
  ·
   simp only [if_neg h2] at h ⊢
   by_cases h3 : (l.length : Int) = 64
   ·
    simp only [if_pos h3] at h ⊢
    exact h
   ·
    simp only [if_neg h3] at h ⊢
    refine evIfp (by omega) ?_
    simp only [Option.bind_some]
    have hj2 : ∀ fl : Bool, Ev (fun k => if fl = true then some (l ++ [(⟨wdT s i, 0⟩ : Cel)], ((i + (wdL s i).length : Nat) : Int), (0 : Int)) else (if kindS (wdT s i) = 2 then some (([] : List Cel), ((i + (wdL s i).length : Nat) : Int), (5 : Int)) else aumbryref04_Read.l1 k s (l ++ [⟨wdT s i, 0⟩]) ((i + (wdL s i).length : Nat) : Int) (l.length : Int) 1)) r →
     Ev (fun k => aumbryref04_Read.j2 k s (l ++ [⟨wdT s i, 0⟩]) ((i + (wdL s i).length : Nat) : Int) (kindS (wdT s i)) (l.length : Int) fl) r := by
     intro fl hf
     refine Ev.step (fun k => (show aumbryref04_Read.j2 (k + 1) s (l ++ [⟨wdT s i, 0⟩]) ((i + (wdL s i).length : Nat) : Int) (kindS (wdT s i)) (l.length : Int) fl = _ from by rw [aumbryref04_Read.j2])) ?_
     exact hf
    cases hd : (bl s).drop (i + (wdL s i).length) with
    | nil =>
     have := bl_drop_nil hb hd
     have hn : nxL s (i + (wdL s i).length) = 0 := by unfold nxL; rw [hd]
     rw [hn] at h
     refine evIfp (by omega) (hj2 true ?_)
     simp only [if_true]
     simpa using h
    | cons x q =>
     obtain ⟨g1, g2, g3⟩ := bt_drop hd
     have hn := nxL_cons hd
     rw [hn] at h
     refine evIfn (by omega) (evIfp (by omega) (evIfp (by omega) ?_))
     rw [g2]
     refine hj2 _ ?_
     by_cases hx : (x.toNat : Int) = 40
     ·
      have e : ((x.toNat : Int) != 40) = false := by simp [hx]
      simp only [if_pos hx] at h
      rw [e]
      simpa using h
     ·
      have e : ((x.toNat : Int) != 40) = true := by simpa using hx
      simp only [if_neg hx] at h
      rw [e]
      simpa using h
theorem ev_Readl1_inl {s : ByteArray} {l : List Cel} {i c : Nat} {n p e : Int} (hi : i < 100000) (he : e ≠ 0) (h : Ev (fun k => aumbryref04_Read.f k s ((i + 1 : Nat) : Int) l) ([], p, e)) : Ev (fun k => aumbryref04_Read.l1 k s l (i : Int) (c : Int) n) ([], p, e) := by
 refine Ev.step (fun k => (show aumbryref04_Read.l1 (k + 1) s l (i : Int) (c : Int) n = _ from by rw [aumbryref04_Read.l1])) ?_
 rw [up_cast i (by omega)]
 refine Ev.bind h ?_
 exact evIfn he (Ev.now _)
theorem ev_Readl1_inr {s : ByteArray} {l m : List Cel} {i c j : Nat} {n : Int} {r : List Cel × Int × Int} (hi : i < 100000) (hj : j ≤ s.size) (hs : s.size ≤ 100000) (h : Ev (fun k => aumbryref04_Read.f k s ((i + 1 : Nat) : Int) l) (m, (j : Int), 0)) (hc : c < m.length)
 (h2 : Ev (fun k => if nxL s j = 41 then some (m.set c ⟨(rd_T48 m (c : Int)).f0, n⟩, ((j + 1 : Nat) : Int), (0 : Int))
  else if nxL s j = 44 then (if n = 4 then some (([] : List Cel), (j : Int), (5 : Int)) else aumbryref04_Read.l1 k s (m.set c ⟨(rd_T48 m (c : Int)).f0, n⟩) (j : Int) (c : Int) (wrap64 (n + 1))) else some (([] : List Cel), (j : Int), (3 : Int))) r) :
 Ev (fun k => aumbryref04_Read.l1 k s l (i : Int) (c : Int) n) r := by
 refine Ev.step (fun k => (show aumbryref04_Read.l1 (k + 1) s l (i : Int) (c : Int) n = _ from by rw [aumbryref04_Read.l1])) ?_
 rw [up_cast i (by omega)]
 refine Ev.bind h ?_
 refine evIfp rfl (evIfp (by omega) (evIfp (by simp only; omega) ?_))
 simp only [Option.bind_some, Int.toNat_natCast]
 generalize m.set c ⟨(rd_T48 m (c : Int)).f0, n⟩ = m' at h2 ⊢
 have hj5 : ∀ fl : Bool, Ev (fun k => if fl = true then some (([] : List Cel), (j : Int), (3 : Int)) else (if n = 4 then some (([] : List Cel), (j : Int), (5 : Int)) else aumbryref04_Read.l1 k s m' (j : Int) (c : Int) (wrap64 (n + 1)))) r →
  Ev (fun k => aumbryref04_Read.j5 k s m' (j : Int) (c : Int) n fl) r := by
  intro fl hf
  refine Ev.step (fun k => (show aumbryref04_Read.j5 (k + 1) s m' (j : Int) (c : Int) n fl = _ from by rw [aumbryref04_Read.j5])) ?_
  exact hf
 have hj4 : ∀ fl : Bool, Ev (fun k => if fl = true then some (m', ((j + 1 : Nat) : Int), (0 : Int)) else (if (j : Int) = (s.size : Int) then (aumbryref04_Read.j5 k s m' (j : Int) (c : Int) n true) else (if 0 ≤ (j : Int) then (if (j : Int) < (s.size : Int) then (aumbryref04_Read.j5 k s m' (j : Int) (c : Int) n ((bt s (j : Int)) != 44)) else none) else none))) r →
  Ev (fun k => aumbryref04_Read.j4 k s m' (j : Int) (c : Int) n fl) r := by
  intro fl hf
  refine Ev.step (fun k => (show aumbryref04_Read.j4 (k + 1) s m' (j : Int) (c : Int) n fl = _ from by rw [aumbryref04_Read.j4])) ?_
  rw [up_cast j (by omega)]
  exact hf
 cases hd : (bl s).drop j with
 | nil =>
  have := bl_drop_nil hj hd
  have hn : nxL s j = 0 := by unfold nxL; rw [hd]
  rw [hn] at h2
  refine evIfn (by omega) (hj4 false ?_)
  refine evIfn (by simp) (evIfp (by omega) (hj5 true ?_))
  simpa using h2
 | cons x q =>
  obtain ⟨g1, g2, g3⟩ := bt_drop hd
  have hn := nxL_cons hd
  rw [hn] at h2
  refine evIfp (by omega) (evIfp (by omega) ?_)
  rw [g2]
  refine hj4 _ ?_
  by_cases hx : (x.toNat : Int) = 41
  ·
   have e : ((x.toNat : Int) == 41) = true := by simp [hx]
   simp only [if_pos hx] at h2
   rw [e]
   simpa using h2
  ·
   have e : ((x.toNat : Int) == 41) = false := by simpa using hx
   simp only [if_neg hx] at h2
   rw [e]
   refine evIfn (by simp) (evIfn (by omega) (evIfp (by omega) (evIfp (by omega) ?_)))
   rw [g2]
   refine hj5 _ ?_
   by_cases hy : (x.toNat : Int) = 44
   ·
    have e : ((x.toNat : Int) != 44) = false := by simp [hy]
    simp only [if_pos hy] at h2
    rw [e]
    simpa using h2
   ·
    have e : ((x.toNat : Int) != 44) = true := by simpa using hy
    simp only [if_neg hy] at h2
    rw [e]
    simpa using h2
def cA : Sum (Nat × Int) (Nat × List Cel) → RdR
 | .inl x => .inl ((x.1 : Int), x.2)
 | .inr y => .inr ((y.1 : Int), y.2)
def cR : Sum (Nat × Int) (Nat × List Cel) → List Cel × Int × Int
 | .inl x => ([], (x.1 : Int), x.2)
 | .inr y => (y.2, (y.1 : Int), 0)
def RdOk (s : ByteArray) (pos : Nat) (acc : List Cel) : Sum (Nat × Int) (Nat × List Cel) → Prop
 | .inl x => x.1 ≤ s.size ∧ x.2 ≠ 0
 | .inr y => ∃ c l b d, y.2 = acc ++ c :: l ∧ Tx 0 (ar c) l b d ∧ (∀ x ∈ c :: l, Okc x) ∧ y.2.length ≤ 64 ∧ y.1 ≤ s.size ∧ pos < y.1 ∧ (bl s).drop pos = txtL c b ++ (bl s).drop y.1
def ArOk (s : ByteArray) (pos : Nat) (acc : List Cel) (cI i : Nat) : Sum (Nat × Int) (Nat × List Cel) → Prop
 | .inl x => x.1 ≤ s.size ∧ x.2 ≠ 0
 | .inr y => ∃ (N : Nat) (l : List Cel) (b : List UInt8) (d : Nat), i < N ∧ N ≤ 4 ∧ y.2 = acc.set cI ⟨(acc.getD cI z48).f0, (N : Int)⟩ ++ l ∧ Tx i N l b d ∧ (∀ x ∈ l, Okc x) ∧ y.2.length ≤ 64 ∧ y.1 ≤ s.size ∧ pos < y.1 ∧ (bl s).drop pos = b ++ 41 :: (bl s).drop y.1
theorem rd_getD (m : List Cel) (c : Nat) : rd_T48 m (c : Int) = m.getD c z48 := rfl
theorem getD_app {acc q : List Cel} {c : Nat} (h : c < acc.length) (z : Cel) : (acc ++ q).getD c z = acc.getD c z := by
 rw [List.getD_eq_getElem?_getD, List.getD_eq_getElem?_getD, List.getElem?_append_left h]
theorem getD_set {m : List Cel} {c : Nat} {x : Cel} (h : c < m.length) (z : Cel) : (m.set c x).getD c z = x := by
 rw [List.getD_eq_getElem?_getD, List.getElem?_set_self h]
 rfl
theorem set_app {acc q : List Cel} {c : Nat} {x : Cel} (h : c < acc.length) : (acc ++ q).set c x = acc.set c x ++ q := List.set_append_left c x h
theorem rd_sound (s : ByteArray) (hs : s.size ≤ 100000) : ∀ D : Nat,
 (∀ (pos : Nat) (acc : List Cel), s.size - pos < D → pos ≤ s.size → acc.length ≤ 64 → ∃ r, Ev (fun k => rdTerm k s (pos : Int) acc) (cA r) ∧ Ev (fun k => aumbryref04_Read.f k s (pos : Int) acc) (cR r) ∧ RdOk s pos acc r) ∧
 (∀ (pos : Nat) (acc : List Cel) (cI i : Nat) (q : List UInt8), s.size - pos < D → (bl s).drop pos = sepB i :: q → cI < acc.length → acc.length ≤ 64 → i < 4 → ∃ r, Ev (fun k => rdArgs k s (pos : Int) acc cI ((i + 1 : Nat) : Int)) (cA r) ∧ Ev (fun k => aumbryref04_Read.l1 k s acc (pos : Int) (cI : Int) ((i + 1 : Nat) : Int)) (cR r) ∧ ArOk s pos acc cI i r)
 | 0 => ⟨fun _ _ h => absurd h (Nat.not_lt_zero _), fun _ _ _ _ _ h => absurd h (Nat.not_lt_zero _)⟩
 | D + 1 => by
  obtain ⟨ihT, ihA⟩ := rd_sound s hs D
  constructor
  ·
   intro pos acc hD hp hl
   have hb := wdL_bound (s := s) hp
   have hdw := drop_word s pos
   by_cases h1 : (wdT s pos).toList = []
   ·
    refine ⟨.inl (pos, 3), ev_rdTerm_at hs hp (evIfp h1 (Ev.now _)), ev_Read_at hs hp hl (evIfp h1 (Ev.now _)), hp, show (3 : Int) ≠ 0 by decide⟩
   have h1' : wdL s pos ≠ [] := fun h => h1 ((wdT_empty s pos).2 h)
   have hw0 : 0 < (wdL s pos).length := List.length_pos_iff.2 h1'
   by_cases h2 : kindS (wdT s pos) = 0
   ·
    refine ⟨.inl (pos, 4), ev_rdTerm_at hs hp (evIfn h1 (evIfp h2 (Ev.now _))), ev_Read_at hs hp hl (evIfn h1 (evIfp h2 (Ev.now _))), hp, show (4 : Int) ≠ 0 by decide⟩
   by_cases h3 : (acc.length : Int) = 64
   ·
    refine ⟨.inl (pos, 6), ev_rdTerm_at hs hp (evIfn h1 (evIfn h2 (evIfp h3 (Ev.now _)))), ev_Read_at hs hp hl (evIfn h1 (evIfn h2 (evIfp h3 (Ev.now _)))), hp, show (6 : Int) ≠ 0 by decide⟩
   by_cases h4 : nxL s (pos + (wdL s pos).length) = 40
   ·
    by_cases h5 : kindS (wdT s pos) = 2
    ·
     refine ⟨.inl (pos + (wdL s pos).length, 5), ev_rdTerm_at hs hp (evIfn h1 (evIfn h2 (evIfn h3 (evIfp h4 (evIfp h5 (Ev.now _)))))), ev_Read_at hs hp hl (evIfn h1 (evIfn h2 (evIfn h3 (evIfp h4 (evIfp h5 (Ev.now _)))))), hb, show (5 : Int) ≠ 0 by decide⟩
    ·
     obtain ⟨x, q, hq, hx⟩ := nxL_pos h4 (by decide)
     have hx' : x = sepB 0 := u8_of (n := 40) hx (by decide)
     rw [hx'] at hq
     obtain ⟨r, e1, e2, e3⟩ := ihA (pos + (wdL s pos).length) (acc ++ [⟨wdT s pos, 0⟩]) acc.length 0 q (by have := (bt_drop hq).1; omega) hq (by simp) (by simp; omega) (by decide)
     refine ⟨r, ev_rdTerm_at hs hp (evIfn h1 (evIfn h2 (evIfn h3 (evIfp h4 (evIfn h5 e1))))), ev_Read_at hs hp hl (evIfn h1 (evIfn h2 (evIfn h3 (evIfp h4 (evIfn h5 e2))))), ?_⟩
     rcases r with ⟨p, e⟩ | ⟨j, m⟩
     ·
      exact e3
     ·
      obtain ⟨N, l, b, d, g1, g2, g3, g4, g5, g6, g7, g8, g9⟩ := e3
      have hcell : (acc ++ [(⟨wdT s pos, 0⟩ : Cel)]).getD acc.length z48 = ⟨wdT s pos, 0⟩ := by
       rw [List.getD_eq_getElem?_getD, List.getElem?_append_right (Nat.le_refl _), Nat.sub_self]
       rfl
      rw [hcell] at g3
      have hset : (acc ++ [(⟨wdT s pos, 0⟩ : Cel)]).set acc.length ⟨wdT s pos, (N : Int)⟩ = acc ++ [⟨wdT s pos, (N : Int)⟩] := by
       rw [List.set_append_right _ _ (Nat.le_refl _), Nat.sub_self]
       rfl
      have harN : ar (⟨wdT s pos, (N : Int)⟩ : Cel) = N := by unfold ar; simp
      refine ⟨⟨wdT s pos, (N : Int)⟩, l, b, d, ?_, by rw [harN]; exact g4, ?_, g6, g7, by simp only at g8; omega, ?_⟩
      ·
       rw [g3]
       simp only
       rw [hset]
       simp
      ·
       intro y hy
       rcases List.mem_cons.1 hy with rfl | hy
       ·
        exact ⟨h2, by simp only; omega, by simp only; omega, fun hk => absurd hk h5⟩
       ·
        exact g5 y hy
      ·
       rw [hdw, g9]
       unfold txtL closeB
       rw [harN, if_neg (by omega), wdT_bl]
       simp
   ·
    refine ⟨.inr (pos + (wdL s pos).length, acc ++ [⟨wdT s pos, 0⟩]), ev_rdTerm_at hs hp (evIfn h1 (evIfn h2 (evIfn h3 (evIfn h4 (Ev.now _))))), ev_Read_at hs hp hl (evIfn h1 (evIfn h2 (evIfn h3 (evIfn h4 (Ev.now _))))), ?_⟩
    refine ⟨⟨wdT s pos, 0⟩, [], [], 0, rfl, .done 0, ?_, by simp; omega, hb, by simp only; omega, ?_⟩
    ·
     intro y hy
     rw [List.mem_singleton.1 hy]
     exact ⟨h2, Int.le_refl _, show (0 : Int) ≤ 4 by decide, fun _ => rfl⟩
    ·
     rw [hdw]
     unfold txtL closeB
     rw [show ar (⟨wdT s pos, 0⟩ : Cel) = 0 from rfl, if_pos rfl, wdT_bl]
     simp
  ·
   intro pos acc cI i q hD hd hc hl hi
   obtain ⟨p1, p2, p3⟩ := bt_drop hd
   obtain ⟨r, e1, e2, e3⟩ := ihT (pos + 1) acc (by omega) (by omega) hl
   rcases r with ⟨p, e⟩ | ⟨j, m⟩
   ·
    exact ⟨.inl (p, e), ev_rdArgs_inl (by omega) e1, ev_Readl1_inl (by omega) e3.2 e2, e3⟩
   ·
    obtain ⟨c, l1, b1, d1, g1, g2, g3, g4, g5, g6, g7⟩ := e3
    simp only at g1 g4 g5 g6 g7
    have hcm : cI < m.length := by rw [g1, List.length_append]; omega
    have hnm : (rd_T48 m (cI : Int)).f0 = (acc.getD cI z48).f0 := by rw [rd_getD, g1, getD_app hc]
    have hset : ∀ N : Int, m.set cI ⟨(rd_T48 m (cI : Int)).f0, N⟩ = acc.set cI ⟨(acc.getD cI z48).f0, N⟩ ++ c :: l1 := by
     intro N
     rw [hnm, g1, set_app hc]
    have hdp : (bl s).drop pos = sepB i :: (txtL c b1 ++ (bl s).drop j) := by rw [hd, ← p3, g7]
    by_cases k1 : nxL s j = 41
    ·
     obtain ⟨x, q', hq, hx⟩ := nxL_pos k1 (by decide)
     have hx' : x = 41 := u8_of (n := 41) hx (by decide)
     rw [hx'] at hq
     have hj := bt_drop hq
     refine ⟨.inr (j + 1, m.set cI ⟨(rd_T48 m (cI : Int)).f0, ((i + 1 : Nat) : Int)⟩), ev_rdArgs_inr (by omega) g5 hs e1 hcm (evIfp k1 (Ev.now _)), ev_Readl1_inr (by omega) g5 hs e2 hcm (evIfp k1 (Ev.now _)), ?_⟩
     refine ⟨i + 1, c :: (l1 ++ []), _, _, by omega, by omega, ?_, Tx.arg (by omega) g2 (.done _), ?_, ?_, by simp only; omega, by simp only; omega, ?_⟩
     ·
      rw [hset]
      simp
     ·
      rw [List.append_nil]
      exact g3
     ·
      simp only [List.length_set]
      exact g4
     ·
      rw [hdp, hq, hj.2.2]
      unfold txtL
      simp
    ·
     by_cases k2 : nxL s j = 44
     ·
      by_cases k3 : ((i + 1 : Nat) : Int) = 4
      ·
       exact ⟨.inl (j, 5), ev_rdArgs_inr (by omega) g5 hs e1 hcm (evIfn k1 (evIfp k2 (evIfp k3 (Ev.now _)))), ev_Readl1_inr (by omega) g5 hs e2 hcm (evIfn k1 (evIfp k2 (evIfp k3 (Ev.now _)))), g5, show (5 : Int) ≠ 0 by decide⟩
      ·
       obtain ⟨x, q', hq, hx⟩ := nxL_pos k2 (by decide)
       have hx' : x = sepB (i + 1) := u8_of (n := 44) hx (by decide)
       rw [hx'] at hq
       have hj := bt_drop hq
       obtain ⟨r2, f1, f2, f3⟩ := ihA j (m.set cI ⟨(rd_T48 m (cI : Int)).f0, ((i + 1 : Nat) : Int)⟩) cI (i + 1) q' (by omega) hq (by rw [List.length_set]; exact hcm) (by rw [List.length_set]; exact g4) (by omega)
       have hup : wrap64 (((i + 1 : Nat) : Int) + 1) = ((i + 1 + 1 : Nat) : Int) := up_cast (i + 1) (by omega)
       refine ⟨r2, ev_rdArgs_inr (by omega) g5 hs e1 hcm (evIfn k1 (evIfp k2 (evIfn k3 (by rw [hup]; exact f1)))), ev_Readl1_inr (by omega) g5 hs e2 hcm (evIfn k1 (evIfp k2 (evIfn k3 (by rw [hup]; exact f2)))), ?_⟩
       rcases r2 with ⟨p, e⟩ | ⟨j2, m2⟩
       ·
        exact f3
       ·
        obtain ⟨N, l2, b2, d2, u1, u2, u3, u4, u5, u6, u7, u8, u9⟩ := f3
        simp only at u3 u6 u7 u8 u9
        clear hup
        rw [getD_set hcm, List.set_set, hset] at u3
        refine ⟨N, c :: (l1 ++ l2), _, _, by omega, u2, ?_, Tx.arg (by omega) g2 u4, ?_, u6, u7, by simp only; omega, ?_⟩
        ·
         rw [u3]
         simp
        ·
         intro y hy
         rcases List.mem_cons.1 hy with rfl | hy
         ·
          exact g3 _ (List.mem_cons_self ..)
         ·
          rcases List.mem_append.1 hy with hy | hy
          ·
           exact g3 _ (List.mem_cons_of_mem _ hy)
          ·
           exact u5 y hy
        ·
         rw [hdp, u9]
         unfold txtL
         simp
     ·
      exact ⟨.inl (j, 3), ev_rdArgs_inr (by omega) g5 hs e1 hcm (evIfn k1 (evIfn k2 (Ev.now _))), ev_Readl1_inr (by omega) g5 hs e2 hcm (evIfn k1 (evIfn k2 (Ev.now _))), g5, show (3 : Int) ≠ 0 by decide⟩
theorem parse_sound (s : ByteArray) : ∃ u at_ e, Ev (fun k => term_Parse.f k s) (u, at_, e) ∧ Ev (fun k => aumbryref04_Parse.f k s) (u, at_, e) ∧ u.length ≤ 64 ∧
 ((e ≠ 0 ∧ u = [] ∧ 0 ≤ at_ ∧ at_ ≤ (s.size : Int)) ∨ (e = 0 ∧ at_ = 0 ∧ ∃ c l b d, u = c :: l ∧ Tx 0 (ar c) l b d ∧ (∀ x ∈ c :: l, Okc x) ∧ bl s = txtL c b)) := by
 have hj0 : ∀ (u : List Cel) (a e : Int) (fl : Bool), Ev (fun k => aumbryref04_Parse.j0 k u a e fl) (if fl = true then ([], a, 3) else if e = 0 then (u, 0, 0) else ([], a, e)) := by
  intro u a e fl
  refine Ev.step (fun k => (show aumbryref04_Parse.j0 (k + 1) u a e fl = _ from by rw [aumbryref04_Parse.j0])) ?_
  cases fl
  ·
   refine evIfn (by simp) ?_
   by_cases he : e = 0
   ·
    simp only [if_pos he]; exact Ev.now _
   ·
    simp only [if_neg he]; exact Ev.now _
  ·
   exact evIfp rfl (Ev.now _)
 by_cases hs : (s.size : Int) > 1024
 ·
  refine ⟨[], 0, 2, ?_, ?_, by simp, .inl ⟨by decide, rfl, by decide, by omega⟩⟩
  ·
   unfold term_Parse.f parseF
   exact evIfp hs (Ev.now _)
  ·
   unfold aumbryref04_Parse.f
   exact evIfp hs (Ev.now _)
 ·
  obtain ⟨r, e1, e2, e3⟩ := (rd_sound s (by omega) (s.size + 1)).1 0 [] (by omega) (by omega) (by simp)
  rcases r with ⟨p, e⟩ | ⟨j, m⟩
  ·
   refine ⟨[], (p : Int), e, ?_, ?_, by simp, .inl ⟨e3.2, rfl, by omega, by have := e3.1; simp only at this; omega⟩⟩
   ·
    unfold term_Parse.f parseF
    exact evIfn hs (Ev.bind e1 (Ev.now _))
   ·
    unfold aumbryref04_Parse.f
    refine evIfn hs (Ev.bind e2 (evIfn e3.2 ?_))
    have := hj0 [] (p : Int) e false
    rw [if_neg (by simp), if_neg e3.2] at this
    exact this
  ·
   obtain ⟨c, l, b, d, g1, g2, g3, g4, g5, g6, g7⟩ := e3
   simp only [List.nil_append] at g1 g4 g5 g6 g7
   by_cases hj : (j : Int) < (s.size : Int)
   ·
    refine ⟨[], (j : Int), 3, ?_, ?_, by simp, .inl ⟨by decide, rfl, by omega, by omega⟩⟩
    ·
     unfold term_Parse.f parseF
     exact evIfn hs (Ev.bind e1 (evIfp hj (Ev.now _)))
    ·
     unfold aumbryref04_Parse.f
     refine evIfn hs (Ev.bind e2 (evIfp rfl ?_))
     have := hj0 m (j : Int) 0 true
     rw [if_pos rfl] at this
     have hdj : decide ((j : Int) < (s.size : Int)) = true := decide_eq_true hj
     rw [show (cR (.inr (j, m))).2.1 = (j : Int) from rfl, hdj]
     exact this
   ·
    refine ⟨m, 0, 0, ?_, ?_, g4, .inr ⟨rfl, rfl, c, l, b, d, g1, g2, g3, ?_⟩⟩
    ·
     unfold term_Parse.f parseF
     exact evIfn hs (Ev.bind e1 (evIfn hj (Ev.now _)))
    ·
     unfold aumbryref04_Parse.f
     refine evIfn hs (Ev.bind e2 (evIfp rfl ?_))
     have := hj0 m (j : Int) 0 false
     rw [if_neg (by simp), if_pos rfl] at this
     have hdj : decide ((j : Int) < (s.size : Int)) = false := decide_eq_false hj
     rw [show (cR (.inr (j, m))).2.1 = (j : Int) from rfl, hdj]
     exact this
    ·
     rw [List.drop_zero] at g7
     have : j = s.size := by omega
     rw [g7, this, List.drop_eq_nil_of_le (by rw [bl_len]; omega), List.append_nil]
end Go.Proofs.YtmlddeogmckgmaaGreatDoor.P

-- ==== PL6r
/- Plain laws of chapter 6: reading two texts as a rule; writing a rule. -/
namespace Go.Proofs.YtmlddeogmckgmaaGreatDoor.P
open Go.RowKit Go.Proofs.YtmlddeogmckgmaaGreatDoorW.PrintWords
theorem ev_rparse (s1 s2 : ByteArray) : ∃ l r e, Ev (fun k => rule_Parse.f k s1 s2) (0, l, r, e) ∧ Ev (fun k => aumbryref06_Parse.f k s1 s2) (0, l, r, e) ∧ l.length ≤ 64 ∧ r.length ≤ 64 ∧
 ((e ≠ 0 ∧ l = [] ∧ r = []) ∨ (e = 0 ∧ ruleS 0 l r = 0 ∧ ∃ c1 l1 b1 d1 c2 l2 b2 d2, l = c1 :: l1 ∧ r = c2 :: l2 ∧ Tx 0 (ar c1) l1 b1 d1 ∧ (∀ x ∈ c1 :: l1, Okc x) ∧ bl s1 = txtL c1 b1 ∧ Tx 0 (ar c2) l2 b2 d2 ∧ (∀ x ∈ c2 :: l2, Okc x) ∧ bl s2 = txtL c2 b2)) := by
 obtain ⟨u, a, e, h1, h1', h1l, h1c⟩ := parse_sound s1
 obtain ⟨v, b, f, h2, h2', h2l, h2c⟩ := parse_sound s2
 by_cases he : e = 0
 case neg =>
  refine ⟨[], [], e, ?_, ?_, by simp, by simp, .inl ⟨he, rfl, rfl⟩⟩
  ·
   unfold rule_Parse.f
   exact Ev.bind h1 (evIfn he (Ev.now _))
  ·
   unfold aumbryref06_Parse.f
   exact Ev.bind h1' (evIfn he (Ev.now _))
 by_cases hf : f = 0
 case neg =>
  refine ⟨[], [], f, ?_, ?_, by simp, by simp, .inl ⟨hf, rfl, rfl⟩⟩
  ·
   unfold rule_Parse.f
   exact Ev.bind h1 (evIfp he (Ev.bind h2 (evIfn hf (Ev.now _))))
  ·
   unfold aumbryref06_Parse.f
   exact Ev.bind h1' (evIfp he (Ev.bind h2' (evIfn hf (Ev.now _))))
 by_cases hr : ruleS 0 u v = 0
 case neg =>
  refine ⟨[], [], ruleS 0 u v, ?_, ?_, by simp, by simp, .inl ⟨hr, rfl, rfl⟩⟩
  ·
   unfold rule_Parse.f
   exact Ev.bind h1 (evIfp he (Ev.bind h2 (evIfp hf (Ev.bind (ev_rch 0 u v) (evIfn hr (Ev.now _))))))
  ·
   unfold aumbryref06_Parse.f
   exact Ev.bind h1' (evIfp he (Ev.bind h2' (evIfp hf (Ev.bind (ev_rcheck 0 u v) (evIfn hr (Ev.now _))))))
 refine ⟨u, v, 0, ?_, ?_, h1l, h2l, .inr ⟨rfl, hr, ?_⟩⟩
 ·
  unfold rule_Parse.f
  exact Ev.bind h1 (evIfp he (Ev.bind h2 (evIfp hf (Ev.bind (ev_rch 0 u v) (evIfp hr (Ev.now _))))))
 ·
  unfold aumbryref06_Parse.f
  exact Ev.bind h1' (evIfp he (Ev.bind h2' (evIfp hf (Ev.bind (ev_rcheck 0 u v) (evIfp hr (Ev.now _))))))
 rcases h1c with ⟨hx, _⟩ | ⟨_, _, c1, l1, b1, d1, e1, p1, p2, p3⟩
 ·
  exact absurd he hx
 rcases h2c with ⟨hx, _⟩ | ⟨_, _, c2, l2, b2, d2, e2, q1, q2, q3⟩
 ·
  exact absurd hf hx
 exact ⟨c1, l1, b1, d1, c2, l2, b2, d2, e1, e2, p1, p2, p3, q1, q2, q3⟩
section
variable {id : Int} {c1 c2 : Cel} {l1 l2 : List Cel} {b1 b2 : List UInt8} {d1 d2 : Nat} (h1 : Tx 0 (ar c1) l1 b1 d1) (o1 : ∀ x ∈ c1 :: l1, Okc x) (h2 : Tx 0 (ar c2) l2 b2 d2) (o2 : ∀ x ∈ c2 :: l2, Okc x)
include h1 o1 h2 o2
end
end Go.Proofs.YtmlddeogmckgmaaGreatDoor.P

-- ==== PL3s
/- Plain laws of chapter 3: the words of a line: the program's and the document's. -/
namespace Go.Proofs.YtmlddeogmckgmaaGreatDoor.P
open Go.RowKit Go.Proofs.YtmlddeogmckgmaaGreatDoorW.PrintWords
def wsL : List UInt8 → List UInt8 → List (List UInt8)
 | [], w => if w = [] then [] else [w]
 | c :: l, w => if c = 32 then (if w = [] then wsL l [] else w :: wsL l []) else wsL l (w ++ [c])
def baL (l : List UInt8) : ByteArray := ⟨l.toArray⟩
theorem bl_ba (l : List UInt8) : bl (baL l) = l := rfl
theorem baL_nil (w : List UInt8) : (baL w).toList = [] ↔ w = [] := by
 rw [ByteArray.toList_eq]
 show bl (baL w) = [] ↔ _
 rw [bl_ba]
theorem c32 (c : UInt8) : ((c.toNat : Int) = 32) ↔ c = 32 := by
 constructor
 ·
  intro h
  exact UInt8.toNat_inj.1 (show c.toNat = (32 : UInt8).toNat from by have : (32 : UInt8).toNat = 32 := rfl; omega)
 ·
  rintro rfl
  rfl
theorem wdsF_eq (s : ByteArray) : ∀ (l : List UInt8) (m f i : Nat), (bl s).drop i = l → i ≤ s.size → m + i = s.size + 1 → f ≤ i → wdsF s m f i = (wsL l (((bl s).drop f).take (i - f))).map baL
 | [], m, f, i, hd, hi, hm, hf => by
  have hs := bl_drop_nil hi hd
  obtain rfl : m = 1 := by omega
  simp only [wdsF, wsL]
  rw [if_neg (by omega)]
  have hlen : (((bl s).drop f).take (i - f)).length = i - f := by
   rw [List.length_take, List.length_drop, bl_len]
   omega
  by_cases h : f < i
  ·
   rw [if_pos h, if_neg (fun e => by rw [e] at hlen; simp at hlen; omega)]
   have e : s.extract f i = baL (((bl s).drop f).take (i - f)) := bl_inj (by rw [bl_extract, bl_ba])
   rw [e]
   rfl
  ·
   rw [if_neg h, if_pos (List.length_eq_zero_iff.1 (by rw [hlen]; omega))]
   rfl
 | c :: l, m, f, i, hd, hi, hm, hf => by
  obtain ⟨g1, g2, g3⟩ := bt_drop hd
  obtain ⟨m, rfl⟩ : ∃ q, m = q + 1 := ⟨m - 1, by omega⟩
  have hlen : (((bl s).drop f).take (i - f)).length = i - f := by
   rw [List.length_take, List.length_drop, bl_len]
   omega
  simp only [wdsF, wsL]
  rw [g2]
  by_cases hc : c = 32
  ·
   rw [if_pos hc, if_neg (fun h => h.2 ((c32 c).2 hc))]
   have ih := wdsF_eq s l m (i + 1) (i + 1) g3 (by omega) (by omega) (Nat.le_refl _)
   rw [Nat.sub_self, List.take_zero] at ih
   by_cases h : f < i
   ·
    rw [if_pos h, if_neg (fun e => by rw [e] at hlen; simp at hlen; omega), ih]
    have e : s.extract f i = baL (((bl s).drop f).take (i - f)) := bl_inj (by rw [bl_extract, bl_ba])
    rw [e]
    rfl
   ·
    rw [if_neg h, if_pos (List.length_eq_zero_iff.1 (by rw [hlen]; omega)), ih]
  ·
   rw [if_neg hc, if_pos ⟨g1, fun h => hc ((c32 c).1 h)⟩]
   rw [wdsF_eq s l m f (i + 1) g3 (by omega) (by omega) (by omega)]
   congr 2
   have e1 : i + 1 - f = (i - f) + 1 := by omega
   rw [e1, List.take_add_one]
   congr 1
   rw [List.getElem?_drop]
   have e2 : f + (i - f) = i := by omega
   rw [e2]
   have := congrArg List.head? hd
   rw [List.head?_drop] at this
   rw [this]
   rfl
theorem wdsS_eq (s : ByteArray) : wdsS s = (wsL (bl s) []).map baL := by
 have := wdsF_eq s (bl s) (s.size + 1) 0 0 rfl (by omega) (by omega) (Nat.le_refl _)
 exact this
theorem ev_refWords_loop (s : ByteArray) (hs : s.size ≤ 5864062014805) : ∀ (l : List UInt8) (i : Nat) (out : List ByteArray) (w : List UInt8), (bl s).drop i = l → i ≤ s.size → out.length ≤ i → w.length ≤ i →
 Ev (fun k => aumbryref03_Words.l0 k s out (baL w) (i : Int)) (out ++ (wsL l w).map baL)
 | [], i, out, w, hd, hi, ho, hw => by
  have h1 := bl_drop_nil hi hd
  refine Ev.step (fun k => (show aumbryref03_Words.l0 (k + 1) s out (baL w) (i : Int) = _ from by rw [aumbryref03_Words.l0])) ?_
  refine evIfn (by omega) ?_
  simp only [wsL]
  by_cases h : w = []
  ·
   rw [if_pos h]
   refine evIfp ((baL_nil w).2 h) ?_
   simp only [List.map_nil, List.append_nil]
   exact Ev.now _
  ·
   rw [if_neg h]
   exact evIfn (fun e => h ((baL_nil w).1 e)) (evIfp (by omega) (Ev.now _))
 | c :: l, i, out, w, hd, hi, ho, hw => by
  obtain ⟨g1, g2, g3⟩ := bt_drop hd
  refine Ev.step (fun k => (show aumbryref03_Words.l0 (k + 1) s out (baL w) (i : Int) = _ from by rw [aumbryref03_Words.l0])) ?_
  refine evIfp (by omega) (evIfp (by omega) ?_)
  rw [g2, up_cast i (by omega)]
  simp only [wsL]
  by_cases hc : c = 32
  ·
   rw [if_pos hc]
   refine evIfp ((c32 c).2 hc) ?_
   by_cases h : w = []
   ·
    rw [if_pos h]
    refine evIfp ((baL_nil w).2 h) ?_
    exact ev_refWords_loop s hs l (i + 1) out [] g3 (by omega) (by omega) (by simp)
   ·
    rw [if_neg h]
    refine evIfn (fun e => h ((baL_nil w).1 e)) (evIfp (by omega) ?_)
    have := ev_refWords_loop s hs l (i + 1) (out ++ [baL w]) [] g3 (by omega) (by simp; omega) (by simp)
    rw [List.append_assoc] at this
    exact this
  ·
   rw [if_neg hc]
   refine evIfn (fun h => hc ((c32 c).1 h)) (evIfp (by omega) (evIfp (by omega) ?_))
   rw [Int.toNat_natCast, Int.toNat_natCast]
   have e : s.extract i (i + 1) = baL [c] := bl_inj (by
    rw [bl_extract, bl_ba, hd]
    have : i + 1 - i = 1 := by omega
    rw [this]
    rfl)
   have e2 : baL w ++ baL [c] = baL (w ++ [c]) := bl_inj (by rw [bl_append]; rfl)
   rw [e, e2]
   refine evIfp ?_ ?_
   ·
    have h1 := bl_len (baL w)
    have h2 := bl_len (baL [c])
    rw [bl_ba] at h1 h2
    rw [← h1, ← h2]
    simp only [List.length_cons, List.length_nil]
    omega
   ·
    exact ev_refWords_loop s hs l (i + 1) out (w ++ [c]) g3 (by omega) (by omega) (by simp; omega)
theorem ev_refWords (s : ByteArray) (hs : s.size ≤ 5864062014805) : Ev (fun k => aumbryref03_Words.f k s) (wdsS s) := by
 rw [wdsS_eq]
 unfold aumbryref03_Words.f
 exact ev_refWords_loop s hs (bl s) 0 [] [] rfl (by omega) (by simp) (by simp)
theorem words_at (s : ByteArray) (h : s.size < 5864062014805) : name_Words.f s = some (wdsS s) := by
 unfold name_Words.f
 rw [if_pos h]
end Go.Proofs.YtmlddeogmckgmaaGreatDoor.P

-- ==== PL3j
/- Plain laws of chapter 3: words with blanks between them are these words again. -/
namespace Go.Proofs.YtmlddeogmckgmaaGreatDoor.P
open Go.RowKit Go.Proofs.YtmlddeogmckgmaaGreatDoorW.PrintWords
theorem wsL_cons (c : UInt8) (l w : List UInt8) : wsL (c :: l) w = if c = 32 then (if w = [] then wsL l [] else w :: wsL l []) else wsL l (w ++ [c]) := rfl
theorem not_in_snoc {w : List UInt8} {c : UInt8} (hw : (32 : UInt8) ∉ w) (hc : ¬ c = 32) : (32 : UInt8) ∉ w ++ [c] := by
 intro e
 rcases List.mem_append.1 e with e | e
 ·
  exact hw e
 ·
  exact hc (List.mem_singleton.1 e).symm
theorem wsL_good : ∀ (l w : List UInt8), (32 : UInt8) ∉ w → ∀ x ∈ wsL l w, x ≠ [] ∧ (32 : UInt8) ∉ x ∧ x.length ≤ l.length + w.length
 | [], w, hw, x, hx => by
  simp only [wsL] at hx
  split at hx
  ·
   cases hx
  ·
   rename_i h
   rw [List.mem_singleton.1 hx]
   exact ⟨h, hw, by simp⟩
 | c :: l, w, hw, x, hx => by
  rw [wsL_cons] at hx
  by_cases hc : c = 32
  ·
   rw [if_pos hc] at hx
   by_cases h : w = []
   ·
    rw [if_pos h] at hx
    obtain ⟨h1, h2, h3⟩ := wsL_good l [] (by simp) x hx
    exact ⟨h1, h2, by simp at h3 ⊢; omega⟩
   ·
    rw [if_neg h] at hx
    rcases List.mem_cons.1 hx with rfl | hx
    ·
     exact ⟨h, hw, by simp <;> omega⟩
    ·
     obtain ⟨h1, h2, h3⟩ := wsL_good l [] (by simp) x hx
     exact ⟨h1, h2, by simp at h3 ⊢; omega⟩
  ·
   rw [if_neg hc] at hx
   obtain ⟨h1, h2, h3⟩ := wsL_good l (w ++ [c]) (not_in_snoc hw hc) x hx
   exact ⟨h1, h2, by simp at h3 ⊢; omega⟩
theorem words_good (s : ByteArray) : ∀ x ∈ wdsS s, bl x ≠ [] ∧ (32 : UInt8) ∉ bl x ∧ x.size ≤ s.size := by
 intro x hx
 rw [wdsS_eq] at hx
 obtain ⟨y, hy, rfl⟩ := List.mem_map.1 hx
 obtain ⟨h1, h2, h3⟩ := wsL_good (bl s) [] (by simp) y hy
 refine ⟨by rw [bl_ba]; exact h1, by rw [bl_ba]; exact h2, ?_⟩
 rw [← bl_len, ← bl_len s, bl_ba]
 simpa using h3
end Go.Proofs.YtmlddeogmckgmaaGreatDoor.P

-- ==== PL3d
/- Plain laws of chapter 3: numbers and their digits (no program in sight). -/
namespace Go.Proofs.YtmlddeogmckgmaaGreatDoor.P
open Go.RowKit Go.Proofs.YtmlddeogmckgmaaGreatDoorW.PrintWords
def dgt (c : UInt8) : Prop := 48 ≤ c.toNat ∧ c.toNat ≤ 57
instance (c : UInt8) : Decidable (dgt c) := inferInstanceAs (Decidable (_ ∧ _))
def vl (a : Nat) (l : List UInt8) : Nat := l.foldl (fun a c => a * 10 + (c.toNat - 48)) a
theorem vl_nil (a : Nat) : vl a [] = a := rfl
theorem vl_cons (a : Nat) (c : UInt8) (l : List UInt8) : vl a (c :: l) = vl (a * 10 + (c.toNat - 48)) l := by unfold vl; rw [List.foldl_cons]
theorem vl_snoc (a : Nat) (l : List UInt8) (c : UInt8) : vl a (l ++ [c]) = vl a l * 10 + (c.toNat - 48) := by simp [vl]
theorem vl_ge : ∀ (l : List UInt8) (a : Nat), a * 10 ^ l.length ≤ vl a l
 | [], a => by simp [vl]
 | c :: l, a => by
  have := vl_ge l (a * 10 + (c.toNat - 48))
  rw [vl_cons, List.length_cons, Nat.pow_succ]
  have h : a * (10 ^ l.length * 10) ≤ (a * 10 + (c.toNat - 48)) * 10 ^ l.length := by
   rw [Nat.mul_comm (10 ^ l.length) 10, ← Nat.mul_assoc]
   exact Nat.mul_le_mul_right _ (by omega)
  omega
theorem dig_toNat {n : Nat} (h : n < 10) : (UInt8.ofNat (48 + n)).toNat = 48 + n := by
 rw [UInt8.toNat_ofNat']
 omega
theorem dig_back {c : UInt8} (h : dgt c) : UInt8.ofNat (48 + (c.toNat - 48)) = c := by
 unfold dgt at h
 have : 48 + (c.toNat - 48) = c.toNat := by omega
 rw [this]
 exact UInt8.ofNat_toNat
theorem dec_step (u : Nat) : Lib.decDigits u = if u < 10 then [UInt8.ofNat (48 + u)] else Lib.decDigits (u / 10) ++ [UInt8.ofNat (48 + u % 10)] := by
 rw [Lib.decDigits]
 split <;> rfl
theorem dec_facts : ∀ (n u : Nat), u ≤ n → Lib.decDigits u ≠ [] ∧ (∀ c ∈ Lib.decDigits u, dgt c) ∧ vl 0 (Lib.decDigits u) = u ∧ (0 < u → ∃ c r, Lib.decDigits u = c :: r ∧ 49 ≤ c.toNat)
 | n, u, h => by
  rw [dec_step]
  by_cases hu : u < 10
  ·
   rw [if_pos hu]
   refine ⟨by simp, fun c hc => ?_, ?_, fun h0 => ⟨_, _, rfl, by rw [dig_toNat hu]; omega⟩⟩
   ·
    rw [List.mem_singleton.1 hc]
    unfold dgt
    rw [dig_toNat hu]
    omega
   ·
    rw [vl_cons, vl_nil, dig_toNat hu]
    omega
  ·
   rw [if_neg hu]
   cases n with
   | zero => omega
   | succ n =>
    obtain ⟨h1, h2, h3, h4⟩ := dec_facts n (u / 10) (by omega)
    have hm : u % 10 < 10 := Nat.mod_lt _ (by omega)
    refine ⟨by simp, fun c hc => ?_, ?_, fun _ => ?_⟩
    ·
     rcases List.mem_append.1 hc with hc | hc
     ·
      exact h2 c hc
     ·
      rw [List.mem_singleton.1 hc]
      unfold dgt
      rw [dig_toNat hm]
      omega
    ·
     rw [vl_snoc, h3, dig_toNat hm]
     omega
    ·
     obtain ⟨c, r, h5, h6⟩ := h4 (by omega)
     exact ⟨c, r ++ [UInt8.ofNat (48 + u % 10)], by rw [h5]; rfl, h6⟩
theorem dec_ne (u : Nat) : Lib.decDigits u ≠ [] := (dec_facts u u (Nat.le_refl _)).1
theorem dec_dig (u : Nat) : ∀ c ∈ Lib.decDigits u, dgt c := (dec_facts u u (Nat.le_refl _)).2.1
theorem dec_vl (u : Nat) : vl 0 (Lib.decDigits u) = u := (dec_facts u u (Nat.le_refl _)).2.2.1
theorem dec_head {u : Nat} (h : 0 < u) : ∃ c r, Lib.decDigits u = c :: r ∧ 49 ≤ c.toNat := (dec_facts u u (Nat.le_refl _)).2.2.2 h
theorem dec_len {u k : Nat} (h : u < 10 ^ k) (hk : 0 < k) : (Lib.decDigits u).length ≤ k := by
 rcases Nat.eq_zero_or_pos u with rfl | h0
 ·
  rw [dec_step, if_pos (by omega)]
  simp
  omega
 ·
  obtain ⟨c, r, h1, h2⟩ := dec_head h0
  have h3 := vl_ge r (c.toNat - 48)
  have h4 := dec_vl u
  rw [h1, vl_cons, Nat.zero_mul, Nat.zero_add] at h4
  rw [h4] at h3
  have h5 : 10 ^ r.length ≤ u := Nat.le_trans (by have := Nat.mul_le_mul_right (10 ^ r.length) (show 1 ≤ c.toNat - 48 by omega); omega) h3
  rw [h1, List.length_cons]
  rcases Nat.lt_or_ge r.length k with h6 | h6
  ·
   omega
  ·
   have := Nat.pow_le_pow_right (show 0 < 10 by omega) h6
   omega
theorem dec_back : ∀ (n : Nat) (l : List UInt8), l.length ≤ n → l ≠ [] → (∀ c ∈ l, dgt c) → (∀ c r, l = c :: r → c.toNat = 48 → r = []) → Lib.decDigits (vl 0 l) = l
 | 0, l, hn, h0, _, _ => by
  cases l with
  | nil => exact absurd rfl h0
  | cons c r => simp at hn
 | n + 1, l, hn, h0, hd, hz => by
  obtain ⟨i, c, rfl⟩ : ∃ i c, l = i ++ [c] := ⟨l.dropLast, l.getLast h0, (List.dropLast_concat_getLast h0).symm⟩
  have hc := hd c (by simp)
  have hc' := hc
  unfold dgt at hc'
  rw [vl_snoc, dec_step]
  cases i with
  | nil =>
   rw [vl_nil, if_pos (by omega)]
   have : 0 * 10 + (c.toNat - 48) = c.toNat - 48 := by omega
   rw [this, dig_back hc]
   rfl
  | cons a r =>
   have ha : ¬ a.toNat = 48 := fun h => by
    have := hz a (r ++ [c]) rfl h
    simp at this
   have ha' := hd a (by simp)
   unfold dgt at ha'
   have h1 : 1 ≤ vl 0 (a :: r) := by
    have := vl_ge r (0 * 10 + (a.toNat - 48))
    rw [vl_cons]
    have h2 : 1 ≤ 10 ^ r.length := Nat.one_le_pow _ _ (by omega)
    have h3 : 1 * 1 ≤ (0 * 10 + (a.toNat - 48)) * 10 ^ r.length := Nat.mul_le_mul (by omega) h2
    omega
   rw [if_neg (by omega)]
   have e1 : (vl 0 (a :: r) * 10 + (c.toNat - 48)) / 10 = vl 0 (a :: r) := by omega
   have e2 : (vl 0 (a :: r) * 10 + (c.toNat - 48)) % 10 = c.toNat - 48 := by omega
   rw [e1, e2, dig_back hc, dec_back n (a :: r) (by simp at hn ⊢; omega) (by simp) (fun d hd' => hd d (by simp at hd' ⊢; rcases hd' with h | h <;> simp [h])) (fun x y h hx => by
    injection h with h _
    subst h
    exact absurd hx ha)]
theorem parseM_ok {M : Nat} (hM : M ≤ 18446744073709551615) : ∀ (l : List UInt8) (a : Nat), (∀ c ∈ l, dgt c) → vl a l ≤ M → Lib.parseUintM M a l = .ok (vl a l)
 | [], a, _, h => rfl
 | c :: l, a, hd, h => by
  have hc := hd c (List.mem_cons_self ..)
  have hc' := hc
  unfold dgt at hc
  rw [vl_cons] at h ⊢
  have h1 := vl_ge l (a * 10 + (c.toNat - 48))
  have h2 : 1 ≤ 10 ^ l.length := Nat.one_le_pow _ _ (by omega)
  have h3 := Nat.mul_le_mul_left (a * 10 + (c.toNat - 48)) h2
  unfold Lib.parseUintM
  rw [if_pos hc, if_neg (by omega), if_neg (by omega)]
  exact parseM_ok hM l _ (fun d hd' => hd d (List.mem_cons_of_mem _ hd')) h
theorem parseU_dec {m : Nat} (h : m ≤ 18446744073709551615) : Lib.parseUintB 64 (Lib.decDigits m) = .ok m := by
 unfold Lib.parseUintB
 rw [if_neg (dec_ne m), parseM_ok (by decide) _ _ (dec_dig m) (by rw [dec_vl]; exact h), dec_vl]
theorem parseI_itoa {v : Int} (h0 : -9223372036854775808 ≤ v) (h1 : v ≤ 9223372036854775807) : Lib.parseIntB 64 (Lib.itoa v) = .ok v := by
 unfold Lib.itoa
 by_cases hv : v < 0
 ·
  rw [if_pos hv, Lib.parseIntB_minus, parseU_dec (by omega)]
  unfold Lib.signedC
  simp only
  rw [if_neg (by show ¬ (9223372036854775808 : Nat) < _; omega)]
  congr 1
  omega
 ·
  rw [if_neg hv]
  obtain ⟨c, r, hcr⟩ : ∃ c r, Lib.decDigits v.toNat = c :: r := by
   cases h : Lib.decDigits v.toNat with
   | nil => exact absurd h (dec_ne _)
   | cons c r => exact ⟨c, r, rfl⟩
  have hc := dec_dig v.toNat c (by rw [hcr]; exact List.mem_cons_self ..)
  unfold dgt at hc
  have hp := parseU_dec (m := v.toNat) (by omega)
  rw [hcr] at hp ⊢
  rw [Lib.parseIntB_plain 64 c r (by omega) (by omega), hp]
  unfold Lib.signlessC
  simp only
  rw [if_neg (by show ¬ (9223372036854775808 : Nat) ≤ _; omega)]
  congr 1
  omega
end Go.Proofs.YtmlddeogmckgmaaGreatDoor.P

-- ==== PL3n
/- Plain laws of chapter 3: numbers: what is written, what is read. -/
namespace Go.Proofs.YtmlddeogmckgmaaGreatDoor.P
open Go.RowKit Go.Proofs.YtmlddeogmckgmaaGreatDoorW.PrintWords
def minL : List UInt8 := [57, 50, 50, 51, 51, 55, 50, 48, 51, 54, 56, 53, 52, 55, 55, 53, 56, 48, 56]
theorem dec_min : Lib.decDigits 9223372036854775808 = minL := by
 have h := dec_back 19 minL (by decide) (by decide) (by decide) (fun c r h hc => by
  injection h with h _
  subst h
  exact absurd hc (by decide))
 have e : vl 0 minL = 9223372036854775808 := by decide
 rw [e] at h
 exact h
theorem wrS_itoa {v : Int} (h0 : -9223372036854775808 ≤ v) (h1 : v ≤ 9223372036854775807) : bl (wrS v) = Lib.itoa v := by
 unfold wrS
 by_cases h : v = -9223372036854775808
 ·
  rw [if_pos h]
  subst h
  unfold Lib.itoa
  rw [if_pos (by decide)]
  show _ = 45 :: Lib.decDigits 9223372036854775808
  rw [dec_min]
  rfl
 ·
  rw [if_neg h]
theorem wr_iff {v : Int} (h0 : -9223372036854775808 ≤ v) (h1 : v ≤ 9223372036854775807) (s : ByteArray) : wrS v = s ↔ bl s = Lib.itoa v := by
 rw [← wrS_itoa h0 h1]
 exact ⟨fun h => by rw [h], fun h => bl_inj h.symm⟩
theorem numS_ok {s : ByteArray} {v : Int} (h0 : -9223372036854775808 ≤ v) (h1 : v ≤ 9223372036854775807) (h : bl s = Lib.itoa v) : numS s = (v, 0) := by
 unfold numS
 have e : Lib.parseIntB 64 s.data.toList = .ok v := by
  show Lib.parseIntB 64 (bl s) = _
  rw [h]
  exact parseI_itoa h0 h1
 rw [e]
 simp only
 rw [if_pos ((wr_iff h0 h1 s).2 h)]
theorem numS_no {s : ByteArray} (h : ∀ v : Int, -9223372036854775808 ≤ v → v ≤ 9223372036854775807 → bl s ≠ Lib.itoa v) : numS s = (0, 13) := by
 unfold numS
 cases hp : Lib.parseIntB 64 s.data.toList with
 | ok v =>
  obtain ⟨b0, b1⟩ := Lib.parseIntB_bounds hp
  have b0' : -9223372036854775808 ≤ v := by simpa using b0
  have b1' : v ≤ 9223372036854775807 := by
   have : v < 9223372036854775808 := by simpa using b1
   omega
  simp only
  rw [if_neg (fun e => h v b0' b1' ((wr_iff b0' b1' s).1 e))]
 | «syntax» => rfl
 | range => rfl
theorem numS_cases (s : ByteArray) : (∃ v : Int, -9223372036854775808 ≤ v ∧ v ≤ 9223372036854775807 ∧ bl s = Lib.itoa v ∧ numS s = (v, 0)) ∨ ((∀ v : Int, -9223372036854775808 ≤ v → v ≤ 9223372036854775807 → bl s ≠ Lib.itoa v) ∧ numS s = (0, 13)) := by
 by_cases h : ∃ v : Int, -9223372036854775808 ≤ v ∧ v ≤ 9223372036854775807 ∧ bl s = Lib.itoa v
 ·
  obtain ⟨v, h0, h1, h2⟩ := h
  exact .inl ⟨v, h0, h1, h2, numS_ok h0 h1 h2⟩
 ·
  have h' : ∀ v : Int, -9223372036854775808 ≤ v → v ≤ 9223372036854775807 → bl s ≠ Lib.itoa v := fun v h0 h1 h2 => h ⟨v, h0, h1, h2⟩
  exact .inr ⟨h', numS_no h'⟩
theorem lt19 {u : Nat} (h : u ≤ 9999999999999999999) : u < 10 ^ 19 := Nat.lt_of_le_of_lt h (by decide)
end Go.Proofs.YtmlddeogmckgmaaGreatDoor.P

-- ==== PL3m
/- Plain laws of chapter 3: the document's Number reads just what is a number's own text. -/
namespace Go.Proofs.YtmlddeogmckgmaaGreatDoor.P
open Go.RowKit Go.Proofs.YtmlddeogmckgmaaGreatDoorW.PrintWords
def digs (l : List UInt8) : Bool := l.all (fun c => decide (dgt c))
theorem digs_iff {l : List UInt8} : digs l = true ↔ ∀ c ∈ l, dgt c := by simp [digs]
def endP (n : Nat) : Int × Int := if n > 9223372036854775807 then (0, 13) else ((n : Int), 0)
def endM (n : Nat) : Int × Int := if n > 9223372036854775808 then (0, 13) else (-(n : Int), 0)
def negL (r : List UInt8) : Int × Int := if r = [] then (0, 13) else if r.length > 19 then (0, 13) else if r.head? = some 48 then (0, 13) else if digs r = true then endM (vl 0 r) else (0, 13)
def posL (l : List UInt8) : Int × Int := if l = [] then (0, 13) else if l.length > 19 then (0, 13) else if l.head? = some 48 ∧ 1 < l.length then (0, 13) else if digs l = true then endP (vl 0 l) else (0, 13)
def refL (l : List UInt8) : Int × Int := if l.head? = some 45 then negL l.tail else posL l
theorem dgt_ne {c : UInt8} {n : Nat} (h : dgt c) (hn : n < 48) : c ≠ UInt8.ofNat n := by
 rintro rfl
 unfold dgt at h
 rw [UInt8.toNat_ofNat'] at h
 omega
theorem big_ne {c : UInt8} (h : 49 ≤ c.toNat) : c ≠ 48 := by
 rintro rfl
 exact absurd h (by decide)
theorem le63 {m : Nat} (h : m ≤ 9223372036854775808) : m < 10 ^ 19 := lt19 (by omega)
theorem refL_itoa {v : Int} (h0 : -9223372036854775808 ≤ v) (h1 : v ≤ 9223372036854775807) : refL (Lib.itoa v) = (v, 0) := by
 unfold Lib.itoa
 by_cases hv : v < 0
 ·
  rw [if_pos hv]
  have hm : v.natAbs ≤ 9223372036854775808 := by omega
  have hp : 0 < v.natAbs := by omega
  have hl := dec_len (u := v.natAbs) (k := 19) (le63 hm) (by decide)
  obtain ⟨c, r, hcr, hc⟩ := dec_head hp
  unfold refL
  rw [if_pos (by rfl)]
  show negL (Lib.decDigits v.natAbs) = _
  unfold negL
  rw [if_neg (dec_ne _), if_neg (by omega), if_neg (by rw [hcr]; simp only [List.head?_cons, Option.some.injEq]; exact big_ne hc), if_pos (digs_iff.2 (dec_dig _)), dec_vl]
  unfold endM
  rw [if_neg (by omega)]
  have : -((v.natAbs : Nat) : Int) = v := by omega
  rw [this]
 ·
  rw [if_neg hv]
  have hm : v.toNat ≤ 9223372036854775807 := by omega
  have hl := dec_len (u := v.toNat) (k := 19) (le63 (by omega)) (by decide)
  have hd := dec_dig v.toNat
  have hv0 := dec_vl v.toNat
  unfold refL
  have hh : ¬ (Lib.decDigits v.toNat).head? = some 45 := by
   cases hcr : Lib.decDigits v.toNat with
   | nil => simp
   | cons c r =>
    simp only [List.head?_cons, Option.some.injEq]
    exact dgt_ne (n := 45) (hd c (by rw [hcr]; exact List.mem_cons_self ..)) (by decide)
  rw [if_neg hh]
  unfold posL
  have hz : ¬ ((Lib.decDigits v.toNat).head? = some 48 ∧ 1 < (Lib.decDigits v.toNat).length) := by
   rintro ⟨h2, h3⟩
   rcases Nat.eq_zero_or_pos v.toNat with h4 | h4
   ·
    rw [h4, dec_step, if_pos (by decide)] at h3
    simp at h3
   ·
    obtain ⟨c, r, hcr, hc⟩ := dec_head h4
    rw [hcr] at h2
    simp only [List.head?_cons, Option.some.injEq] at h2
    exact big_ne hc h2
  rw [if_neg (dec_ne _), if_neg (by omega), if_neg hz, if_pos (digs_iff.2 hd), hv0]
  unfold endP
  rw [if_neg (by omega)]
  have : ((v.toNat : Nat) : Int) = v := by omega
  rw [this]
theorem itoa_neg' {m : Nat} (h : 1 ≤ m) : Lib.itoa (-(m : Int)) = 45 :: Lib.decDigits m := Lib.itoa_neg m h
theorem refL_inv (l : List UInt8) : refL l = (0, 13) ∨ ∃ v : Int, -9223372036854775808 ≤ v ∧ v ≤ 9223372036854775807 ∧ l = Lib.itoa v := by
 unfold refL
 by_cases hh : l.head? = some 45
 ·
  rw [if_pos hh]
  obtain ⟨r, rfl⟩ : ∃ r, l = 45 :: r := by
   cases l with
   | nil => simp at hh
   | cons c r =>
    simp only [List.head?_cons, Option.some.injEq] at hh
    exact ⟨r, by rw [hh]⟩
  show negL r = _ ∨ _
  unfold negL
  by_cases h1 : r = []
  ·
   exact .inl (if_pos h1)
  rw [if_neg h1]
  by_cases h2 : r.length > 19
  ·
   exact .inl (if_pos h2)
  rw [if_neg h2]
  by_cases h3 : r.head? = some 48
  ·
   exact .inl (if_pos h3)
  rw [if_neg h3]
  by_cases h4 : digs r = true
  ·
   rw [if_pos h4]
   unfold endM
   by_cases h5 : vl 0 r > 9223372036854775808
   ·
    exact .inl (if_pos h5)
   ·
    have hz : ∀ c q, r = c :: q → c.toNat = 48 → q = [] := fun c q hr hc => by
     exfalso
     apply h3
     rw [hr]
     simp only [List.head?_cons, Option.some.injEq]
     exact UInt8.toNat_inj.1 hc
    have hb := dec_back r.length r (Nat.le_refl _) h1 (digs_iff.1 h4) hz
    have hp : 1 ≤ vl 0 r := by
     rcases Nat.eq_zero_or_pos (vl 0 r) with h6 | h6
     ·
      exfalso
      rw [h6, dec_step, if_pos (by decide)] at hb
      apply h3
      rw [← hb]
      rfl
     ·
      exact h6
    exact .inr ⟨-((vl 0 r : Nat) : Int), by omega, by omega, by rw [itoa_neg' hp, hb]⟩
  ·
   exact .inl (if_neg h4)
 ·
  rw [if_neg hh]
  unfold posL
  by_cases h1 : l = []
  ·
   exact .inl (if_pos h1)
  rw [if_neg h1]
  by_cases h2 : l.length > 19
  ·
   exact .inl (if_pos h2)
  rw [if_neg h2]
  by_cases h3 : l.head? = some 48 ∧ 1 < l.length
  ·
   exact .inl (if_pos h3)
  rw [if_neg h3]
  by_cases h4 : digs l = true
  ·
   rw [if_pos h4]
   unfold endP
   by_cases h5 : vl 0 l > 9223372036854775807
   ·
    exact .inl (if_pos h5)
   ·
    have hz : ∀ c q, l = c :: q → c.toNat = 48 → q = [] := fun c q hr hc => by
     rcases Nat.eq_zero_or_pos q.length with h6 | h6
     ·
      exact List.length_eq_zero_iff.1 h6
     ·
      exfalso
      apply h3
      rw [hr]
      refine ⟨?_, by simp; omega⟩
      simp only [List.head?_cons, Option.some.injEq]
      exact UInt8.toNat_inj.1 hc
    have hb := dec_back l.length l (Nat.le_refl _) h1 (digs_iff.1 h4) hz
    exact .inr ⟨((vl 0 l : Nat) : Int), by omega, by omega, by rw [Lib.itoa_nonneg, hb]⟩
  ·
   exact .inl (if_neg h4)
theorem numS_refL (s : ByteArray) : numS s = refL (bl s) := by
 rcases numS_cases s with ⟨v, h0, h1, h2, h3⟩ | ⟨h1, h2⟩
 ·
  rw [h3, h2, refL_itoa h0 h1]
 ·
  rw [h2]
  rcases refL_inv (bl s) with h | ⟨v, h3, h4, h5⟩
  ·
   exact h.symm
  ·
   exact absurd h5 (h1 v h3 h4)
end Go.Proofs.YtmlddeogmckgmaaGreatDoor.P

-- ==== PL3r
/- Plain laws of chapter 3: the document's Number, run. -/
namespace Go.Proofs.YtmlddeogmckgmaaGreatDoor.P
open Go.RowKit Go.Proofs.YtmlddeogmckgmaaGreatDoorW.PrintWords
theorem u64_id {x : Int} (h0 : 0 ≤ x) (h1 : x < 18446744073709551616) : IntKind.u64.wrap x = x := by
 have e : IntKind.u64.wrap x = x % 18446744073709551616 := rfl
 rw [e]
 exact Int.emod_eq_of_lt h0 h1
theorem num_step {n : Nat} {c : UInt8} (hc : dgt c) (hn : n < 1844674407370955161) : IntKind.u64.wrap (IntKind.u64.wrap ((n : Int) * 10) + (((c.toNat : Int) - 48) % 256)) = ((n * 10 + (c.toNat - 48) : Nat) : Int) := by
 unfold dgt at hc
 rw [u64_id (x := (n : Int) * 10) (by omega) (by omega)]
 have e : ((c.toNat : Int) - 48) % 256 = ((c.toNat - 48 : Nat) : Int) := by omega
 rw [e, u64_id (by omega) (by omega)]
 omega
theorem neg_end {n : Nat} (h0 : 1 ≤ n) (h1 : n ≤ 9223372036854775808) : wrap64 ((wrap64 (-(wrap64 (IntKind.u64.wrap ((n : Int) - 1))))) - 1) = -(n : Int) := by
 rw [u64_id (by omega) (by omega), wrap_id (i := (n : Int) - 1) (by omega) (by omega), wrap_id (i := -((n : Int) - 1)) (by omega) (by omega), wrap_id (by omega) (by omega)]
 omega
theorem ev_j4t (a n : Int) : Ev (fun k => aumbryref03_Number.j4 k a n true) (0, 13) := by
 refine Ev.step (fun k => (show aumbryref03_Number.j4 (k + 1) a n true = _ from by rw [aumbryref03_Number.j4])) ?_
 exact evIfp rfl (Ev.now _)
theorem ev_j4p {n : Nat} (h : n ≤ 9223372036854775807) : Ev (fun k => aumbryref03_Number.j4 k 0 (n : Int) false) ((n : Int), 0) := by
 refine Ev.step (fun k => (show aumbryref03_Number.j4 (k + 1) 0 (n : Int) false = _ from by rw [aumbryref03_Number.j4])) ?_
 refine evIfn (by decide) (evIfn (by decide) ?_)
 rw [wrap_id (by omega) (by omega)]
 exact Ev.now _
theorem ev_j4m {n : Nat} (h0 : 1 ≤ n) (h : n ≤ 9223372036854775808) : Ev (fun k => aumbryref03_Number.j4 k 1 (n : Int) false) (-(n : Int), 0) := by
 refine Ev.step (fun k => (show aumbryref03_Number.j4 (k + 1) 1 (n : Int) false = _ from by rw [aumbryref03_Number.j4])) ?_
 refine evIfn (by decide) (evIfp rfl ?_)
 rw [neg_end h0 h]
 exact Ev.now _
def finN (a : Nat) (n : Nat) : Int × Int := if a = 1 then endM n else endP n
theorem ev_num_loop (s : ByteArray) (a : Nat) (ha : a = 0 ∨ a = 1) (hs : s.size ≤ 1000000) : ∀ (u : List UInt8) (i n : Nat), i ≤ s.size → (bl s).drop i = u → (n + 1) * 10 ^ u.length ≤ 10000000000000000000 → (a = 1 → digs u = true → 1 ≤ vl n u) →
 Ev (fun k => aumbryref03_Number.l0 k s (a : Int) (n : Int) (i : Int)) (if digs u = true then finN a (vl n u) else (0, 13))
 | [], i, n, hi, hu, hn, h1 => by
  have hsz := bl_drop_nil hi hu
  refine Ev.step (fun k => (show aumbryref03_Number.l0 (k + 1) s (a : Int) (n : Int) (i : Int) = _ from by rw [aumbryref03_Number.l0])) ?_
  refine evIfn (by omega) ?_
  rw [if_pos (by rfl)]
  show Ev _ (finN a n)
  have hv : a = 1 → 1 ≤ n := fun e => h1 e rfl
  unfold finN
  rcases ha with rfl | rfl
  ·
   rw [if_neg (by decide)]
   unfold endP
   by_cases h2 : n > 9223372036854775808
   ·
    rw [if_pos (by omega)]
    exact evIfp (by omega) (ev_j4t _ _)
   ·
    refine evIfn (by omega) ?_
    by_cases h3 : n = 9223372036854775808
    ·
     rw [if_pos (by omega)]
     exact evIfp (by omega) (ev_j4t _ _)
    ·
     rw [if_neg (by omega)]
     exact evIfn (by omega) (ev_j4p (by omega))
  ·
   rw [if_pos rfl]
   unfold endM
   by_cases h2 : n > 9223372036854775808
   ·
    rw [if_pos h2]
    exact evIfp (by omega) (ev_j4t _ _)
   ·
    refine evIfn (by omega) ?_
    rw [if_neg h2]
    by_cases h3 : n = 9223372036854775808
    ·
     exact evIfp (by omega) (ev_j4m (hv rfl) (by omega))
    ·
     exact evIfn (by omega) (ev_j4m (hv rfl) (by omega))
 | c :: u, i, n, hi, hu, hn, h1 => by
  obtain ⟨g1, g2, g3⟩ := bt_drop hu
  refine Ev.step (fun k => (show aumbryref03_Number.l0 (k + 1) s (a : Int) (n : Int) (i : Int) = _ from by rw [aumbryref03_Number.l0])) ?_
  refine evIfp (by omega) (evIfp (by omega) ?_)
  rw [g2]
  by_cases hc : dgt c
  ·
   have hc' := hc
   unfold dgt at hc'
   refine evIfn (by omega) (evIfn (by omega) ?_)
   have hp : 1 ≤ 10 ^ u.length := Nat.one_le_pow _ _ (by decide)
   rw [List.length_cons, Nat.pow_succ] at hn
   have hn1 : (n + 1) * 10 * 10 ^ u.length ≤ 10000000000000000000 := by rw [Nat.mul_assoc, Nat.mul_comm 10]; exact hn
   have hn2 : (n + 1) * 10 * 1 ≤ (n + 1) * 10 * 10 ^ u.length := Nat.mul_le_mul_left _ hp
   have hn3 : n < 1000000000000000000 := by omega
   rw [num_step hc (by omega), up_cast i (by omega)]
   have e : digs (c :: u) = digs u := by simp [digs, hc]
   rw [e, vl_cons]
   refine ev_num_loop s a ha hs u (i + 1) _ (by omega) g3 ?_ (fun e1 e2 => h1 e1 (by rw [e]; exact e2))
   exact Nat.le_trans (Nat.mul_le_mul_right _ (by omega)) hn1
  ·
   have e : digs (c :: u) = false := by simp [digs, hc]
   rw [e, if_neg (by decide)]
   unfold dgt at hc
   by_cases h2 : (c.toNat : Int) < 48
   ·
    exact evIfp h2 (Ev.now _)
   ·
    exact evIfn h2 (evIfp (by omega) (Ev.now _))
theorem ev_j2t (s : ByteArray) (a : Int) : Ev (fun k => aumbryref03_Number.j2 k s a true) (0, 13) := by
 refine Ev.step (fun k => (show aumbryref03_Number.j2 (k + 1) s a true = _ from by rw [aumbryref03_Number.j2])) ?_
 exact evIfp rfl (Ev.now _)
theorem ev_j2f (s : ByteArray) (a : Nat) (ha : a = 0 ∨ a = 1) (hs : s.size ≤ 1000000) {u : List UInt8} (hi : a ≤ s.size) (hu : (bl s).drop a = u) (hn : u.length ≤ 19) (h1 : a = 1 → digs u = true → 1 ≤ vl 0 u) : Ev (fun k => aumbryref03_Number.j2 k s (a : Int) false) (if digs u = true then finN a (vl 0 u) else (0, 13)) := by
 refine Ev.step (fun k => (show aumbryref03_Number.j2 (k + 1) s (a : Int) false = _ from by rw [aumbryref03_Number.j2])) ?_
 refine evIfn (by decide) ?_
 refine ev_num_loop s a ha hs u a 0 hi hu ?_ h1
 rw [Nat.zero_add, Nat.one_mul]
 exact Nat.le_trans (Nat.pow_le_pow_right (by decide) hn) (by decide)
theorem ev_j1n (s : ByteArray) (hs : s.size ≤ 281474976710656) {r : List UInt8} (h : bl s = 45 :: r) : Ev (fun k => aumbryref03_Number.j1 k s 1) (negL r) := by
 have hlen := bl_len s
 rw [h, List.length_cons] at hlen
 refine Ev.step (fun k => (show aumbryref03_Number.j1 (k + 1) s 1 = _ from by rw [aumbryref03_Number.j1])) ?_
 have hd : (bl s).drop 1 = r := by rw [h]; rfl
 unfold negL
 cases r with
 | nil =>
  rw [if_pos rfl]
  refine evIfp ?_ (ev_j2t _ _)
  simp only [List.length_nil] at hlen
  omega
 | cons c q =>
  rw [List.length_cons] at hlen
  rw [if_neg (by simp), List.length_cons]
  refine evIfn (by omega) ?_
  rw [wrap_id (by omega) (by omega)]
  by_cases h2 : q.length + 1 > 19
  ·
   rw [if_pos h2]
   exact evIfp (by omega) (ev_j2t _ _)
  ·
   rw [if_neg h2]
   refine evIfn (by omega) (evIfp (by decide) (evIfp (by omega) ?_))
   obtain ⟨g1, g2, g3⟩ := bt_drop hd
   have g2' : bt s 1 = (c.toNat : Int) := g2
   rw [g2']
   simp only [List.head?_cons, Option.some.injEq]
   by_cases h3 : c = 48
   ·
    rw [if_pos h3]
    subst h3
    refine evIfp (by decide) ?_
    rw [decide_eq_true (show (s.size : Int) > 1 by omega)]
    exact ev_j2t _ _
   ·
    rw [if_neg h3]
    refine evIfn (fun e => h3 (UInt8.toNat_inj.1 (show c.toNat = (48 : UInt8).toNat from by have h48 : (48 : UInt8).toNat = 48 := rfl; omega))) ?_
    have hp : digs (c :: q) = true → 1 ≤ vl 0 (c :: q) := fun h4 => by
     have hc := digs_iff.1 h4 c (List.mem_cons_self ..)
     unfold dgt at hc
     have hc48 : ¬ c.toNat = 48 := fun e => h3 (UInt8.toNat_inj.1 e)
     have := vl_ge q (0 * 10 + (c.toNat - 48))
     have h5 : 1 ≤ 10 ^ q.length := Nat.one_le_pow _ _ (by decide)
     have h6 : 1 * 1 ≤ (0 * 10 + (c.toNat - 48)) * 10 ^ q.length := Nat.mul_le_mul (by omega) h5
     rw [vl_cons]
     omega
    exact ev_j2f s 1 (.inr rfl) (by omega) (by omega) hd (by rw [List.length_cons]; omega) (fun _ => hp)
theorem ev_j1p (s : ByteArray) (hs : s.size ≤ 281474976710656) : Ev (fun k => aumbryref03_Number.j1 k s 0) (posL (bl s)) := by
 have hlen := bl_len s
 refine Ev.step (fun k => (show aumbryref03_Number.j1 (k + 1) s 0 = _ from by rw [aumbryref03_Number.j1])) ?_
 have hd : (bl s).drop 0 = bl s := rfl
 unfold posL
 cases hb : bl s with
 | nil =>
  rw [if_pos rfl]
  refine evIfp ?_ (ev_j2t _ _)
  rw [hb] at hlen
  simp only [List.length_nil] at hlen
  omega
 | cons c q =>
  rw [hb] at hd
  rw [hb, List.length_cons] at hlen
  rw [if_neg (by simp), List.length_cons]
  refine evIfn (by omega) ?_
  rw [wrap_id (by omega) (by omega)]
  by_cases h2 : q.length + 1 > 19
  ·
   rw [if_pos h2]
   exact evIfp (by omega) (ev_j2t _ _)
  ·
   rw [if_neg h2]
   refine evIfn (by omega) (evIfp (by decide) (evIfp (by omega) ?_))
   have hd' : (bl s).drop 0 = c :: q := by rw [hb]; rfl
   obtain ⟨g1, g2, g3⟩ := bt_drop hd'
   have g2' : bt s 0 = (c.toNat : Int) := g2
   rw [g2']
   simp only [List.head?_cons, Option.some.injEq]
   have fin := ev_j2f s 0 (.inl rfl) (by omega) (by omega) hd' (by rw [List.length_cons]; omega) (fun e => by cases e)
   have e0 : finN 0 (vl 0 (c :: q)) = endP (vl 0 (c :: q)) := rfl
   rw [e0] at fin
   by_cases h3 : c = 48
   ·
    have h48 : (48 : UInt8).toNat = 48 := rfl
    refine evIfp (by rw [h3]; rfl) ?_
    by_cases h4 : 1 < q.length + 1
    ·
     rw [if_pos ⟨h3, h4⟩, decide_eq_true (show (s.size : Int) > 1 by omega)]
     exact ev_j2t _ _
    ·
     rw [if_neg (fun h => h4 h.2), decide_eq_false (show ¬ (s.size : Int) > 1 by omega)]
     exact fin
   ·
    rw [if_neg (fun h => h3 h.1)]
    refine evIfn (fun e => h3 (UInt8.toNat_inj.1 (show c.toNat = (48 : UInt8).toNat from by have h48 : (48 : UInt8).toNat = 48 := rfl; omega))) ?_
    exact fin
theorem ev_refNumber (s : ByteArray) (hs : s.size ≤ 281474976710656) : Ev (fun k => aumbryref03_Number.f k s) (numS s) := by
 have hlen := bl_len s
 rw [numS_refL]
 unfold aumbryref03_Number.f refL
 cases hb : bl s with
 | nil =>
  rw [hb] at hlen
  simp only [List.length_nil] at hlen
  refine evIfn (by omega) ?_
  refine Ev.step (fun k => (show aumbryref03_Number.j0 (k + 1) s 0 false = _ from by rw [aumbryref03_Number.j0])) ?_
  refine evIfn (by decide) ?_
  have := ev_j1p s hs
  rw [hb] at this
  exact this
 | cons c q =>
  rw [hb, List.length_cons] at hlen
  have hd' : (bl s).drop 0 = c :: q := by rw [hb]; rfl
  obtain ⟨g1, g2, g3⟩ := bt_drop hd'
  have g2' : bt s 0 = (c.toNat : Int) := g2
  refine evIfp (by omega) (evIfp (by omega) ?_)
  rw [g2']
  simp only [List.head?_cons, Option.some.injEq]
  by_cases h3 : c = 45
  ·
   have e : ((c.toNat : Int) == 45) = true := by rw [h3]; rfl
   rw [e, if_pos h3]
   refine Ev.step (fun k => (show aumbryref03_Number.j0 (k + 1) s 0 true = _ from by rw [aumbryref03_Number.j0])) ?_
   refine evIfp rfl ?_
   have e2 : (c :: q).tail = q := rfl
   rw [e2]
   exact ev_j1n s hs (by rw [hb, h3])
  ·
   have e : ((c.toNat : Int) == 45) = false := by
    rw [beq_eq_false_iff_ne]
    exact fun e => h3 (UInt8.toNat_inj.1 (show c.toNat = (45 : UInt8).toNat from by have h45 : (45 : UInt8).toNat = 45 := rfl; omega))
   rw [e, if_neg h3]
   refine Ev.step (fun k => (show aumbryref03_Number.j0 (k + 1) s 0 false = _ from by rw [aumbryref03_Number.j0])) ?_
   refine evIfn (by decide) ?_
   have := ev_j1p s hs
   rw [hb] at this
   exact this
end Go.Proofs.YtmlddeogmckgmaaGreatDoor.P

-- ==== PC1
/- Plain laws of chapter 22: any line's words are read; two commands are alike. -/
namespace Go.Proofs.YtmlddeogmckgmaaGreatDoor.P
open Go.RowKit Go.Proofs.YtmlddeogmckgmaaGreatDoorW.PrintWords
def smDr (x : Dr) : Prop := x.tm.length ≤ 64 ∧ x.lf.length ≤ 64 ∧ x.rt.length ≤ 64
theorem smDr0 (kd : Int) : smDr (dr0 kd) := ⟨Nat.zero_le _, Nat.zero_le _, Nat.zero_le _⟩
theorem num_ev (s : ByteArray) (h : s.size ≤ 281474976710656) : command_number.f s = some ((numS s).1, (numS s).2) := by
 unfold command_number.f name_Number.f
 rw [if_pos h]
 rfl
theorem words_sz (s : ByteArray) (hs : s.size ≤ 256) : ∀ x ∈ wdsS s, x.size ≤ 281474976710656 := fun x hx => by have := (words_good s x hx).2.2; omega
structure SameDr (x y : Dr) : Prop where
 kd : x.kd = y.kd
 nm : x.nm = y.nm
 n : x.n = y.n
 id : x.id = y.id
 on : x.on = y.on
 tm : x.tm = y.tm
 rid : x.rid = y.rid
 lf : x.lf = y.lf
 rt : x.rt = y.rt
theorem toL_iff {a b : ByteArray} : a.toList = b.toList ↔ a = b := ⟨toL_injC, fun h => by rw [h]⟩
theorem ev_rsameG (id id' : Int) (l r l' r' : List Cel) (hl : l.length ≤ 9223372036854775806 ∨ l'.length ≤ 9223372036854775806) (hr : r.length ≤ 9223372036854775806 ∨ r'.length ≤ 9223372036854775806) : ∃ b, Ev (fun k => aumbryref06_Same.f k id l r id' l' r') b ∧ (b = true ↔ id = id' ∧ l = l' ∧ r = r') := by
 unfold aumbryref06_Same.f
 by_cases c1 : id = id'
 ·
  by_cases c2 : l = l'
  ·
   exact ⟨_, evIfp c1 (Ev.bind (ev_refSame4 l l' hl) (evIfp (decide_eq_true c2) (Ev.bind (ev_refSame4 r r' hr) (Ev.now _)))), by simp [c1, c2]⟩
  ·
   exact ⟨_, evIfp c1 (Ev.bind (ev_refSame4 l l' hl) (evIfn (by simp [c2]) (Ev.now _))), by simp [c1, c2]⟩
 ·
  exact ⟨_, evIfn c1 (Ev.now _), by simp [c1]⟩
def SmallDr (x : Dr) : Prop := x.tm.length ≤ 9223372036854775806 ∧ x.lf.length ≤ 9223372036854775806 ∧ x.rt.length ≤ 9223372036854775806
theorem smDr.small {x : Dr} (h : smDr x) : SmallDr x := ⟨by have := h.1; omega, by have := h.2.1; omega, by have := h.2.2; omega⟩
theorem ev_same22 (x y : Dr) (hb : SmallDr x ∨ SmallDr y) : ∃ b, Ev (fun k => aumbryref22_Same.f k x.kd x.nm x.n x.id x.on x.tm x.rid x.lf x.rt y.kd y.nm y.n y.id y.on y.tm y.rid y.lf y.rt) b ∧ (b = true ↔ SameDr x y) := by
 have e : SameDr x y ↔ x.kd = y.kd ∧ x.nm = y.nm ∧ x.n = y.n ∧ x.id = y.id ∧ x.on = y.on ∧ x.tm = y.tm ∧ x.rid = y.rid ∧ x.lf = y.lf ∧ x.rt = y.rt := ⟨fun h => ⟨h.1, h.2, h.3, h.4, h.5, h.6, h.7, h.8, h.9⟩, fun ⟨h1, h2, h3, h4, h5, h6, h7, h8, h9⟩ => ⟨h1, h2, h3, h4, h5, h6, h7, h8, h9⟩⟩
 rw [e]
 unfold aumbryref22_Same.f
 by_cases c1 : x.kd = y.kd
 case neg => exact ⟨_, evIfn c1 (Ev.now _), by simp [c1]⟩
 by_cases c2 : x.nm = y.nm
 case neg => exact ⟨_, evIfp c1 (evIfn (fun h => c2 (toL_iff.1 h)) (Ev.now _)), by simp [c2]⟩
 by_cases c3 : x.n = y.n
 case neg => exact ⟨_, evIfp c1 (evIfp (toL_iff.2 c2) (evIfn c3 (Ev.now _))), by simp [c3]⟩
 by_cases c4 : x.id = y.id
 case neg => exact ⟨_, evIfp c1 (evIfp (toL_iff.2 c2) (evIfp c3 (evIfn c4 (Ev.now _)))), by simp [c4]⟩
 by_cases c5 : x.on = y.on
 case neg => exact ⟨_, evIfp c1 (evIfp (toL_iff.2 c2) (evIfp c3 (evIfp c4 (evIfn (by simpa using c5) (Ev.now _))))), by simp [c5]⟩
 by_cases c6 : x.tm = y.tm
 case neg => exact ⟨_, evIfp c1 (evIfp (toL_iff.2 c2) (evIfp c3 (evIfp c4 (evIfp (by simpa using c5) (Ev.bind (ev_refSame4 x.tm y.tm (hb.imp (·.1) (·.1))) (evIfn (by simp [c6]) (Ev.now _))))))), by simp [c6]⟩
 obtain ⟨b, h, hb2⟩ := ev_rsameG x.rid y.rid x.lf x.rt y.lf y.rt (hb.imp (·.2.1) (·.2.1)) (hb.imp (·.2.2) (·.2.2))
 exact ⟨_, evIfp c1 (evIfp (toL_iff.2 c2) (evIfp c3 (evIfp c4 (evIfp (by simpa using c5) (Ev.bind (ev_refSame4 x.tm y.tm (hb.imp (·.1) (·.1))) (evIfp (decide_eq_true c6) (Ev.bind h (Ev.now _)))))))), by rw [hb2]; simp [c1, c2, c3, c4, c5, c6]⟩
end Go.Proofs.YtmlddeogmckgmaaGreatDoor.P

-- ==== PC2
/- Plain laws of chapter 22: what the statements ask ahead (wakes). -/
namespace Go.Proofs.YtmlddeogmckgmaaGreatDoor.P
open Go.RowKit Go.Proofs.YtmlddeogmckgmaaGreatDoorW.PrintWords
theorem ev_wakes22 : Ev (fun k => wakesF k) true := Ev.of (g := fun k => wakesF k) wakesF_mono (k := 40) (by kernel_rfl)
end Go.Proofs.YtmlddeogmckgmaaGreatDoor.P

-- ==== PC3
/- Plain laws of chapter 22: keys of commands; a command that is read, and one whose key is the same. -/
namespace Go.Proofs.YtmlddeogmckgmaaGreatDoor.P
open Go.RowKit Go.Proofs.YtmlddeogmckgmaaGreatDoorW.PrintWords
theorem ev_det {α : Type} {g : Nat → Option α} {a b : α} (h1 : Ev g a) (h2 : Ev g b) : a = b := by
 obtain ⟨K1, h1⟩ := h1
 obtain ⟨K2, h2⟩ := h2
 exact Option.some.inj ((h1 (max K1 K2) (Nat.le_max_left _ _)).symm.trans (h2 _ (Nat.le_max_right _ _)))
def noB (s : ByteArray) : Prop := (32 : UInt8) ∉ bl s
def i64R (v : Int) : Prop := -9223372036854775808 ≤ v ∧ v ≤ 9223372036854775807
end Go.Proofs.YtmlddeogmckgmaaGreatDoor.P

-- ==== PC4
/- Plain laws of chapter 22: keys tell commands apart. -/
namespace Go.Proofs.YtmlddeogmckgmaaGreatDoor.P
open Go.RowKit Go.Proofs.YtmlddeogmckgmaaGreatDoorW.PrintWords
structure rngD (x : Dr) : Prop where
 nm : x.nm.size ≤ 1048576
 n : i64R x.n
 id : i64R x.id
structure okD (x : Dr) : Prop where
 nm : noB x.nm
 rng : rngD x
 tm : x.tm = [] ∨ checkS x.tm = 0
 lf : x.lf = [] ∨ checkS x.lf = 0
 rt : x.rt = [] ∨ checkS x.rt = 0
theorem tl_lit (l : List UInt8) : (⟨l.toArray⟩ : ByteArray).toList = l := by rw [ByteArray.toList_eq]
section
variable (x : Dr)
end
end Go.Proofs.YtmlddeogmckgmaaGreatDoor.P

-- ==== PC5
/- Plain laws of chapter 22: what is read is written as it was. -/
namespace Go.Proofs.YtmlddeogmckgmaaGreatDoor.P
open Go.RowKit Go.Proofs.YtmlddeogmckgmaaGreatDoorW.PrintWords
theorem size_toL (w : ByteArray) : w.toList.length = w.size := by rw [ByteArray.toList_eq]; simp
theorem okD.dr0 (kd : Int) : okD (dr0 kd) := ⟨by simp [noB, P.dr0], ⟨by show (0 : Nat) ≤ _; omega, ⟨by show (-9223372036854775808 : Int) ≤ 0; decide, by show (0 : Int) ≤ 9223372036854775807; decide⟩, ⟨by show (-9223372036854775808 : Int) ≤ 0; decide, by show (0 : Int) ≤ 9223372036854775807; decide⟩⟩, .inl rfl, .inl rfl, .inl rfl⟩
end Go.Proofs.YtmlddeogmckgmaaGreatDoor.P

-- ==== PC7
/- Plain laws of chapter 22: the program and the document read any line alike. -/
namespace Go.Proofs.YtmlddeogmckgmaaGreatDoor.P
open Go.RowKit Go.Proofs.YtmlddeogmckgmaaGreatDoorW.PrintWords
theorem SameDr.rfl' (x : Dr) : SameDr x x := ⟨rfl, rfl, rfl, rfl, rfl, rfl, rfl, rfl, rfl⟩
def cmdW (k : Nat) (l : List ByteArray) : List (List ByteArray × Int) → Option (Dr × Int)
 | [] => some (dr0 0, 12)
 | f :: fs => if fitsF f.1 l = true then readL k f.1 l (dr0 f.2) else cmdW k l fs
theorem cmdL_W (k : Nat) (l : List ByteArray) : ∀ fs : List (ByteArray × Int), cmdL k l fs = cmdW k l (fs.map fun f => (wordsOf f.1, f.2))
 | [] => rfl
 | f :: fs => by rw [List.map_cons, cmdL, cmdW, cmdL_W k l fs]
theorem cmdW_len (k : Nat) (l : List ByteArray) : ∀ fs : List (List ByteArray × Int), cmdW k l fs = cmdW k l (fs.filter fun f => f.1.length == l.length)
 | [] => rfl
 | f :: fs => by
  by_cases c : f.1.length = l.length
  ·
   rw [List.filter_cons_of_pos (by simpa using c), cmdW, cmdW, cmdW_len k l fs]
  ·
   rw [List.filter_cons_of_neg (by simpa using c), cmdW, if_neg, cmdW_len k l fs]
   unfold fitsF
   rw [if_neg (fun h => c h.symm)]
   simp
abbrev wsA : List (List ByteArray × Int) := formsL.map fun f => (wordsOf f.1, f.2)
abbrev ws1 : List (List ByteArray × Int) := [([(⟨#[110, 97, 109, 101, 115]⟩ : ByteArray)], 5), ([(⟨#[115, 121, 109, 98, 111, 108, 115]⟩ : ByteArray)], 6), ([(⟨#[114, 117, 108, 101, 115]⟩ : ByteArray)], 9), ([(⟨#[109, 101, 109, 111, 115]⟩ : ByteArray)], 12), ([(⟨#[106, 111, 98, 115]⟩ : ByteArray)], 17), ([(⟨#[118, 101, 114, 115, 105, 111, 110]⟩ : ByteArray)], 19)]
theorem ws1_ok : (wsA.filter fun f => f.1.length == 1) = ws1 := by decide +kernel
abbrev ws2 : List (List ByteArray × Int) := [([(⟨#[102, 111, 114, 103, 101, 116]⟩ : ByteArray), (⟨#[87]⟩ : ByteArray)], 3), ([(⟨#[115, 104, 111, 119]⟩ : ByteArray), (⟨#[87]⟩ : ByteArray)], 4), ([(⟨#[117, 110, 114, 117, 108, 101]⟩ : ByteArray), (⟨#[73]⟩ : ByteArray)], 8), ([(⟨#[109, 101, 109, 111]⟩ : ByteArray), (⟨#[79]⟩ : ByteArray)], 11), ([(⟨#[106, 111, 98]⟩ : ByteArray), (⟨#[84]⟩ : ByteArray)], 13), ([(⟨#[108, 111, 111, 107]⟩ : ByteArray), (⟨#[73]⟩ : ByteArray)], 15), ([(⟨#[100, 114, 111, 112]⟩ : ByteArray), (⟨#[73]⟩ : ByteArray)], 16), ([(⟨#[114, 101, 99, 108, 97, 105, 109]⟩ : ByteArray), (⟨#[78]⟩ : ByteArray)], 18)]
theorem ws2_ok : (wsA.filter fun f => f.1.length == 2) = ws2 := by decide +kernel
abbrev ws3 : List (List ByteArray × Int) := [([(⟨#[115, 121, 109, 98, 111, 108]⟩ : ByteArray), (⟨#[87]⟩ : ByteArray), (⟨#[78]⟩ : ByteArray)], 1), ([(⟨#[110, 97, 109, 101]⟩ : ByteArray), (⟨#[87]⟩ : ByteArray), (⟨#[84]⟩ : ByteArray)], 2), ([(⟨#[110, 111, 114, 109]⟩ : ByteArray), (⟨#[84]⟩ : ByteArray), (⟨#[78]⟩ : ByteArray)], 10), ([(⟨#[114, 117, 110]⟩ : ByteArray), (⟨#[73]⟩ : ByteArray), (⟨#[78]⟩ : ByteArray)], 14)]
theorem ws3_ok : (wsA.filter fun f => f.1.length == 3) = ws3 := by decide +kernel
abbrev ws4 : List (List ByteArray × Int) := [([(⟨#[114, 117, 108, 101]⟩ : ByteArray), (⟨#[76]⟩ : ByteArray), (⟨#[45, 62]⟩ : ByteArray), (⟨#[82]⟩ : ByteArray)], 7)]
theorem ws4_ok : (wsA.filter fun f => f.1.length == 4) = ws4 := by decide +kernel
theorem ws_no : ∀ f ∈ wsA, f.1.length = 1 ∨ f.1.length = 2 ∨ f.1.length = 3 ∨ f.1.length = 4 := by decide +kernel
theorem lit_iff {a : ByteArray} (l : List UInt8) : a.toList = l ↔ a = ⟨l.toArray⟩ := ⟨fun h => toL_injC (by rw [h, tl_lit]), fun h => by rw [h, tl_lit]⟩
def sgn (w : ByteArray) : Prop := w.size = 1 ∧ w ≠ ⟨#[79]⟩
theorem fitW_l {w x : ByteArray} (h : 1 < w.size) : fitW w x = true ↔ x = w := by
 have h0 : ¬ w.toList = [79] := fun e => by have := size_toL w; rw [e] at this; simp only [List.length_cons, List.length_nil] at this; omega
 unfold fitW
 rw [if_neg (fun e => h0 e.1)]
 by_cases c : x = w
 ·
  rw [if_neg (fun e => e.2 (by rw [c]))]
  simp [c]
 ·
  rw [if_pos ⟨h, fun e => c (toL_injC e)⟩]
  simp [c]
theorem fitW_s {w x : ByteArray} (h : sgn w) : fitW w x = true := by
 unfold fitW
 rw [if_neg (fun e => h.2 ((lit_iff [79]).1 e.1)), if_neg (fun e => by have := h.1; omega)]
theorem fitW_O {x : ByteArray} : fitW ⟨#[79]⟩ x = true ↔ x = ⟨#[111, 110]⟩ ∨ x = ⟨#[111, 102, 102]⟩ := by
 unfold fitW
 by_cases c1 : x = ⟨#[111, 110]⟩
 ·
  rw [if_neg (fun e => e.2.1 ((lit_iff [111, 110]).2 c1)), if_neg (fun e => absurd e.1 (by decide))]
  simp [c1]
 by_cases c2 : x = ⟨#[111, 102, 102]⟩
 ·
  rw [if_neg (fun e => e.2.2 ((lit_iff [111, 102, 102]).2 c2)), if_neg (fun e => absurd e.1 (by decide))]
  simp [c2]
 rw [if_pos ⟨tl_lit [79], fun e => c1 ((lit_iff [111, 110]).1 e), fun e => c2 ((lit_iff [111, 102, 102]).1 e)⟩]
 simp [c1, c2]
theorem fits1 {w a : ByteArray} (h : 1 < w.size) : fitsF [w] [a] = true ↔ a = w := by
 unfold fitsF
 rw [if_pos (show [a].length = [w].length from rfl), fitL, fitL, Bool.and_true, fitW_l h]
 all_goals (intros; simp_all)
theorem fits2 {w v a b : ByteArray} (h : 1 < w.size) (hv : sgn v) : fitsF [w, v] [a, b] = true ↔ a = w := by
 unfold fitsF
 rw [if_pos (show [a, b].length = [w, v].length from rfl), fitL, fitL, fitL, fitW_s hv, Bool.and_true, Bool.and_true, fitW_l h]
 all_goals (intros; simp_all)
theorem fits2O {w a b : ByteArray} (h : 1 < w.size) : fitsF [w, ⟨#[79]⟩] [a, b] = true ↔ a = w ∧ (b = ⟨#[111, 110]⟩ ∨ b = ⟨#[111, 102, 102]⟩) := by
 unfold fitsF
 rw [if_pos (show [a, b].length = [w, (⟨#[79]⟩ : ByteArray)].length from rfl), fitL, fitL, fitL, Bool.and_true, Bool.and_eq_true, fitW_l h, fitW_O]
 all_goals (intros; simp_all)
theorem fits3 {w v u a b c : ByteArray} (h : 1 < w.size) (hv : sgn v) (hu : sgn u) : fitsF [w, v, u] [a, b, c] = true ↔ a = w := by
 unfold fitsF
 rw [if_pos (show [a, b, c].length = [w, v, u].length from rfl), fitL, fitL, fitL, fitL, fitW_s hv, fitW_s hu, Bool.and_true, Bool.and_true, Bool.and_true, fitW_l h]
 all_goals (intros; simp_all)
theorem fits4 {w v u z a b c d : ByteArray} (h : 1 < w.size) (hv : sgn v) (hu : 1 < u.size) (hz : sgn z) : fitsF [w, v, u, z] [a, b, c, d] = true ↔ a = w ∧ c = u := by
 unfold fitsF
 rw [if_pos (show [a, b, c, d].length = [w, v, u, z].length from rfl), fitL, fitL, fitL, fitL, fitL, fitW_s hv, fitW_s hz, Bool.and_true, Bool.true_and, Bool.and_true, Bool.and_eq_true, fitW_l h, fitW_l hu]
 all_goals (intros; simp_all)
theorem r87 (s : ByteArray) (x : Dr) : Ev (fun k => readF k ⟨#[87]⟩ s x) (if kindS s = 1 then ({ x with nm := s }, 0) else (x, 4)) := by
 unfold readF
 refine evIfp (tl_lit [87]) (Ev.bind (ev_kind s) ?_)
 by_cases c : kindS s = 1
 ·
  rw [if_pos c, if_pos c]; exact Ev.now _
 ·
  rw [if_neg c, if_neg c]; exact Ev.now _
theorem r78 (s : ByteArray) (x : Dr) (hs : s.size ≤ 281474976710656) : Ev (fun k => readF k ⟨#[78]⟩ s x) ({ x with n := (numS s).1 }, (numS s).2) := by
 unfold readF
 exact evIfn (by rw [tl_lit [78]]; decide) (evIfp (tl_lit [78]) (Ev.bind (evIs (num_ev s hs)) (Ev.now _)))
theorem r73 (s : ByteArray) (x : Dr) (hs : s.size ≤ 281474976710656) : Ev (fun k => readF k ⟨#[73]⟩ s x) ({ x with id := (numS s).1 }, (numS s).2) := by
 unfold readF
 exact evIfn (by rw [tl_lit [73]]; decide) (evIfn (by rw [tl_lit [73]]; decide) (evIfp (tl_lit [73]) (Ev.bind (evIs (num_ev s hs)) (Ev.now _))))
theorem r84 (s : ByteArray) : ∃ u v e, (∀ x : Dr, Ev (fun k => readF k ⟨#[84]⟩ s x) ({ x with tm := u }, e)) ∧ Ev (fun k => aumbryref22_ground.f k s) (v, e) ∧ (e = 0 → v = u) ∧ u.length ≤ 64 := by
 obtain ⟨u, a, e, h1, h1', hl, hc⟩ := parse_sound s
 have rd : ∀ (q : List ByteArray × Int), Ev (fun k => term_Vars.f k u) q → ∀ x : Dr, Ev (fun k => readF k ⟨#[84]⟩ s x) ({ x with tm := u }, if e = 0 then (if 0 < q.1.length then 7 else e) else e) := fun q hq x => by
  unfold readF
  exact evIfn (by rw [tl_lit [84]]; decide) (evIfn (by rw [tl_lit [84]]; decide) (evIfn (by rw [tl_lit [84]]; decide) (evIfp (tl_lit [84]) (Ev.bind h1 (Ev.bind hq (Ev.now _))))))
 rcases hc with ⟨h0, hu, _⟩ | ⟨h0, _, c, l, b, d, e1, p1, p2, e2⟩
 ·
  have hv : ∃ v, Ev (fun k => term_Vars.f k u) v := by
   by_cases hu : checkS u = 0
   ·
    exact ⟨_, ev_vars hu⟩
   ·
    exact ⟨_, ev_vars_no hu⟩
  obtain ⟨q, hq⟩ := hv
  refine ⟨u, [], e, fun x => ?_, ?_, fun h => absurd h h0, hl⟩
  ·
   have := rd q hq x
   rwa [if_neg h0] at this
  ·
   unfold aumbryref22_ground.f
   exact Ev.bind h1' (evIfn h0 (Ev.now _))
 ·
  have hck : checkS u = 0 := by
   rw [e1]
   refine checkS_of (by rw [← e1]; exact hl) p2 ?_
   show segN l (0 + ar c) = some []
   have := tx_seg p1
   rw [Nat.zero_add]
   exact this
  subst h0
  have hr := rd _ (ev_vars hck)
  by_cases hv : 0 < (varsS [] u).length
  ·
   refine ⟨u, [], 7, fun x => ?_, ?_, fun h => absurd h (by decide), hl⟩
   ·
    have := hr x
    rw [if_pos rfl, if_pos hv] at this
    exact this
   ·
    unfold aumbryref22_ground.f
    exact Ev.bind h1' (evIfp rfl (Ev.bind (ev_rvars (show u.length ≤ 1000 by omega)) (evIfp (show ((varsS [] u).length : Int) > 0 by omega) (Ev.now _))))
  ·
   refine ⟨u, u, 0, fun x => ?_, ?_, fun _ => rfl, hl⟩
   ·
    have := hr x
    rw [if_pos rfl, if_neg hv] at this
    exact this
   ·
    unfold aumbryref22_ground.f
    exact Ev.bind h1' (evIfp rfl (Ev.bind (ev_rvars (show u.length ≤ 1000 by omega)) (evIfn (show ¬ ((varsS [] u).length : Int) > 0 by omega) (Ev.now _))))
theorem rl_lit {k : Nat} {w s : ByteArray} {ws l : List ByteArray} {x : Dr} (h : 1 < w.size) : readL k (w :: ws) (s :: l) x = readL k ws l x := by rw [readL, if_pos h]
theorem rd2 {w s : ByteArray} {ws l : List ByteArray} {x y : Dr} {e : Int} {r : Dr × Int} (hw : ¬ 1 < w.size) (h : Ev (fun k => readF k w s x) (y, e)) (h2 : e = 0 → Ev (fun k => readL k ws l y) r) : Ev (fun k => readL k (w :: ws) (s :: l) x) (if e = 0 then r else (dr0 0, e)) := by
 refine Ev.congr (fun k => (show readL k (w :: ws) (s :: l) x = (if 1 < w.size then readL k ws l x else (readF k w s x).bind fun r => if r.2 = 0 then readL k ws l r.1 else some (dr0 0, r.2)) from by rw [readL])) ?_
 refine evIfn hw (Ev.bind h ?_)
 by_cases c : e = 0
 ·
  rw [if_pos c]; exact evIfp c (h2 c)
 ·
  rw [if_neg c]; exact evIfn c (Ev.now _)
theorem rd1 {w s : ByteArray} {x y : Dr} {e : Int} (hw : ¬ 1 < w.size) (h : Ev (fun k => readF k w s x) (y, e)) : Ev (fun k => readL k [w] [s] x) (if e = 0 then (y, 0) else (dr0 0, e)) := rd2 hw h fun _ => Ev.congr (fun k => (show readL k [] [] y = some (y, 0) from rfl)) (Ev.now _)
def PF (g h : Nat → Option (Dr × Int)) : Prop := ∃ y z e, Ev g (y, e) ∧ Ev h (z, e) ∧ smDr y ∧ (e = 0 → SameDr y z) ∧ (e ≠ 0 → y = dr0 0)
theorem PF.no : PF (fun _ => some (dr0 0, 12)) (fun _ => some (dr0 0, 12)) := ⟨_, _, _, Ev.now _, Ev.now _, smDr0 0, fun _ => .rfl' _, fun _ => rfl⟩
theorem PF.step {l : List ByteArray} {f : List ByteArray × Int} {fs : List (List ByteArray × Int)} {P c : Prop} [Decidable c] {h h' : Nat → Option (Dr × Int)} (hf : fitsF f.1 l = true ↔ P) (hc : c ↔ P) (h1 : P → PF (fun k => readL k f.1 l (dr0 f.2)) h) (h2 : ¬ P → PF (fun k => cmdW k l fs) h') : PF (fun k => cmdW k l (f :: fs)) (fun k => if c then h k else h' k) := by
 by_cases cp : P
 ·
  obtain ⟨y, z, e, g1, g2, g3⟩ := h1 cp
  exact ⟨y, z, e, evIfp (hf.2 cp) g1, evIfp (hc.2 cp) g2, g3⟩
 ·
  obtain ⟨y, z, e, g1, g2, g3⟩ := h2 cp
  exact ⟨y, z, e, evIfn (fun h => cp (hf.1 h)) g1, evIfn (fun h => cp (hc.1 h)) g2, g3⟩
theorem PF.of {g h : Nat → Option (Dr × Int)} {y z : Dr} {e : Int} (hg : Ev g (if e = 0 then (y, 0) else (dr0 0, e))) (hh : Ev h (z, e)) (hs : smDr y) (hz : e = 0 → SameDr y z) : PF g h := by
 by_cases c : e = 0
 ·
  subst c
  rw [if_pos rfl] at hg
  exact ⟨y, z, 0, hg, hh, hs, fun _ => hz rfl, fun h => absurd rfl h⟩
 ·
  rw [if_neg c] at hg
  exact ⟨dr0 0, z, e, hg, hh, smDr0 0, fun h => absurd h c, fun _ => rfl⟩
theorem PF.kind {b : ByteArray} (kd : Int) : PF (fun k => readL k [⟨#[87]⟩] [b] (dr0 kd)) (fun k => kindR k b kd) := by
 by_cases c : kindS b = 1
 ·
  refine PF.of (y := { dr0 kd with nm := b }) (z := { dr0 kd with nm := b }) (e := 0) ?_ ?_ (smDr0 kd) (fun _ => .rfl' _)
  ·
   have := r87 b (dr0 kd)
   rw [if_pos c] at this
   exact rd1 (by decide) this
  ·
   unfold kindR
   refine Ev.bind (ev_refKind b) ?_
   rw [if_pos c]
   exact Ev.now _
 ·
  refine PF.of (y := dr0 kd) (z := { dr0 kd with nm := b }) (e := 4) ?_ ?_ (smDr0 kd) (fun h => absurd h (by decide))
  ·
   have := r87 b (dr0 kd)
   rw [if_neg c] at this
   exact rd1 (by decide) this
  ·
   unfold kindR
   refine Ev.bind (ev_refKind b) ?_
   rw [if_neg c]
   exact Ev.now _
theorem num22 (b : ByteArray) (hb : b.size ≤ 281474976710656) : Ev (fun k => aumbryref22_number.f k b) (numS b) := by
 unfold aumbryref22_number.f
 exact Ev.bind (ev_refNumber b hb) (Ev.now _)
theorem PF.num {b : ByteArray} {x : Dr} (hx : smDr x) (hb : b.size ≤ 281474976710656) : PF (fun k => readL k [⟨#[78]⟩] [b] x) (fun k => numR k b fun i => { x with n := i }) :=
 PF.of (rd1 (by decide) (r78 b x hb)) (by unfold numR; exact Ev.bind (num22 b hb) (Ev.now _)) hx (fun _ => .rfl' _)
theorem PF.idn {b : ByteArray} {x : Dr} (hx : smDr x) (hb : b.size ≤ 281474976710656) : PF (fun k => readL k [⟨#[73]⟩] [b] x) (fun k => numR k b fun i => { x with id := i }) :=
 PF.of (rd1 (by decide) (r73 b x hb)) (by unfold numR; exact Ev.bind (num22 b hb) (Ev.now _)) hx (fun _ => .rfl' _)
theorem PF.gro {b : ByteArray} {x : Dr} (hx : smDr x) : PF (fun k => readL k [⟨#[84]⟩] [b] x) (fun k => groR k b fun t => { x with tm := t }) := by
 obtain ⟨u, v, e, h1, h2, h3, h4⟩ := r84 b
 exact PF.of (rd1 (by decide) (h1 x)) (by unfold groR; exact Ev.bind h2 (Ev.now _)) ⟨h4, hx.2⟩ (fun h => by rw [h3 h]; exact .rfl' _)
theorem PF.then {w s : ByteArray} {ws l : List ByteArray} {x y : Dr} {e : Int} {g h : Nat → Option (Dr × Int)} (hw : ¬ 1 < w.size) (h1 : Ev (fun k => readF k w s x) (y, e)) (he : e ≠ 0 → ∃ z, Ev h (z, e)) (h2 : e = 0 → PF (fun k => readL k ws l y) h) : PF (fun k => readL k (w :: ws) (s :: l) x) h := by
 by_cases c : e = 0
 ·
  obtain ⟨y', z, e', g1, g2, g3, g4⟩ := h2 c
  have := rd2 hw h1 (fun _ => g1)
  rw [if_pos c] at this
  exact ⟨y', z, e', this, g2, g3, g4⟩
 ·
  obtain ⟨z, hz⟩ := he c
  have := rd2 (ws := ws) (l := l) (r := (dr0 0, 0)) hw h1 (fun h => absurd h c)
  rw [if_neg c] at this
  exact ⟨_, z, e, this, hz, smDr0 0, fun h => absurd h c, fun _ => rfl⟩
theorem PF.lit {w a : ByteArray} {ws l : List ByteArray} {x : Dr} {h : Nat → Option (Dr × Int)} (hw : 1 < w.size) (h1 : PF (fun k => readL k ws l x) h) : PF (fun k => readL k (w :: ws) (a :: l) x) h := by
 obtain ⟨y, z, e, g1, g2⟩ := h1
 exact ⟨y, z, e, Ev.congr (fun k => rl_lit hw) g1, g2⟩
theorem bare_like (a : ByteArray) : PF (fun k => cmdW k [a] ws1) (fun _ => some (bareF a (bareL.zip bareK))) := by
 have e : ∀ (w : ByteArray) (kd : Int) (ps : List (ByteArray × Int)) (l : List UInt8), w = ⟨l.toArray⟩ → (fun _ : Nat => some (bareF a ((w, kd) :: ps))) = fun _ => if a.toList = l then some (dr0 kd, 0) else some (bareF a ps) := by
  intro w kd ps l hw
  funext k
  rw [bareF]
  by_cases c : a.toList = w.toList
  ·
   rw [if_pos c, if_pos (by rw [c, hw, tl_lit])]
  ·
   rw [if_neg c, if_neg (fun h => c (by rw [h, hw, tl_lit]))]
 have g : ∀ (w : ByteArray) (kd : Int), 1 < w.size → PF (fun k => readL k [w] [a] (dr0 kd)) (fun _ => some (dr0 kd, 0)) := fun w kd hw => PF.lit hw ⟨_, _, 0, Ev.congr (fun k => (show readL k [] [] (dr0 kd) = some (dr0 kd, (0 : Int)) from rfl)) (Ev.now _), Ev.now _, smDr0 kd, fun _ => .rfl' _, fun h => absurd rfl h⟩
 unfold bareL bareK
 simp only [List.zip_cons_cons, List.zip_nil_left]
 rw [e _ _ _ [110, 97, 109, 101, 115] rfl]
 refine PF.step (fits1 (by decide)) (lit_iff [110, 97, 109, 101, 115]) (fun _ => g _ _ (by decide)) (fun _ => ?_)
 rw [e _ _ _ [115, 121, 109, 98, 111, 108, 115] rfl]
 refine PF.step (fits1 (by decide)) (lit_iff [115, 121, 109, 98, 111, 108, 115]) (fun _ => g _ _ (by decide)) (fun _ => ?_)
 rw [e _ _ _ [114, 117, 108, 101, 115] rfl]
 refine PF.step (fits1 (by decide)) (lit_iff [114, 117, 108, 101, 115]) (fun _ => g _ _ (by decide)) (fun _ => ?_)
 rw [e _ _ _ [109, 101, 109, 111, 115] rfl]
 refine PF.step (fits1 (by decide)) (lit_iff [109, 101, 109, 111, 115]) (fun _ => g _ _ (by decide)) (fun _ => ?_)
 rw [e _ _ _ [106, 111, 98, 115] rfl]
 refine PF.step (fits1 (by decide)) (lit_iff [106, 111, 98, 115]) (fun _ => g _ _ (by decide)) (fun _ => ?_)
 rw [e _ _ _ [118, 101, 114, 115, 105, 111, 110] rfl]
 refine PF.step (fits1 (by decide)) (lit_iff [118, 101, 114, 115, 105, 111, 110]) (fun _ => g _ _ (by decide)) (fun _ => ?_)
 exact PF.no
theorem one_like (a b : ByteArray) (hb : b.size ≤ 281474976710656) : PF (fun k => cmdW k [a, b] ws2) (fun k => oneR k a b) := by
 unfold oneR
 refine PF.step (fits2 (by decide) ⟨by decide, by decide⟩) (lit_iff [102, 111, 114, 103, 101, 116]) (fun _ => PF.lit (by decide) (PF.kind _)) (fun _ => ?_)
 refine PF.step (fits2 (by decide) ⟨by decide, by decide⟩) (lit_iff [115, 104, 111, 119]) (fun _ => PF.lit (by decide) (PF.kind _)) (fun _ => ?_)
 refine PF.step (fits2 (by decide) ⟨by decide, by decide⟩) (lit_iff [117, 110, 114, 117, 108, 101]) (fun _ => PF.lit (by decide) (PF.idn (smDr0 _) hb)) (fun _ => ?_)
 by_cases cm : a = (⟨#[109, 101, 109, 111]⟩ : ByteArray)
 ·
  subst cm
  by_cases cb : b = (⟨#[111, 110]⟩ : ByteArray) ∨ b = (⟨#[111, 102, 102]⟩ : ByteArray)
  ·
   refine PF.step (P := True) ((fits2O (by decide)).trans ⟨fun _ => trivial, fun _ => ⟨rfl, cb⟩⟩) ((lit_iff [109, 101, 109, 111]).trans ⟨fun _ => trivial, fun _ => rfl⟩) (fun _ => PF.lit (by decide) ?_) (fun h => absurd trivial h)
   refine PF.of (y := { dr0 11 with on := b.toList == [111, 110] }) (z := { dr0 11 with on := b.toList == [111, 110] }) (e := 0) (rd1 (by decide) ?_) ?_ (smDr0 11) (fun _ => .rfl' _)
   ·
    unfold readF
    exact evIfn (by rw [tl_lit [79]]; decide) (evIfn (by rw [tl_lit [79]]; decide) (evIfn (by rw [tl_lit [79]]; decide) (evIfn (by rw [tl_lit [79]]; decide) (evIfn (by rw [tl_lit [79]]; decide) (evIfn (by rw [tl_lit [79]]; decide) (evIfp (tl_lit [79]) (Ev.now _)))))))
   ·
    rcases cb with rfl | rfl
    ·
     rw [if_pos (tl_lit [111, 110])]
     exact Ev.now _
    ·
     rw [if_neg (by rw [tl_lit [111, 102, 102]]; decide), if_pos (tl_lit [111, 102, 102])]
     exact Ev.now _
  ·
   have hb1 : ¬ b.toList = [111, 110] := fun h => cb (.inl ((lit_iff [111, 110]).1 h))
   have hb2 : ¬ b.toList = [111, 102, 102] := fun h => cb (.inr ((lit_iff [111, 102, 102]).1 h))
   rw [if_neg hb1, if_neg hb2]
   refine ⟨dr0 0, _, 12, ?_, evIfp (tl_lit [109, 101, 109, 111]) (Ev.now _), smDr0 0, fun h => absurd h (by decide), fun _ => rfl⟩
   refine evIfn (fun h => cb ((fits2O (by decide)).1 h).2) ?_
   refine evIfn (fun h => absurd ((fits2 (by decide) ⟨by decide, by decide⟩).1 h) (by decide)) ?_
   refine evIfn (fun h => absurd ((fits2 (by decide) ⟨by decide, by decide⟩).1 h) (by decide)) ?_
   refine evIfn (fun h => absurd ((fits2 (by decide) ⟨by decide, by decide⟩).1 h) (by decide)) ?_
   refine evIfn (fun h => absurd ((fits2 (by decide) ⟨by decide, by decide⟩).1 h) (by decide)) ?_
   exact Ev.now _
 refine PF.step (P := False) ((fits2O (by decide)).trans ⟨fun h => cm h.1, False.elim⟩) ((lit_iff [109, 101, 109, 111]).trans ⟨cm, False.elim⟩) False.elim (fun _ => ?_)
 refine PF.step (fits2 (by decide) ⟨by decide, by decide⟩) (lit_iff [106, 111, 98]) (fun _ => PF.lit (by decide) (PF.gro (smDr0 _))) (fun _ => ?_)
 refine PF.step (fits2 (by decide) ⟨by decide, by decide⟩) (lit_iff [108, 111, 111, 107]) (fun _ => PF.lit (by decide) (PF.idn (smDr0 _) hb)) (fun _ => ?_)
 refine PF.step (fits2 (by decide) ⟨by decide, by decide⟩) (lit_iff [100, 114, 111, 112]) (fun _ => PF.lit (by decide) (PF.idn (smDr0 _) hb)) (fun _ => ?_)
 refine PF.step (fits2 (by decide) ⟨by decide, by decide⟩) (lit_iff [114, 101, 99, 108, 97, 105, 109]) (fun _ => PF.lit (by decide) (PF.num (smDr0 _) hb)) (fun _ => ?_)
 exact PF.no
theorem two_like (a b c : ByteArray) (hb : b.size ≤ 281474976710656) (hc : c.size ≤ 281474976710656) : PF (fun k => cmdW k [a, b, c] ws3) (fun k => twoR k a b c) := by
 unfold twoR
 refine PF.step (fits3 (by decide) ⟨by decide, by decide⟩ ⟨by decide, by decide⟩) (lit_iff [115, 121, 109, 98, 111, 108]) (fun _ => PF.lit (by decide) ?_) (fun _ => ?_)
 ·
  by_cases ck : kindS b = 1
  ·
   have h1 := r87 b (dr0 1)
   rw [if_pos ck] at h1
   obtain ⟨y, z, e, g1, g2, g3⟩ := PF.num (b := c) (x := { dr0 1 with nm := b }) ⟨Nat.zero_le _, Nat.zero_le _, Nat.zero_le _⟩ hc
   exact PF.then (g := fun _ => none) (by decide) h1 (fun h => absurd rfl h) (fun _ => ⟨y, z, e, g1, Ev.bind (ev_refKind b) (evIfp ck g2), g3⟩)
  ·
   have h1 := r87 b (dr0 1)
   rw [if_neg ck] at h1
   exact PF.then (g := fun _ => none) (by decide) h1 (fun _ => ⟨_, Ev.bind (ev_refKind b) (evIfn ck (Ev.now _))⟩) (fun h => absurd h (by decide))
 refine PF.step (fits3 (by decide) ⟨by decide, by decide⟩ ⟨by decide, by decide⟩) (lit_iff [110, 97, 109, 101]) (fun _ => PF.lit (by decide) ?_) (fun _ => ?_)
 ·
  by_cases ck : kindS b = 1
  ·
   have h1 := r87 b (dr0 2)
   rw [if_pos ck] at h1
   obtain ⟨y, z, e, g1, g2, g3⟩ := PF.gro (b := c) (x := { dr0 2 with nm := b }) ⟨Nat.zero_le _, Nat.zero_le _, Nat.zero_le _⟩
   exact PF.then (g := fun _ => none) (by decide) h1 (fun h => absurd rfl h) (fun _ => ⟨y, z, e, g1, Ev.bind (ev_refKind b) (evIfp ck g2), g3⟩)
  ·
   have h1 := r87 b (dr0 2)
   rw [if_neg ck] at h1
   exact PF.then (g := fun _ => none) (by decide) h1 (fun _ => ⟨_, Ev.bind (ev_refKind b) (evIfn ck (Ev.now _))⟩) (fun h => absurd h (by decide))
 refine PF.step (fits3 (by decide) ⟨by decide, by decide⟩ ⟨by decide, by decide⟩) (lit_iff [110, 111, 114, 109]) (fun _ => PF.lit (by decide) ?_) (fun _ => ?_)
 ·
  obtain ⟨u, v, e, h1, h2, h3, h4⟩ := r84 b
  refine PF.then (g := fun _ => none) (by decide) (h1 (dr0 10)) (fun he => ⟨_, Ev.bind h2 (evIfn he (Ev.now _))⟩) (fun he => ?_)
  obtain ⟨y, z, e', g1, g2, g3⟩ := PF.num (b := c) (x := { dr0 10 with tm := u }) ⟨h4, Nat.zero_le _, Nat.zero_le _⟩ hc
  obtain rfl := h3 he
  exact ⟨y, z, e', g1, Ev.bind h2 (evIfp he g2), g3⟩
 refine PF.step (fits3 (by decide) ⟨by decide, by decide⟩ ⟨by decide, by decide⟩) (lit_iff [114, 117, 110]) (fun _ => PF.lit (by decide) ?_) (fun _ => ?_)
 ·
  refine PF.then (g := fun _ => none) (by decide) (r73 b (dr0 14) hb) (fun he => ⟨_, Ev.bind (num22 b hb) (evIfn he (Ev.now _))⟩) (fun he => ?_)
  obtain ⟨y, z, e', g1, g2, g3⟩ := PF.num (b := c) (x := { dr0 14 with id := (numS b).1 }) ⟨Nat.zero_le _, Nat.zero_le _, Nat.zero_le _⟩ hc
  exact ⟨y, z, e', g1, Ev.bind (num22 b hb) (evIfp he g2), g3⟩
 exact PF.no
theorem rule_like (a b c d : ByteArray) : PF (fun k => cmdW k [a, b, c, d] ws4) (fun k => if a.toList = [114, 117, 108, 101] then (if c.toList = [45, 62] then ruleR k b d else some (dr0 0, 12)) else some (dr0 0, 12)) := by
 have no : ¬ (a = (⟨#[114, 117, 108, 101]⟩ : ByteArray) ∧ c = (⟨#[45, 62]⟩ : ByteArray)) → Ev (fun k => cmdW k [a, b, c, d] ws4) (dr0 0, 12) := fun hn => evIfn (fun h => hn ((fits4 (by decide) ⟨by decide, by decide⟩ (by decide) ⟨by decide, by decide⟩).1 h)) (Ev.now _)
 by_cases c1 : a = (⟨#[114, 117, 108, 101]⟩ : ByteArray)
 case neg => exact ⟨dr0 0, _, 12, no (fun h => c1 h.1), evIfn (fun h => c1 ((lit_iff [114, 117, 108, 101]).1 h)) (Ev.now _), smDr0 0, fun _ => .rfl' _, fun _ => rfl⟩
 by_cases c2 : c = (⟨#[45, 62]⟩ : ByteArray)
 case neg => exact ⟨dr0 0, _, 12, no (fun h => c2 h.2), evIfp ((lit_iff [114, 117, 108, 101]).2 c1) (evIfn (fun h => c2 ((lit_iff [45, 62]).1 h)) (Ev.now _)), smDr0 0, fun _ => .rfl' _, fun _ => rfl⟩
 obtain ⟨l, r, e, h1, h2, h3, h4, _⟩ := ev_rparse b d
 have hr : PF (fun k => readL k [(⟨#[114, 117, 108, 101]⟩ : ByteArray), (⟨#[76]⟩ : ByteArray), (⟨#[45, 62]⟩ : ByteArray), (⟨#[82]⟩ : ByteArray)] [a, b, c, d] (dr0 7)) (fun k => ruleR k b d) := by
  refine PF.lit (by decide) (PF.then (g := fun _ => none) (y := { dr0 7 with left := b }) (e := 0) (by decide) ?_ (fun h => absurd rfl h) (fun _ => PF.lit (by decide) ?_))
  ·
   unfold readF
   exact evIfn (by rw [tl_lit [76]]; decide) (evIfn (by rw [tl_lit [76]]; decide) (evIfn (by rw [tl_lit [76]]; decide) (evIfn (by rw [tl_lit [76]]; decide) (evIfp (tl_lit [76]) (Ev.now _)))))
  ·
   refine PF.of (y := { dr0 7 with left := b, rid := 0, lf := l, rt := r }) (z := { dr0 7 with rid := 0, lf := l, rt := r }) (e := e) (rd1 (by decide) ?_) (by unfold ruleR; exact Ev.bind h2 (Ev.now _)) ⟨Nat.zero_le _, h3, h4⟩ (fun _ => ⟨rfl, rfl, rfl, rfl, rfl, rfl, rfl, rfl, rfl⟩)
   unfold readF
   exact evIfn (by rw [tl_lit [82]]; decide) (evIfn (by rw [tl_lit [82]]; decide) (evIfn (by rw [tl_lit [82]]; decide) (evIfn (by rw [tl_lit [82]]; decide) (evIfn (by rw [tl_lit [82]]; decide) (evIfp (tl_lit [82]) (Ev.bind h1 (Ev.now _)))))))
 obtain ⟨y, z, e', g1, g2, g3⟩ := hr
 exact ⟨y, z, e', evIfp ((fits4 (by decide) ⟨by decide, by decide⟩ (by decide) ⟨by decide, by decide⟩).2 ⟨c1, c2⟩) g1, evIfp ((lit_iff [114, 117, 108, 101]).2 c1) (evIfp ((lit_iff [45, 62]).2 c2) g2), g3⟩
theorem ref_like (s : ByteArray) : ∃ y z e, Ev (fun k => cmdF k s) (y, e) ∧ Ev (fun k => refF k s) (z, e) ∧ SameDr y z ∧ smDr y ∧ (e ≠ 0 → z = dr0 0) := by
 by_cases hs : (s.size : Int) > 256
 ·
  exact ⟨dr0 0, dr0 0, 2, by unfold cmdF; exact evIfp hs (Ev.now _), by unfold refF; exact evIfp hs (Ev.now _), .rfl' _, smDr0 0, fun _ => rfl⟩
 have hw := words_sz s (by omega)
 have fin : ∀ {h : Nat → Option (Dr × Int)} (n : Nat) (ws : List (List ByteArray × Int)), (wdsS s).length = n → (wsA.filter fun f => f.1.length == n) = ws → PF (fun k => cmdW k (wdsS s) ws) h → (∀ r : Dr × Int, Ev h r → Ev (fun k => refB k (wdsS s)) (if r.2 = 0 then (r.1, 0) else (dr0 0, r.2))) →
  ∃ y z e, Ev (fun k => cmdF k s) (y, e) ∧ Ev (fun k => refF k s) (z, e) ∧ SameDr y z ∧ smDr y ∧ (e ≠ 0 → z = dr0 0) := by
  intro h n ws hn hws hp hr
  obtain ⟨y, z, e, g1, g2, g3, g4, g5⟩ := hp
  have hc : Ev (fun k => cmdF k s) (y, e) := by
   unfold cmdF
   refine evIfn hs (Ev.bind (evIs (words_at s (by omega))) ?_)
   exact Ev.congr (fun k => by rw [cmdL_W, cmdW_len, hn, hws]) g1
  have hR := hr _ g2
  have hf : Ev (fun k => refF k s) (if e = 0 then (z, 0) else (dr0 0, e)) := by
   unfold refF
   exact evIfn hs (Ev.bind (ev_refWords s (by omega)) hR)
  by_cases ce : e = 0
  ·
   subst ce
   rw [if_pos rfl] at hf
   exact ⟨y, z, 0, hc, hf, g4 rfl, g3, fun h => absurd rfl h⟩
  ·
   rw [if_neg ce] at hf
   exact ⟨y, dr0 0, e, hc, hf, by rw [g5 ce]; exact .rfl' _, g3, fun _ => rfl⟩
 have fr : ∀ {h : Nat → Option (Dr × Int)} {r : Dr × Int}, Ev h r → Ev (fun k => (h k).bind finR) (if r.2 = 0 then (r.1, 0) else (dr0 0, r.2)) := fun {h r} hr => by
  refine Ev.bind hr ?_
  unfold finR
  by_cases c : r.2 = 0
  ·
   rw [if_pos c, if_pos c]; exact Ev.now _
  ·
   rw [if_neg c, if_neg c]; exact Ev.now _
 match hl : wdsS s with
 | [a] =>
  refine fin 1 ws1 (by rw [hl]; rfl) ws1_ok (by rw [hl]; exact bare_like a) (fun r hr => ?_)
  rw [hl]
  unfold refB
  have : r = bareF a (bareL.zip bareK) := ev_det hr (Ev.now _)
  subst this
  refine evIfp rfl ?_
  have hb : ∀ ps : List (ByteArray × Int), (if (bareF a ps).2 = 0 then ((bareF a ps).1, 0) else (dr0 0, (bareF a ps).2)) = bareF a ps := by
   intro ps
   induction ps with
   | nil => rfl
   | cons q ps ih =>
    rw [bareF]
    split
    ·
     rfl
    ·
     exact ih
  rw [hb]
  exact Ev.now _
 | [a, b] =>
  have hb := hw b (by rw [hl]; simp)
  refine fin 2 ws2 (by rw [hl]; rfl) ws2_ok (by rw [hl]; exact one_like a b hb) (fun r hr => ?_)
  rw [hl]
  unfold refB
  exact evIfn (by simp) (evIfp rfl (fr hr))
 | [a, b, c] =>
  have hb := hw b (by rw [hl]; simp)
  have hc := hw c (by rw [hl]; simp)
  refine fin 3 ws3 (by rw [hl]; rfl) ws3_ok (by rw [hl]; exact two_like a b c hb hc) (fun r hr => ?_)
  rw [hl]
  unfold refB
  exact evIfn (by simp) (evIfn (by simp) (evIfp rfl (fr hr)))
 | [a, b, c, d] =>
  refine fin 4 ws4 (by rw [hl]; rfl) ws4_ok (by rw [hl]; exact rule_like a b c d) (fun r hr => ?_)
  rw [hl]
  unfold refB
  refine evIfn (by simp) (evIfn (by simp) (evIfn (by simp) (evIfp rfl ?_)))
  by_cases c1 : a.toList = [114, 117, 108, 101]
  case neg =>
   obtain rfl := ev_det hr (evIfn c1 (Ev.now _))
   exact evIfn c1 (Ev.now _)
  by_cases c2 : c.toList = [45, 62]
  case neg =>
   obtain rfl := ev_det hr (evIfp c1 (evIfn c2 (Ev.now _)))
   exact evIfp c1 (evIfn c2 (Ev.now _))
  exact evIfp c1 (evIfp c2 (fr (Ev.congr (fun k => (show ruleR k b d = (if a.toList = [114, 117, 108, 101] then (if c.toList = [45, 62] then ruleR k b d else some (dr0 0, 12)) else some (dr0 0, 12)) from by rw [if_pos c1, if_pos c2])) hr)))
 | [] =>
  refine fin (h := fun _ => some (dr0 0, 12)) 0 [] (by rw [hl]; rfl) (by decide +kernel) (by rw [hl]; exact PF.no) (fun r hr => ?_)
  obtain rfl := ev_det hr (Ev.now _)
  rw [hl]
  unfold refB
  exact evIfn (by simp) (evIfn (by simp) (evIfn (by simp) (evIfn (by simp) (Ev.now _))))
 | a :: b :: c :: d :: e :: l =>
  refine fin (h := fun _ => some (dr0 0, 12)) (l.length + 5) [] (by rw [hl]; simp) (List.filter_eq_nil_iff.2 fun f hf h => by
   have h1 := ws_no f hf
   have h2 := beq_iff_eq.1 h
   omega) (by rw [hl]; exact PF.no) (fun r hr => ?_)
  obtain rfl := ev_det hr (Ev.now _)
  rw [hl]
  unfold refB
  exact evIfn (by simp only [List.length_cons]; omega) (evIfn (by simp only [List.length_cons]; omega) (evIfn (by simp only [List.length_cons]; omega) (evIfn (by simp only [List.length_cons]; omega) (Ev.now _))))
end Go.Proofs.YtmlddeogmckgmaaGreatDoor.P

-- ==== PureCommandReads
/- Any line is read as a command, or refused, as the document says: for every line, the law answers true. -/
namespace Go.Proofs.YtmlddeogmckgmaaGreatDoor.Pure
open Go.RowKit Go.Proofs.YtmlddeogmckgmaaGreatDoor.P Go.Proofs.YtmlddeogmckgmaaGreatDoorW.PrintWords
theorem CommandReads : aumbrylaw22_CommandReads.Pure := by
 intro s hs
 refine Ev.rounds ?_
 unfold aumbrylaw22_CommandReads.f lawRd
 refine Ev.bind ev_wakes22 (evIfp rfl ?_)
 obtain ⟨y, z, e, h1, h2, h3, h4, _⟩ := ref_like s
 obtain ⟨b, hb1, hb2⟩ := ev_same22 y z (.inl h4.small)
 obtain rfl : b = true := hb2.2 h3
 exact Ev.bind h1 (Ev.bind h2 (Ev.bind hb1 (evIfp rfl (evIfp rfl (Ev.now _)))))
end Go.Proofs.YtmlddeogmckgmaaGreatDoor.Pure

-- ==== RowCommandReads
namespace Go.Proofs.YtmlddeogmckgmaaGreatDoor.commandReads
open Go.ChangeShapes Go.WideShapes Go.ChangeAt Go.RowKit Go.Proofs.YtmlddeogmckgmaaGreatDoorW.PrintWords Go.Proofs.YtmlddeogmckgmaaGreatDoor.P Go.Proofs.YtmlddeogmckgmaaGreatDoor.Open
open Go.ChangeMaps (open_string shut_string)
theorem own : ownKnob Tryz.prog.godebug = none := by kernel_rfl
theorem laidOut : laidOutB Tryz.prog = true := by kernel_rfl
theorem core {H : Type} {enc : TypeId × Value → H} (W : World) (base : Nat) (args : Array Value) (ds gs : List (DataW H)) (before : List MemPlace)
 (hval : ∀ (j : Nat) t v, Tryz.f3.params[j]? = some t → args[j]? = some v → Value.okWide Tryz.prog W .any base t v)
 (hW : DataW.Whole enc Tryz.prog Tryz.f3.params.toList Rows.commandReadsSpec.vars false W args.toList ds gs before)
 (hsz : (DataW.weightsEach Tryz.prog (Tryz.f3.params.toList ++ Rows.commandReadsSpec.plain.varTypes Tryz.prog) (ds ++ gs)).all (· ≤ reachBytes) = true)
 (hL : laidMetH Tryz.prog Rows.commandReadsRow.laid W)
 :
 Calls Tryz.prog 3 args W fun e W' => ∃ v, e = .returned v ∧ Rows.commandReadsSpec.post enc Tryz.prog Tryz.f3 false true false false W args v W' := by
 have hW' := hW
 obtain ⟨p, q, hA, hV, rfl, hfz, hnd⟩ := hW
 rw [Tryz.params3] at hA hval hsz
 obtain ⟨v0, vs0, d0, ds0, p0, q0, hargs, rfl, rfl, h0, r0⟩ := trodAll_cons hA
 obtain ⟨rfl, rfl, rfl⟩ := trodAll_nil r0
 obtain rfl : args = #[v0] := by cases args; simp_all
 obtain ⟨rfl, rfl⟩ := trodVars_none hV
 have k0 := h0
 obtain ⟨n0, hf0⟩ := h0
 obtain ⟨x0, hK0, hS0, hB0⟩ := op9.go hf0 (fun m hm => by have := List.all_eq_true.1 hsz m (DataW.weights_mem_each (j := 0) rfl rfl m hm); simpa using this)
 have lt0 : ∀ z ∈ p0, z.block < W.heap.size := by obtain ⟨m, hm⟩ := k0; exact DataW.trod_lt m _ _ _ hm
 obtain ⟨y0, rfl⟩ := okWide_string Tryz.underlying9 (hval 0 9 v0 rfl rfl)
 have hcs0' : [_] = [_] := hK0
 injection hcs0' with hcs0'
 injection hcs0' with hq0
 subst hq0
 obtain ⟨k, h⟩ := Pure.CommandReads y0 hS0
 refine (aumbrylaw22_CommandReads.calls k y0 true W h rfl (glob_row hL)).mono ?_
 rintro e W' ⟨rfl, hd⟩
 have bel : Below W.heap.size W W' := hd
 exact ⟨_, rfl, _, _, _, [], _, [], hW', trodAll_mk1 (shut_bool Tryz.underlying4 _), (trodAll_cons_mk (Below.trod laidOut (by kernel_rfl) (of_decide_eq_true (by kernel_rfl)) k0 bel lt0) trodAll_mk0), rfl, bel.frame _, fun h => by cases h⟩
theorem laid_met (os : Os) : laidMet Tryz.prog Rows.commandReadsRow.laid ((World.laidAll Tryz.prog os Rows.commandReadsRow.laid).forCall (fun _ _ => 0) ⟨#[], #[.string ByteArray.empty], []⟩).memory :=
 laidMet_laidAll _ (by kernel_rfl) (by kernel_rfl)
theorem reads (os : Os) {H : Type} (enc : TypeId × Value → H) : (DataW.whole enc Tryz.prog ((World.laidAll Tryz.prog os Rows.commandReadsRow.laid).forCall (fun _ _ => 0) ⟨#[], #[.string ByteArray.empty], []⟩).memory Tryz.f3.params.toList Rows.commandReadsSpec.vars false (#[.string ByteArray.empty] : Array Value).toList 8).isSome = true := by kernel_rfl
theorem lifted (os : Os) (started : os.Started) (H : Type) (enc : TypeId × Value → H) (F : Stop.Interp) :
 ReturnsInHanded {} Tryz.checked os 3 .any ((OpenSpec.ofChange Rows.commandReadsSpec).preRow enc Tryz.prog Tryz.f3 Rows.commandReadsRow.domain false Rows.commandReadsRow.laid) (((OpenSpec.ofChange Rows.commandReadsSpec).at F).post enc Tryz.prog Tryz.f3 false true false false) := by
 obtain ⟨x, hx⟩ := Option.isSome_iff_exists.1 (reads os enc)
 refine returnsInHanded_of_row (C := Tryz.checked) (s := (OpenSpec.ofChange Rows.commandReadsSpec)) own started (by kernel_rfl) Tryz.func3
  (witness_row_atRef (enc := enc) (C := Tryz.checked) false (World.laidAll Tryz.prog os Rows.commandReadsRow.laid) #[.string ByteArray.empty] rfl (by kernel_rfl) (by kernel_rfl) (by kernel_rfl)
   (OpenSpec.preRow_of_cond 8 hx rfl (fun k hk => by cases hk) (by kernel_rfl) (laid_met os))) ?_
 intro W base args ds gs before hval0 hW _ hk hsz0 hL _ _
 exact core W base args ds gs before hval0 hW hsz0 hL
theorem said : Rows.CommandReadsSaid :=
 OpenClaim.holds_of_cond 3 Tryz.f3 rfl rfl rfl rfl rfl rfl rfl ⟨rfl, rfl, rfl, rfl, rfl⟩ rfl rfl rfl rfl rfl (by kernel_rfl) Tryz.func3 (by kernel_rfl)
  (of_decide_eq_true (by kernel_rfl)) (by unfold Func.isWrapper; first | (rw [if_pos (by decide +kernel)]; kernel_rfl) | (rw [if_neg (by decide +kernel)]; exact ⟨rfl, rfl⟩))
  (fun os started H enc _ F => by rw [OpenClaim.pre_eq_preRow]; exact lifted os started H enc F)
theorem plain (f : FuncId) (fn : Func) (hf : Tryz.pinned.checked.prog.funcNamed "aumbry/aumbrylaw22.CommandReads" = some f) (hfn : Tryz.pinned.checked.prog.funcs[f]? = some fn) :
 true = Tryz.pinned.checked.prog.looks [] ∧ ∀ (j : Nat) t, fn.params[j]? = some t → Tryz.pinned.checked.prog.wantsStandIn t = false := by
 obtain rfl : f = 3 := Option.some.inj ((show Tryz.prog.funcNamed "aumbry/aumbrylaw22.CommandReads" = some 3 by kernel_rfl).symm.trans hf) |>.symm
 obtain rfl : fn = Tryz.f3 := (Option.some.inj (Tryz.func3.symm.trans hfn)).symm
 refine ⟨by kernel_rfl, fun j t ht => ?_⟩
 rw [Tryz.params3] at ht
 have hm := Array.mem_of_getElem? ht
 obtain rfl : t = 9 := by simpa using hm
 exact (show Tryz.prog.wantsStandIn 9 = false by kernel_rfl)
theorem card : Rows.CommandReadsCardSaid :=
 Claim7.holds_tied_plain_at .later [] _ _ _ _ said (fun _ h => by cases h) (by kernel_rfl) (fun _ h => by cases h) commandReads_row_tie rfl ⟨rfl, rfl⟩ (by kernel_rfl) rfl plain (by kernel_rfl)
end Go.Proofs.YtmlddeogmckgmaaGreatDoor.commandReads
namespace Go.Proofs.YtmlddeogmckgmaaGreatDoor
theorem commandReads_holds : Rows.CommandReadsCardSaid := commandReads.card
#print axioms commandReads_holds
end Go.Proofs.YtmlddeogmckgmaaGreatDoor
