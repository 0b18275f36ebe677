/- RewriteRuns: the law answers true at every input that the given row speaks of. Conditions: those of the given row, none besides. (Part 4 of 5; written by programs of this session, which drive the kit's print, and by hand.) -/
import Derived.WalkSpells
import Derived.RangeFuncNested
import Derived.RangeFuncBound
import Derived.RangeFuncCalls
import Derived.RangeFuncLeaves
import Derived.RangeFuncBox
import Derived.RangeFuncFrom
import Derived.RangeFuncWrites
import Derived.Shelf.Abstract
import Derived.WalkKit
import Derived.OwnWalkIn
import Derived.TacticsInMore
import Derived.LoopNIn
import Derived.LoopIn
import Derived.Lib.LaidTab
import Derived.Scope
import Derived.KernelRfl
import Derived.Test.YtdlkhpfgkghhmaaZRewriteRunsU0
import Derived.Test.YtdlkhpfgkghhmaaZRewriteRunsU1
import Derived.Test.YtdlkhpfgkghhmaaZRewriteRunsU2
set_option maxHeartbeats 8000000
set_option maxRecDepth 100000
set_option linter.unusedVariables false
set_option linter.unusedSimpArgs false
-- ==== Rw11
namespace Go.Proofs.Ytdlkhpfgkghhmaa.P
open Go.RowKit Go.Proofs.YtdlkhpfgkghhmaaW.PrintWords Go.Proofs.YtdlkhpfgkghhmaaW.PrintLast Go.Proofs.YtdlkhpfgkghhmaaW.PrintMore
structure Mst where
 ops : List S70
 vals : List (List S54)
 st : Int
 hd : List ByteArray
 fu : Int
def nodeR (k : Nat) (rules : List S73) (node : List S54) (nm : ByteArray) (args : List (List S54)) (m : Mst) (m0 : Mst) : Option (Int × Mst) :=
 (fitsF k node rules).bind fun
  | none => (headF k [nm] m.hd).bind fun hd => if m.vals.length < 5864062014800 then some (0, ⟨m.ops, m.vals ++ [node], m.st, hd, m.fu⟩) else none
  | some rb => if m.fu ≤ 0 then some (14, m0) else if m.fu ≤ 9223372036854775807 ∧ (∀ b ∈ rb.2, b.f1.length ≤ 64) then
   (headF k [nm] m.hd).bind fun hd => (todoL (bindL rb.2) rb.1.f2 k 0 []).bind fun r => if m.ops.length + r.1.length < 2513169434900 then some (0, ⟨m.ops ++ r.1.reverse, m.vals, wrap64 (m.st + 1), hd, m.fu - 1⟩) else none else none
def makeN (k : Nat) (rules : List S73) (nm : ByteArray) (o : S70) (args : List (List S54)) (m : Mst) : Option (Int × Mst) :=
 if (nodeL ⟨nm, args.length⟩ args).length > 64 then some (6, ⟨m.ops ++ [o], m.vals ++ args, m.st, m.hd, m.fu⟩)
 else nodeR k rules (nodeL ⟨nm, args.length⟩ args) nm args m ⟨m.ops ++ [o], m.vals ++ args, m.st, m.hd, m.fu⟩
theorem F_lit {W : World} {nb : Nat} {nm : ByteArray} {ok : Nat → Prop} (h : W.heap[nb]? = some (.cells #[.string nm] 9 (0, 0))) (ho : ok nb) : Kd.F Kd.string W ok (some ⟨nb, 0, none⟩) [nm].length [nm] := by
 intro W' hW
 have hb := (hW nb ho (blk_lt h)).trans h
 refine ⟨rfl, by simp, fun _ => ⟨_, rfl, fun j p hj => ?_⟩⟩
 match j, hj with
 | 0, hj =>
  obtain rfl := Option.some.inj hj
  refine ⟨[.string nm], rfl, rfl, fun i u hu => ?_⟩
  match i, hu with
  | 0, hu =>
   obtain rfl := Option.some.inj hu
   rw [Nat.zero_mul, Nat.zero_add, Addr.add_zero']
   exact (blk_cell hb 0).trans rfl
  | i + 1, hu => simp at hu
 | j + 1, hj => simp at hj
theorem isMcH_below {B g : Nat} {W W' : World} {rv tv vh : Value} {ops : List S70} {vals : List (List S54)} {st fu : Int} {hd : List ByteArray} (h : IsMcH B W g rv tv ops vals st vh hd fu) (hb : Below W.heap.size W W') : IsMcH B W' g rv tv ops vals st vh hd fu := by
 obtain ⟨vo, vv, h1, h2, h3, h4, h5⟩ := h
 exact ⟨vo, vv, blk_below h1 hb, h2, Kd.R_below h3 hb, Kd.R_below h4 hb, Kd.R_below h5 hb⟩
theorem lit_new (w2 : World) (a b c : Obj) : (((w2.alloc a).alloc b).alloc c).heap[w2.heap.size + 1 + 1]? = some c := by
 have h := heap_alloc_new ((w2.alloc a).alloc b) c
 rwa [show ((w2.alloc a).alloc b).heap.size = w2.heap.size + 1 + 1 by simp] at h
theorem al2_below (w2 : World) (a b : Obj) : Below w2.heap.size w2 ((w2.alloc a).alloc b) := below_alloc (below_alloc (Below.refl _ _) a) b
theorem al2_0 (w2 : World) (a b : Obj) : ((w2.alloc a).alloc b).heap[w2.heap.size]? = some a := ((below_alloc (Below.refl _ _) b).block w2.heap.size (by simp)).trans (heap_alloc_new w2 a)
theorem al2_1 (w2 : World) (a b : Obj) : ((w2.alloc a).alloc b).heap[w2.heap.size + 1]? = some b := by
 have h := heap_alloc_new (w2.alloc a) b
 rwa [show (w2.alloc a).heap.size = w2.heap.size + 1 by simp] at h
theorem isMcH_fs {B g : Nat} {W : World} {rv tv vh : Value} {ops : List S70} {vals : List (List S54)} {st fu : Int} {hd : List ByteArray} (h : IsMcH B W g rv tv ops vals st vh hd fu) (st' fu' : Int) :
 IsMcH B ((W.setCell ⟨g, 6, none⟩ (.int .i64 fu')).setCell ⟨g, 2, none⟩ (.int .i64 st')) g rv tv ops vals st' vh hd fu' := by
 obtain ⟨vo, vv, h1, h2, h3, h4, h5⟩ := h
 have k1 : (W.setCell ⟨g, 6, none⟩ (.int .i64 fu')).heap[g]? = some (.cells #[vo, vv, .int .i64 st, vh, rv, tv, .int .i64 fu'] 94 (0, 0)) := by simpa using blk_set h1 6 (.int .i64 fu')
 exact ⟨vo, vv, by simpa using blk_set k1 2 (.int .i64 st'), h2, Kd.R_set (Kd.R_set h3 h1 (by decide) 6 _) k1 (by decide) 2 _, Kd.R_set (Kd.R_set h4 h1 (by decide) 6 _) k1 (by decide) 2 _, Kd.R_set (Kd.R_set h5 h1 (by decide) 6 _) k1 (by decide) 2 _⟩
theorem rows_parts {W : World} {B C : Nat} {v : Value} {xs : List S70} (h : Kd.R k70 70 W C (fun _ => True) v xs) (hB : B ≤ C) : ∃ A c, v = .slice A xs.length c ∧ ReadsRow (fun x cs => Kd.M k70 W B (fun k => C ≤ k ∧ some k ≠ v.ownBlock) x cs) k70.sz W A xs.length xs := by
 have h2 := Kd.R_lower (Kd.R_mono (Kd.R_bound h) (fun k hk => (hk.2.1 : C ≤ k))) hB
 obtain ⟨A, c, he, _, hr⟩ := OwnRow.reads h2.2
 exact ⟨A, c, he, hr⟩
theorem head2_calls {B g k nb : Nat} {w2 W : World} {rv tv vh : Value} {ops : List S70} {vals : List (List S54)} {st fu : Int} {hd fin : List ByteArray} {nm : ByteArray}
 (h : IsMcH B w2 g rv tv ops vals st vh hd fu) (hf : headF k [nm] hd = some fin) (hW : Below w2.heap.size w2 W) (hnb : W.heap[nb]? = some (.cells #[.string nm] 9 (0, 0))) (hle : w2.heap.size ≤ nb) :
 Calls Try.prog 73 #[.pointer (some ⟨g, 0, none⟩), .slice (some ⟨nb, 0, none⟩) 1 1] W fun e w3 => e = .returned (.tuple #[]) ∧ IsMc B w3 g rv tv ops vals st fin fu ∧ Below B w2 w3 ∧ Kept w2 w3 (fun q => q = g ∨ vh.ownBlock = some q) := by
 have h2 := h
 obtain ⟨vo, vv, h1, hg, _, _, hH⟩ := h2
 have hgl := blk_lt h1
 refine (head_calls (cn := 1) (names := [nm]) (isMcH_below h hW) (F_lit hnb ⟨by omega, fun he => by have := Kd.R_lt hH _ he; omega⟩) hf).mono ?_
 rintro e w3 ⟨he, hM, hB3, hK3⟩
 exact ⟨he, hM, below_trB (below_less hW (by omega)) hB3, Kept.then_ (Kept.below (Kept.refl w2 _) hW) hK3 (fun q hq => .inl hq)⟩
def IsM (B : Nat) (W : World) (g : Nat) (rv tv : Value) (m : Mst) : Prop := IsMc B W g rv tv m.ops m.vals m.st m.hd m.fu
theorem nodeL_pos (c : S54) : ∀ (args : List (List S54)), 0 < (nodeL c args).length := by
 intro args
 have : ∀ (args : List (List S54)) (out : List S54), 0 < out.length → 0 < (args.foldl nodeStep out).length := by
  intro args
  induction args with
  | nil => intro out h; exact h
  | cons v u ih =>
   intro out h
   refine ih _ ?_
   unfold nodeStep
   split
   ·
    rw [List.length_append]; omega
   ·
    exact h
 exact this args [c] (by simp)

theorem make_calls {B g k cr : Nat} {w0 w : World} {Ar : Option Addr} {rules : List S73} {nm : ByteArray} {o : S70} {args : List (List S54)} {m : Mst} {r : Int × Mst}
 (h : IsM B w g (.slice Ar rules.length cr) .nilIface ⟨m.ops ++ [o], m.vals ++ args, m.st, m.hd, m.fu⟩) (hr : Kd.C k73 w0 Ar rules.length rules) (hw0 : w0.heap.size ≤ B) (hb0 : Below w0.heap.size w0 w)
 (hv : ∀ v ∈ args, v.length ≤ 64) (hf : makeN k rules nm o args m = some r) :
 Calls Try.prog 49 #[.pointer (some ⟨g, 0, none⟩), .agg #[.string nm, .int .i64 (args.length : Int)]] w fun e w' => e = .returned (.int .i64 r.1) ∧ IsM B w' g (.slice Ar rules.length cr) .nilIface r.2 ∧ Below B w w' := by
 have HI := Aside0.mk h
 have HR := Aside0.mk hr
 have HW := Aside0.mk (And.intro hw0 hb0)
 have HF := Aside0.mk hf
 have hbx := heap_alloc_new w (.cells #[.string nm, .int .i64 (args.length : Int)] 54)
 have hb1 := below_alloc (Below.refl w.heap.size w) (.cells #[.string nm, .int .i64 (args.length : Int)] 54)
 obtain ⟨node, hnode⟩ : ∃ node, node = nodeL ⟨nm, args.length⟩ args := ⟨_, rfl⟩
 have N1 := fun (W : World) (hW : Below w.heap.size w W) => node_calls (nm := nm) (args := args) (vals := m.vals) (isMc_below h hW) hv
 rw [← hnode] at N1
 have hpos : 0 < node.length := by rw [hnode]; exact nodeL_pos _ _
 have hBw := isMc_lt h
 have HBX := Aside0.mk hbx
 have HB1 := Aside0.mk hb1
 have HBw := Aside0.mk hBw
 have h0 := HF.out
 unfold makeN at h0
 rw [← hnode] at h0
 have HP := Aside0.mk hpos
 clear h hr hw0 hb0 hf hb1 hbx hBw hnode HF
 have HBW := Aside0.mk (Below.refl w.heap.size w)
 by_cases hbig : node.length > 64
 ·
  rw [if_pos hbig] at h0
  obtain rfl := Option.some.inj h0
  clear h0 hpos
  have hnil := fun (W : World) => Lib.run_eql_slice_nil (P := Try.prog) W 23 54 none 0 0 0 0 Try.underlying23
  have hnil' : ∀ (W : World), Sem.run Try.prog (binOp BinOp.eql 23 (.slice none 0 0) (.slice none 0 0)) W = Result.ok (Value.bool true) W := hnil
  clear hnil
  have HBG := Aside0.mk hbig
  clear hbig
  go_enter Try.func49, Try.ntmps49
  go_wp2_with (first | (go_at_call 72; (with_reducible refine (N1 _ ?side1).mono ?_); (case side1 => exact (zq HBW.out)); rintro e w1 ⟨v1, rfl, hE, hb⟩; have hv1 : v1 = .slice none 0 0 := (by unfold NodeEnd at hE; rw [if_pos HBG.out] at hE; exact hE); subst hv1; have HB2 := Aside0.mk (below_step (zq HBW.out) hb); clear hE hb))
  go_ret
  exact ⟨rfl, isMc_below HI.out HB2.out, below_less HB2.out HBw.out⟩
 ·
  rw [if_neg hbig] at h0
  unfold nodeR at h0
  replace h0 := Option.bind_eq_some_iff.mp h0
  obtain ⟨res, hres, h0⟩ := h0
  have HRES := Aside0.mk hres
  have H0 := Aside0.mk h0
  have HBG := Aside0.mk hbig
  obtain ⟨vh, hih⟩ := isMc_iff.1 HI.out
  have HIH := Aside0.mk hih
  have HNS := Aside0.mk (show ∀ q, w.heap.size ≤ q → ¬ (q = g ∨ vh.ownBlock = some q) from fun q hq hs => by
   obtain ⟨_, _, h1, _, _, _, h5⟩ := HIH.out
   have := blk_lt h1
   rcases hs with rfl | hs
   ·
    omega
   ·
    have := Kd.R_lt h5 _ hs
    omega)
  clear hih
  clear hbig hres h0
  go_enter Try.func49, Try.ntmps49
  go_upto_region 10 with (first | (go_at_call 72; (with_reducible refine (N1 _ ?side2).mono ?_); (case side2 => exact (zq HBW.out)); rintro e w1 ⟨v1, rfl, hE, hb⟩; have hR1 : Kd.R k54 54 _ _ _ v1 node := (by unfold NodeEnd at hE; rw [if_neg HBG.out] at hE; exact hE); obtain ⟨gn, cn, rfl, _⟩ := Kd.R_form hR1 HP.out; have hnil' : ∀ (W : World) (n c : Nat), Sem.run Try.prog (binOp BinOp.eql 23 (.slice (some ⟨gn, 0, none⟩) n c) (.slice none 0 0)) W = Result.ok (Value.bool false) W := (fun W n c => Lib.run_eql_slice_nil (P := Try.prog) W 23 54 (some ⟨gn, 0, none⟩) n c 0 0 Try.underlying23); have HR1 := Aside0.mk (Kd.R_mono (Kd.R_bound (Kd.R_lower hR1 (Below.size (zq HBW.out)))) (fun k hk => (hk.2.1 : w.heap.size ≤ k))); have HBX1 := Aside0.mk ((hb.block w.heap.size (by have := HBX.out; exact blk_lt this)).trans HBX.out); have HB2 := Aside0.mk (below_step (zq HBW.out) hb); have hmh := isMcH_below HIH.out HB2.out; have HM1 := Aside0.mk hmh; obtain ⟨vo, vv, hmb, _⟩ := hmh; have HMB := Aside0.mk hmb; have q5 := (blk_cell hmb 5).trans rfl; clear hE hb hR1 hmb))
  have HB1W := Aside0.mk (Below.refl w1.heap.size w1)
  have FT1 := fun (W : World) (hW : Below w1.heap.size w1 W) => fits_calls (blk_below HMB.out hW) HR.out (below_step (below_step HW.out.2 HB2.out) hW) (Kd.R_reads' (Kd.R_below HR1.out hW)).2.2 (Kd.R_reads' HR1.out).2.1 HP.out HRES.out
  have h0 := H0.out
  cases res with
  | none =>
   simp only at h0
   replace h0 := Option.bind_eq_some_iff.mp h0
   obtain ⟨hd2, hhd, h0⟩ := h0
   have HHD := Aside0.mk hhd
   by_cases hlen : m.vals.length < 5864062014800
   case neg => rw [if_neg hlen] at h0; cases h0
   rw [if_pos hlen] at h0
   obtain rfl := Option.some.inj h0
   have HLEN := Aside0.mk hlen
   clear h0 hhd hlen H0 hpos hv N1
   go_wp2_with (first | (go_at_call 74; (with_reducible refine (FT1 _ ?side3).mono ?_); (case side3 => exact (zq HB1W.out)); rintro e w2 ⟨hE, hb⟩; have HBa := Aside0.mk (below_step (zq HB1W.out) hb); have he : e = .returned (.tuple #[.agg #[.int .i64 0, .slice none 0 0, .slice none 0 0], .slice none 0 0, .bool false]) := hE; subst he; have HM2 := Aside0.mk (isMcH_below HM1.out HBa.out); have HR2 := Aside0.mk (Kd.R_below HR1.out HBa.out); have HBX2 := Aside0.mk (blk_below HBX1.out HBa.out); have HB2W := Aside0.mk (Below.refl w2.heap.size w2); have q0 := pw_cell_below (below_alloc (below_alloc (Below.refl w2.heap.size w2) (.cells #[.int .i64 0, .slice none 0 0, .slice none 0 0] 73)) (.cells #[.slice none 0 0] 100)) ((blk_cell HBX2.out 0).trans rfl : w2.cell? ⟨w.heap.size, 0, none⟩ = some (.string nm)); have q6 := pw_cell_below (below_alloc (below_alloc (Below.refl w2.heap.size w2) (.cells #[.int .i64 0, .slice none 0 0, .slice none 0 0] 73)) (.cells #[.slice none 0 0] 100)) ((blk_cell (blk_below HMB.out HBa.out) 6).trans rfl : w2.cell? ⟨g, 6, none⟩ = some (.int .i64 m.fu)); have H1 := fun (W : World) (nb : Nat) (hW : Below w2.heap.size w2 W) (hnb : W.heap[nb]? = some (.cells #[.string nm] 9 (0, 0))) (hle : w2.heap.size ≤ nb) => head2_calls HM2.out HHD.out hW hnb hle; clear hE hb) | (go_at_call 73; (with_reducible refine (H1 _ (w2.heap.size + 1 + 1) ?side4a ?side4b ?side4c).mono ?_); (case side4a => exact (zq HB2W.out)); (case side4b => exact lit_new _ _ _ _); (case side4c => omega); rintro e w3 ⟨rfl, hM3, hB3, hK3⟩; have HM3 := Aside0.mk hM3; have HB3 := Aside0.mk hB3; have HR3 := Aside0.mk (Kd.R_lower (Kd.R_mono (Kd.R_kept HR2.out hK3 HNS.out) (fun _ _ => trivial)) HBw.out); have HBX3 := Aside0.mk (blk_kept HBX2.out hK3 (HNS.out _ (Nat.le_refl _))); have q1 := (blk_cell HBX3.out 1).trans rfl; clear hM3 hB3 hK3) | (go_at_call 48; (with_reducible refine (fin_calls HM3.out HR3.out (by have := HLEN.out; omega)).mono ?_); rintro e w4 ⟨rfl, hM4, hB4⟩; have HM4 := Aside0.mk hM4; have HB4 := Aside0.mk hB4; clear hM4 hB4))
   go_ret
   exact ⟨rfl, HM4.out, below_trB (below_trB (below_less (below_step HB2.out HBa.out) HBw.out) HB3.out) HB4.out⟩
  | some rb =>
   simp only at h0
   by_cases hfu : m.fu ≤ 0
   ·
    rw [if_pos hfu] at h0
    obtain rfl := Option.some.inj h0
    have hfb : decide (m.fu ≤ 0) = true := decide_eq_true hfu
    clear h0 hfu H0 hpos hv N1
    go_wp2_with (first | (go_at_call 74; (with_reducible refine (FT1 _ ?side5).mono ?_); (case side5 => exact (zq HB1W.out)); rintro e w2 ⟨hE, hb⟩; have HBa := Aside0.mk (below_step (zq HB1W.out) hb); obtain ⟨A1, A2, c1, c2, vb, rfl, hl2, hC2, hRb⟩ := hE; obtain ⟨Ab, cb, rfl⟩ := Kd.R_slice hRb; have HRb := Aside0.mk hRb; have HLO := Aside0.mk (show w.heap.size ≤ _ from Nat.le_trans HB2.out.size (Below.size (zq HB1W.out))); have HL2 := Aside0.mk hl2; have HC2 := Aside0.mk hC2; have HM2 := Aside0.mk (isMcH_below HM1.out HBa.out); have HR2 := Aside0.mk (Kd.R_below HR1.out HBa.out); have HBX2 := Aside0.mk (blk_below HBX1.out HBa.out); have HB2W := Aside0.mk (Below.refl w2.heap.size w2); have q0 := pw_cell_below (below_alloc (below_alloc (Below.refl w2.heap.size w2) (.cells #[.int .i64 rb.1.f0, .slice A1 rb.1.f1.length c1, .slice A2 rb.1.f2.length c2] 73)) (.cells #[.slice Ab rb.2.length cb] 100)) ((blk_cell HBX2.out 0).trans rfl : w2.cell? ⟨w.heap.size, 0, none⟩ = some (.string nm)); have q6 := pw_cell_below (below_alloc (below_alloc (Below.refl w2.heap.size w2) (.cells #[.int .i64 rb.1.f0, .slice A1 rb.1.f1.length c1, .slice A2 rb.1.f2.length c2] 73)) (.cells #[.slice Ab rb.2.length cb] 100)) ((blk_cell (blk_below HMB.out HBa.out) 6).trans rfl : w2.cell? ⟨g, 6, none⟩ = some (.int .i64 m.fu)); clear hb hl2 hC2 hRb))
    go_ret
    exact ⟨rfl, isMc_iff.2 ⟨_, isMcH_below HM2.out ((zq HB2W.out) : Below w2.heap.size w2 _)⟩, below_less (below_step (below_step HB2.out HBa.out) (zq HB2W.out)) HBw.out⟩
   ·
    rw [if_neg hfu] at h0
    by_cases hgo : m.fu ≤ 9223372036854775807 ∧ (∀ b ∈ rb.2, b.f1.length ≤ 64)
    case neg => rw [if_neg hgo] at h0; cases h0
    rw [if_pos hgo] at h0
    replace h0 := Option.bind_eq_some_iff.mp h0
    obtain ⟨hd2, hhd, h0⟩ := h0
    replace h0 := Option.bind_eq_some_iff.mp h0
    obtain ⟨td, htd, h0⟩ := h0
    have hfb : decide (m.fu ≤ 0) = false := decide_eq_false hfu
    by_cases hlen : m.ops.length + td.1.length < 2513169434900
    case neg => rw [if_neg hlen] at h0; cases h0
    rw [if_pos hlen] at h0
    obtain rfl := Option.some.inj h0
    have HLEN := Aside0.mk hlen
    have HGO := Aside0.mk hgo
    have HHD := Aside0.mk hhd
    have HTD := Aside0.mk htd
    have hwf : IntKind.i64.wrap (m.fu - 1) = m.fu - 1 := IntWalk.i64_in _ (by omega)
    have hws : IntKind.i64.wrap (m.st + 1) = wrap64 (m.st + 1) := i64_w _
    clear h0 hfu H0 hpos hv N1 hlen hgo hhd htd
    go_upto_region 19 with (first | (go_at_call 74; (with_reducible refine (FT1 _ ?side6).mono ?_); (case side6 => exact (zq HB1W.out)); rintro e w2 ⟨hE, hb⟩; have HBa := Aside0.mk (below_step (zq HB1W.out) hb); obtain ⟨A1, A2, c1, c2, vb, rfl, hl2, hC2, hRb⟩ := hE; obtain ⟨Ab, cb, rfl⟩ := Kd.R_slice hRb; have HRb := Aside0.mk hRb; have HLO := Aside0.mk (show w.heap.size ≤ _ from Nat.le_trans HB2.out.size (Below.size (zq HB1W.out))); have HL2 := Aside0.mk hl2; have HC2 := Aside0.mk hC2; have HM2 := Aside0.mk (isMcH_below HM1.out HBa.out); have HR2 := Aside0.mk (Kd.R_below HR1.out HBa.out); have HBX2 := Aside0.mk (blk_below HBX1.out HBa.out); have HB2W := Aside0.mk (Below.refl w2.heap.size w2); have q0 := pw_cell_below (below_alloc (below_alloc (Below.refl w2.heap.size w2) (.cells #[.int .i64 rb.1.f0, .slice A1 rb.1.f1.length c1, .slice A2 rb.1.f2.length c2] 73)) (.cells #[.slice Ab rb.2.length cb] 100)) ((blk_cell HBX2.out 0).trans rfl : w2.cell? ⟨w.heap.size, 0, none⟩ = some (.string nm)); have q6 := pw_cell_below (below_alloc (below_alloc (Below.refl w2.heap.size w2) (.cells #[.int .i64 rb.1.f0, .slice A1 rb.1.f1.length c1, .slice A2 rb.1.f2.length c2] 73)) (.cells #[.slice Ab rb.2.length cb] 100)) ((blk_cell (blk_below HMB.out HBa.out) 6).trans rfl : w2.cell? ⟨g, 6, none⟩ = some (.int .i64 m.fu)); have hbk := blk_below (blk_below HMB.out HBa.out) (below_alloc (below_alloc (Below.refl w2.heap.size w2) (.cells #[.int .i64 rb.1.f0, .slice A1 rb.1.f1.length c1, .slice A2 rb.1.f2.length c2] 73)) (.cells #[.slice Ab rb.2.length cb] 100)); have f6 := blk_frozen hbk 6; have hbk6 : (((w2.alloc (.cells #[.int .i64 rb.1.f0, .slice A1 rb.1.f1.length c1, .slice A2 rb.1.f2.length c2] 73)).alloc (.cells #[.slice Ab rb.2.length cb] 100)).setCell ⟨g, 6, none⟩ (.int .i64 (m.fu - 1))).heap[g]? = some (.cells #[vo, vv, .int .i64 m.st, vh, .slice Ar rules.length cr, .nilIface, .int .i64 (m.fu - 1)] 94 (0, 0)) := (by simpa using blk_set hbk 6 (.int .i64 (m.fu - 1))); have qs2 := (blk_cell hbk6 2).trans rfl; have fs2 := blk_frozen hbk6 2; clear hbk hbk6; clear hb hl2 hC2 hRb))
    have HS2 := Aside0.mk (show w.heap.size ≤ w2.heap.size from (below_step HB2.out HBa.out).size)
    have HM4 := Aside0.mk (isMcH_fs (isMcH_below HM2.out (al2_below w2 (.cells #[.int .i64 rb.1.f0, .slice A1 rb.1.f1.length c1, .slice A2 rb.1.f2.length c2] 73) (.cells #[.slice Ab rb.2.length cb] 100))) (wrap64 (m.st + 1)) (m.fu - 1))
    have HG := Aside0.mk (show B ≤ g by obtain ⟨_, _, _, hg, _⟩ := HM2.out; exact hg)
    have HK4 := Aside0.mk (show Kept ((w2.alloc (.cells #[.int .i64 rb.1.f0, .slice A1 rb.1.f1.length c1, .slice A2 rb.1.f2.length c2] 73)).alloc (.cells #[.slice Ab rb.2.length cb] 100)) ((((w2.alloc (.cells #[.int .i64 rb.1.f0, .slice A1 rb.1.f1.length c1, .slice A2 rb.1.f2.length c2] 73)).alloc (.cells #[.slice Ab rb.2.length cb] 100)).setCell ⟨g, 6, none⟩ (.int .i64 (m.fu - 1))).setCell ⟨g, 2, none⟩ (.int .i64 (wrap64 (m.st + 1)))) (fun q => q = g ∨ vh.ownBlock = some q) from Kept.setCell (Kept.setCell (Kept.refl _ _) (p := ⟨g, 6, none⟩) (.inl (.inl rfl)) _) (p := ⟨g, 2, none⟩) (.inl (.inl rfl)) _)
    have HB4 := Aside0.mk (show Below B w ((((w2.alloc (.cells #[.int .i64 rb.1.f0, .slice A1 rb.1.f1.length c1, .slice A2 rb.1.f2.length c2] 73)).alloc (.cells #[.slice Ab rb.2.length cb] 100)).setCell ⟨g, 6, none⟩ (.int .i64 (m.fu - 1))).setCell ⟨g, 2, none⟩ (.int .i64 (wrap64 (m.st + 1)))) from ((below_less (below_step (below_step HB2.out HBa.out) (al2_below w2 (.cells #[.int .i64 rb.1.f0, .slice A1 rb.1.f1.length c1, .slice A2 rb.1.f2.length c2] 73) (.cells #[.slice Ab rb.2.length cb] 100))) HBw.out).setCell (p := ⟨g, 6, none⟩) HG.out _).setCell (p := ⟨g, 2, none⟩) HG.out _)
    have HBX4 := Aside0.mk (blk_kept (blk_below HBX2.out (al2_below w2 (.cells #[.int .i64 rb.1.f0, .slice A1 rb.1.f1.length c1, .slice A2 rb.1.f2.length c2] 73) (.cells #[.slice Ab rb.2.length cb] 100))) HK4.out (HNS.out _ (Nat.le_refl _)))
    have HR4 := Aside0.mk (blk_kept (al2_0 w2 (.cells #[.int .i64 rb.1.f0, .slice A1 rb.1.f1.length c1, .slice A2 rb.1.f2.length c2] 73) (.cells #[.slice Ab rb.2.length cb] 100)) HK4.out (HNS.out _ HS2.out))
    have HCL4 := Aside0.mk (blk_kept (al2_1 w2 (.cells #[.int .i64 rb.1.f0, .slice A1 rb.1.f1.length c1, .slice A2 rb.1.f2.length c2] 73) (.cells #[.slice Ab rb.2.length cb] 100)) HK4.out (HNS.out _ (Nat.le_succ_of_le HS2.out)))
    have HBD4 := Aside0.mk (Kd.R_kept (Kd.R_below (Kd.R_mono (Kd.R_bound (Kd.R_lower HRb.out HLO.out)) (fun k hk => (hk.2.1 : w.heap.size ≤ k))) (al2_below w2 (.cells #[.int .i64 rb.1.f0, .slice A1 rb.1.f1.length c1, .slice A2 rb.1.f2.length c2] 73) (.cells #[.slice Ab rb.2.length cb] 100))) HK4.out HNS.out)
    clear HK4 HM2 HBX2 HRb q0 q6 f6 qs2 fs2
    generalize ((((w2.alloc (.cells #[.int .i64 rb.1.f0, .slice A1 rb.1.f1.length c1, .slice A2 rb.1.f2.length c2] 73)).alloc (.cells #[.slice Ab rb.2.length cb] 100)).setCell ⟨g, 6, none⟩ (.int .i64 (m.fu - 1))).setCell ⟨g, 2, none⟩ (.int .i64 (wrap64 (m.st + 1)))) = w4 at HM4 HB4 HBX4 HR4 HCL4 HBD4 ⊢
    have H1 := fun (W : World) (nb : Nat) (hW : Below w4.heap.size w4 W) (hnb : W.heap[nb]? = some (.cells #[.string nm] 9 (0, 0))) (hle : w4.heap.size ≤ nb) => head2_calls HM4.out HHD.out hW hnb hle
    have q0 : w4.cell? ⟨w.heap.size, 0, none⟩ = some (.string nm) := (blk_cell HBX4.out 0).trans rfl
    go_upto_region 20 with (first | (go_at_call 73; (with_reducible refine (H1 _ w4.heap.size ?s7a ?s7b ?s7c).mono ?_); (case s7a => exact (by repeat (first | exact Below.refl w4.heap.size w4 | apply pw_below_drewN | apply below_drew1 | apply below_alloc))); (case s7b => exact heap_alloc_new _ _); (case s7c => exact Nat.le_refl _); rintro e w5 ⟨rfl, hM5, hB5, hK5⟩; have HM5 := Aside0.mk hM5; have HB5 := Aside0.mk (below_trB HB4.out hB5); have HBX5 := Aside0.mk (blk_kept HBX4.out hK5 (HNS.out _ (Nat.le_refl _))); have HR5 := Aside0.mk (blk_kept HR4.out hK5 (HNS.out _ HS2.out)); have HCL5 := Aside0.mk (blk_kept HCL4.out hK5 (HNS.out _ (Nat.le_succ_of_le HS2.out))); have HBD5 := Aside0.mk (Kd.R_kept HBD4.out hK5 HNS.out); clear hM5 hB5 hK5))
    clear q0 H1 HM4 HB4 HBX4 HR4 HCL4 HBD4
    obtain ⟨vo5, vv5, vh5, hb, hg, hO, hV, hH⟩ := HM5.out
    obtain ⟨Ao, co, rfl⟩ := Kd.R_slice hO
    obtain ⟨Av, cv, rfl⟩ := Kd.R_slice hV
    obtain ⟨_, hco, hCo⟩ := Kd.R_reads' hO
    obtain ⟨_, hcv, hCv⟩ := Kd.R_reads' hV
    obtain ⟨N, hN⟩ : ∃ N, N = (m.ops ++ [o]).length := ⟨_, rfl⟩
    obtain ⟨M, hM⟩ : ∃ M, M = (m.vals ++ args).length := ⟨_, rfl⟩
    rw [← hN] at hb hco hCo hO
    rw [← hM] at hb hcv hCv hV
    have hNb := hCo.2.1
    have hMb := hCv.2.1
    have hN1 : N = m.ops.length + 1 := by rw [hN]; simp
    have hM1 : M = m.vals.length + args.length := by rw [hM]; simp
    have hc0 : w5.cell? ⟨g, 0, none⟩ = some (.slice Ao N co) := (blk_cell hb 0).trans rfl
    have hf0 := blk_frozen hb 0
    have hw0 : IntKind.i64.wrap ((N : Int) - 1) = (N : Int) - 1 := IntWalk.i64_in _ (by omega)
    have hw1 : IntKind.i64.wrap ((M : Int) - (args.length : Int)) = (M : Int) - (args.length : Int) := IntWalk.i64_in _ (by omega)
    obtain ⟨i70, hi70, _, hs70, _⟩ := info_parts info70
    obtain ⟨i23, hi23, _, hs23, _⟩ := info_parts info23
    have hcutO := cut_to (P := Try.prog) 24 70 .i64 Try.underlying24 hi70 Ao N co ((N : Int) - 1) (by omega) (by omega) hco
    have hcutV := cut_to (P := Try.prog) 25 23 .i64 Try.underlying25 hi23 Av M cv ((M : Int) - (args.length : Int)) (by omega) (by omega) hcv
    rw [show ((N : Int) - 1).toNat = m.ops.length by omega] at hcutO
    rw [show ((M : Int) - (args.length : Int)).toNat = m.vals.length by omega] at hcutV
    have HO := Aside0.mk hO
    have HV := Aside0.mk hV
    have HH := Aside0.mk hH
    have HBK := Aside0.mk hb
    have HL := Aside0.mk (show N = m.ops.length + 1 ∧ M = m.vals.length + args.length from ⟨hN1, hM1⟩)
    clear hO hV hH hg hb hN1 hM1 hN hM hCo hCv hco hcv HM5
    go_region
    have HBK1 := Aside0.mk (show _ = _ from (by simpa using blk_set HBK.out 0 (.slice Ao m.ops.length co) : (w5.setCell ⟨g, 0, none⟩ (.slice Ao m.ops.length co)).heap[g]? = some (.cells #[.slice Ao m.ops.length co, .slice Av M cv, .int .i64 (wrap64 (m.st + 1)), vh5, .slice Ar rules.length cr, .nilIface, .int .i64 (m.fu - 1)] 94 (0, 0))) : (w5.setCell ⟨g, 0, none⟩ (.slice Ao m.ops.length co)).drew.heap[g]? = some (.cells #[.slice Ao m.ops.length co, .slice Av M cv, .int .i64 (wrap64 (m.st + 1)), vh5, .slice Ar rules.length cr, .nilIface, .int .i64 (m.fu - 1)] 94 (0, 0)))
    have HO1 := Aside0.mk (Kd.R_drew (Kd.R_set (show Kd.R k70 70 w5 B (fun _ => True) (.slice Ao m.ops.length co) m.ops from by have := Kd.R_take (m := m.ops.length) HO.out (by simp); rwa [List.take_left] at this) HBK.out (by decide) 0 (.slice Ao m.ops.length co)))
    have HV1 := Aside0.mk (Kd.R_drew (Kd.R_set (show Kd.R (Kd.slice 54 k54) 23 w5 B (fun _ => True) (.slice Av m.vals.length cv) m.vals from by have := Kd.R_take (m := m.vals.length) HV.out (by simp); rwa [List.take_left] at this) HBK.out (by decide) 0 (.slice Ao m.ops.length co)))
    have HH1 := Aside0.mk (Kd.R_drew (Kd.R_set HH.out HBK.out (by decide) 0 (.slice Ao m.ops.length co)))
    have HK5 := Aside0.mk (show Kept w5 (w5.setCell ⟨g, 0, none⟩ (.slice Ao m.ops.length co)).drew (fun q => q = g ∨ vh.ownBlock = some q) from Kept.setCell (Kept.refl _ _) (p := ⟨g, 0, none⟩) (.inl (.inl rfl)) _)
    have HBX6 := Aside0.mk (blk_kept HBX5.out HK5.out (HNS.out _ (Nat.le_refl _)))
    have HR6 := Aside0.mk (blk_kept HR5.out HK5.out (HNS.out _ HS2.out))
    have HCL6 := Aside0.mk (blk_kept HCL5.out HK5.out (HNS.out _ (Nat.le_succ_of_le HS2.out)))
    have HBD6 := Aside0.mk (Kd.R_kept HBD5.out HK5.out HNS.out)
    have HB6 := Aside0.mk (below_drew1 (HB5.out.setCell (p := ⟨g, 0, none⟩) HG.out (.slice Ao m.ops.length co)))
    clear HK5 HBX5 HR5 HCL5 HBD5 hc0 hf0
    generalize (w5.setCell ⟨g, 0, none⟩ (.slice Ao m.ops.length co)).drew = w6 at HBK1 HO1 HV1 HH1 HBX6 HR6 HCL6 HBD6 HB6 ⊢
    have hc1 : w6.cell? ⟨g, 1, none⟩ = some (.slice Av M cv) := (blk_cell HBK1.out 1).trans rfl
    have hf1 := blk_frozen HBK1.out 1
    have q1 : w6.cell? ⟨w.heap.size, 1, none⟩ = some (.int .i64 args.length) := (blk_cell HBX6.out 1).trans rfl
    go_upto_region 21 with fail
    go_region
    have HBK2 := Aside0.mk (show _ = _ from (by simpa using blk_set HBK1.out 1 (.slice Av m.vals.length cv) : (w6.setCell ⟨g, 1, none⟩ (.slice Av m.vals.length cv)).heap[g]? = some (.cells #[.slice Ao m.ops.length co, .slice Av m.vals.length cv, .int .i64 (wrap64 (m.st + 1)), vh5, .slice Ar rules.length cr, .nilIface, .int .i64 (m.fu - 1)] 94 (0, 0))) : (w6.setCell ⟨g, 1, none⟩ (.slice Av m.vals.length cv)).drew.heap[g]? = some (.cells #[.slice Ao m.ops.length co, .slice Av m.vals.length cv, .int .i64 (wrap64 (m.st + 1)), vh5, .slice Ar rules.length cr, .nilIface, .int .i64 (m.fu - 1)] 94 (0, 0)))
    have HO2 := Aside0.mk (Kd.R_drew (Kd.R_set HO1.out HBK1.out (by decide) 1 (.slice Av m.vals.length cv)))
    have HV2 := Aside0.mk (Kd.R_drew (Kd.R_set HV1.out HBK1.out (by decide) 1 (.slice Av m.vals.length cv)))
    have HH2 := Aside0.mk (Kd.R_drew (Kd.R_set HH1.out HBK1.out (by decide) 1 (.slice Av m.vals.length cv)))
    have HK6 := Aside0.mk (show Kept w6 (w6.setCell ⟨g, 1, none⟩ (.slice Av m.vals.length cv)).drew (fun q => q = g ∨ vh.ownBlock = some q) from Kept.setCell (Kept.refl _ _) (p := ⟨g, 1, none⟩) (.inl (.inl rfl)) _)
    have HR7 := Aside0.mk (blk_kept HR6.out HK6.out (HNS.out _ HS2.out))
    have HCL7 := Aside0.mk (blk_kept HCL6.out HK6.out (HNS.out _ (Nat.le_succ_of_le HS2.out)))
    have HBD7 := Aside0.mk (Kd.R_kept HBD6.out HK6.out HNS.out)
    have HB7 := Aside0.mk (below_drew1 (HB6.out.setCell (p := ⟨g, 1, none⟩) HG.out (.slice Av m.vals.length cv)))
    clear HK6 HBX6 HR6 HCL6 HBD6 hc1 hf1 q1 HBK HBK1 HO1 HV1 HH1 HO HV HH
    generalize (w6.setCell ⟨g, 1, none⟩ (.slice Av m.vals.length cv)).drew = w7 at HBK2 HO2 HV2 HH2 HR7 HCL7 HBD7 HB7 ⊢
    have hr2 : w7.cell? ⟨w2.heap.size, 2, none⟩ = some (.slice A2 rb.1.f2.length c2) := (blk_cell HR7.out 2).trans rfl
    have hm0 : w7.cell? ⟨g, 0, none⟩ = some (.slice Ao m.ops.length co) := (blk_cell HBK2.out 0).trans rfl
    have HLR := Aside0.mk (And.intro HL2.out (below_trB HW.out.2 (below_less HB7.out HW.out.1)))
    obtain ⟨_, _, HBDC⟩ := Kd.R_reads' HBD7.out
    have HM1' := fun (s : ByteArray) (W : World) (hW : Below w7.drew.heap.size w7.drew W) => mk1_calls (p := w2.heap.size + 1) (cb := cb) (blk_below (w := w7.drew) HCL7.out hW) (Kd.C_below (w := w7.drew) HBDC hW) HGO.out.2 s
    have O1 := ops_calls1 (w := w7.drew) (A := A2) (c := c2) (pb := w2.heap.size + 1) (Kd.C_drew (Kd.C_below HC2.out HLR.out.2)) HLR.out.1 HM1' HTD.out
    have HO1 := Aside0.mk O1
    have HLT := Aside0.mk (show B ≤ w7.heap.size from Nat.le_trans HG.out (Nat.le_of_lt (blk_lt HBK2.out)))
    have hof : (td.1.reverse).length = td.1.length := List.length_reverse
    have HOF := Aside0.mk hof
    obtain ⟨ro, hro⟩ : ∃ ro, ro = td.1.reverse := ⟨_, rfl⟩
    rw [← hro] at HO1 HOF O1 hof
    have HRO := Aside0.mk hro
    clear hro
    have AFT := Aside0.mk (show ∀ (w8 w9 : World), Below w7.drew.heap.size w7.drew w8 → w8.grownBy w9 (Value.slice Ao m.ops.length co).ownBlock → w9.heap[g]? = some (.cells #[.slice Ao m.ops.length co, .slice Av m.vals.length cv, .int .i64 (wrap64 (m.st + 1)), vh5, .slice Ar rules.length cr, .nilIface, .int .i64 (m.fu - 1)] 94 (0, 0)) ∧ Kd.R (Kd.slice 54 k54) 23 w9 B (fun _ => True) (.slice Av m.vals.length cv) m.vals ∧ Kd.R Kd.string 9 w9 B (fun _ => True) vh5 hd2 from fun w8 w9 hb8 hgr =>
     ⟨blk_grown (w := w8) (blk_below (w := w7.drew) HBK2.out hb8) hgr (Kd.R_ne HO2.out HBK2.out (by decide)), Kd.R_over (Kd.R_below (Kd.R_drew HV2.out) hb8) (Kd.R_below (Kd.R_drew HO2.out) hb8) (by decide) hgr, Kd.R_over (Kd.R_below (Kd.R_drew HH2.out) hb8) (Kd.R_below (Kd.R_drew HO2.out) hb8) (by decide) hgr⟩)
    have HPK := Aside0.mk (show ∀ k, w7.drew.heap.size ≤ k → True ∧ some k ≠ (Value.slice Ao m.ops.length co).ownBlock from fun k hk => ⟨trivial, fun he => by have h1 := Kd.R_lt HO2.out _ he.symm; have h2 : w7.heap.size ≤ k := hk; omega⟩)
    have HLM := Aside0.mk (show (m.ops.length + ro.length) * 56 ≤ 140737488355328 by have := HLEN.out; omega)
    clear hof O1 HM1' HBDC
    go_upto_region 22 with fail
    go_region_law (first | (refine goes_ Try.func32 (by kernel_rfl) rfl #[.slice A2 rb.1.f2.length c2, .func (.func 75) #[] #[.pointer (some ⟨w2.heap.size + 1, 0, none⟩)]] (by rfl) rfl rfl (by (try simp only [List.map_toArray, List.map_cons, List.map_nil]); first | done | rfl) ?_; refine HO1.out.mono ?_; rintro e w8 ⟨v8, rfl, hR8, hb8⟩; refine ⟨_, rfl, ?_⟩; obtain ⟨A8, c8, rfl, hRR8⟩ := rows_parts hR8 (show B ≤ w7.drew.heap.size from HLT.out); have FR8 := Aside0.mk hRR8; have HB8 := Aside0.mk hb8; have FO8 := Aside0.mk (Kd.R_below (w := w7.drew) (Kd.R_drew HO2.out) hb8); have FB8 := Aside0.mk (below_trB (below_drew1 HB7.out) (below_less hb8 (show B ≤ w7.drew.heap.size from HLT.out))); have FS8 := Aside0.mk (Nat.le_trans HLT.out hb8.size); have hm8 := (blk_cell (blk_below (w := w7.drew) HBK2.out hb8) 0).trans rfl; clear hR8 hb8 hRR8) | (refine Kd.R_append_rows_step (W := w8) k70 (w0 := w) B rfl (.tmp 133) (.tmp 137) 24 70 (.agg #[(.int .i64 0), (.string ⟨#[]⟩), (.int .i64 0), (.slice none 0 0)]) 56 rfl Try.underlying24 info70 rfl (by decide) (by decide) (.slice Ao m.ops.length co) m.ops ro A8 ro.length c8 (fun _ => True) (fun k => w7.drew.heap.size ≤ k) rfl rfl FO8.out FR8.out (fun _ _ hx => Kd.M_drop hx) HPK.out (fun _ _ => trivial) FB8.out FS8.out HLM.out ?_; intro v9 w9 ho hb hgr hat; obtain ⟨A9, c9, rfl⟩ := Kd.R_slice ho; have HA := Aside0.mk (AFT.out w8 w9 HB8.out hgr); have HO9 := Aside0.mk ho; have HB9 := Aside0.mk hb; have hf9 := blk_frozen HA.out.1 0; have hc9 := (blk_cell HA.out.1 0).trans rfl; clear ho hb hgr hat))
    all_goals
     go_wp2
     go_ret
     have hO9 : Kd.R k70 70 w9 B (fun _ => True) (.slice A9 (m.ops.length + ro.length) c9) (m.ops ++ td.1.reverse) := by have h := HO9.out; rw [List.length_append] at h; rw [← HRO.out]; exact h
     have hS9 : (w9.setCell ⟨g, 0, none⟩ (.slice A9 (m.ops.length + ro.length) c9)).heap[g]? = some (.cells #[.slice A9 (m.ops.length + ro.length) c9, .slice Av m.vals.length cv, .int .i64 (wrap64 (m.st + 1)), vh5, .slice Ar rules.length cr, .nilIface, .int .i64 (m.fu - 1)] 94 (0, 0)) := by simpa using blk_set HA.out.1 0 (.slice A9 (m.ops.length + ro.length) c9)
     exact ⟨rfl, ⟨_, _, _, hS9, HG.out, Kd.R_set hO9 HA.out.1 (by decide) 0 _, Kd.R_set HA.out.2.1 HA.out.1 (by decide) 0 _, Kd.R_set HA.out.2.2 HA.out.1 (by decide) 0 _⟩, HB9.out.setCell (p := ⟨g, 0, none⟩) HG.out _⟩

-- ==== Rw12
def idxF (k : Nat) : List (List S54) → Int → Option Int
 | [], _ => some (-1)
 | v :: u, i => (rewrite_ground.f k v).bind fun b => if b = true then idxF k u (i + 1) else some i
theorem chk1_calls {k c : Nat} {A : Option Addr} {v : List S54} {b : Bool} {w : World} (hr : Kd.C k54 w A v.length v) (hc : v.length ≤ c) (h : rewrite_ground.f k v = some b) :
 Calls Try.prog 42 #[.slice A v.length c] w fun e w' => e = .returned (.bool (!b)) ∧ Below w.heap.size w w' := by
 have G1 := fun (W : World) (hW : Below w.heap.size w W) => rewrite_ground.calls k A c v b W (Kd.C_below hr hW) hc h
 have HBW := Aside0.mk (Below.refl w.heap.size w)
 clear hr h
 go_enter Try.func42, Try.ntmps42
 go_wp2_with (go_at_call 31; (with_reducible refine (G1 _ ?side1).mono ?_); (case side1 => exact (zq HBW.out)); rintro e w2 ⟨rfl, hb⟩; have HB2 := Aside0.mk (below_step (zq HBW.out) hb); clear hb)
 go_ret
 exact ⟨rfl, HB2.out⟩
theorem idx_calls {k cv : Nat} {w : World} {Av : Option Addr} {vals : List (List S54)} {r : Int} (hv : Kd.C (Kd.slice 54 k54) w Av vals.length vals) (hf : idxF k vals 0 = some r) :
 Calls Try.prog 67 #[.slice Av vals.length cv, .func (.func 42) #[] #[]] w fun e w' => e = .returned (.int .i64 r) ∧ Below w.heap.size w w' := by
 have HC := Aside0.mk hv
 have HF := Aside0.mk hf
 have HM := Aside0.mk (show (vals.length : Int) ≤ 9223372036854775807 by have := hv.2.1; omega)
 have HB := Aside0.mk (Below.refl w.heap.size w)
 clear hv hf
 go_enter Try.func67, Try.ntmps67
 go_wp2
 go_loopg [8] vals.length (fun kq v8 w' => ∃ x : Int, v8 = .int .i64 x ∧ Aside0 (0 ≤ x ∧ x + kq = (vals.length : Int)) ∧ Aside0 (idxF k (vals.drop x.toNat) x = some r) ∧ Aside0 (Below w.heap.size w w'))
 case atStart => exact ⟨0, rfl, ⟨by omega⟩, HF, HB⟩
 case round =>
  clear HF HB
  obtain ⟨x, rfl, HX, HF, HB⟩ := hrel
  cases gk with
  | succ k1 =>
   have hi : 0 ≤ x ∧ x < (vals.length : Int) := by have := HX.out; omega
   obtain ⟨ad, A0, c0, rfl, hx0, hl0, hc0⟩ := at_L3 (Kd.C_below HC.out HB.out) x hi.1 hi.2
   have hdr : vals.drop x.toNat = rd_L3 vals x :: vals.drop (x.toNat + 1) := by
    rw [List.drop_eq_getElem_cons (show x.toNat < vals.length by omega)]
    congr 1
    simp [rd_L3, List.getD_eq_getElem?_getD, show x.toNat < vals.length by omega]
   have hf := HF.out
   rw [hdr, idxF] at hf
   generalize rd_L3 vals x = v at hx0 hl0 hc0 hf
   obtain ⟨b, hg, hf⟩ := Option.bind_eq_some_iff.mp hf
   have HXI := Aside0.mk hi
   have hb0 : decide (x < (vals.length : Int)) = true := decide_eq_true hi.2
   have hpp := eq_true hi.1
   have hqq := eq_true hi.2
   have G1 := fun (W : World) (hW : Below wr.heap.size wr W) => chk1_calls (c := c0) (Kd.C_below hc0 hW) hl0 hg
   have HBW := Aside0.mk (Below.refl wr.heap.size wr)
   have HF1 := Aside0.mk hf
   clear hdr hc0 hl0 hg hi hf HF
   cases b with
   | true =>
    have hf := HF1.out
    rw [if_pos rfl] at hf
    have HF2 := Aside0.mk hf
    clear hf HF1
    go_wp2_with (go_at_call 42; (with_reducible refine (G1 _ ?side1).mono ?_); (case side1 => exact (zq HBW.out)); rintro e w2 ⟨rfl, hb⟩; have HB2 := Aside0.mk (below_step (zq HBW.out) hb); clear hb)
    go_roundg k1
    case measure => have := HX.out; omega
    case rel => exact ⟨x + 1, by have e_ : wrap64 (x + 1) = x + 1 := (by have := HXI.out; have := HM.out; unfold wrap64; omega); first | rfl | rw [e_] | (simp [e_]; done), ⟨by have := HX.out; omega⟩, ⟨by rw [show (x + 1).toNat = x.toNat + 1 by have := HXI.out; omega]; exact HF2.out⟩, ⟨below_step HB.out HB2.out⟩⟩
   | false =>
    have hf := HF1.out
    rw [if_neg (by decide)] at hf
    obtain rfl := Option.some.inj hf
    clear hf HF1
    go_wp2_with (go_at_call 42; (with_reducible refine (G1 _ ?side2).mono ?_); (case side2 => exact (zq HBW.out)); rintro e w2 ⟨rfl, hb⟩; have HB2 := Aside0.mk (below_step (zq HBW.out) hb); clear hb)
    go_ret
    exact ⟨rfl, below_step HB.out HB2.out⟩
  | zero =>
   have hb0 : decide (x < (vals.length : Int)) = false := decide_eq_false (by have := HX.out; omega)
   have hf := HF.out
   rw [List.drop_eq_nil_of_le (by have := HX.out; omega), idxF] at hf
   obtain rfl := Option.some.inj hf
   clear hf HF
   go_wp2
   go_ret
   exact ⟨rfl, HB.out⟩
theorem cont_calls {k cv : Nat} {w : World} {Av : Option Addr} {vals : List (List S54)} {r : Int} (hv : Kd.C (Kd.slice 54 k54) w Av vals.length vals) (hf : idxF k vals 0 = some r) :
 Calls Try.prog 41 #[.slice Av vals.length cv, .func (.func 42) #[] #[]] w fun e w' => e = .returned (.bool (decide (0 ≤ r))) ∧ Below w.heap.size w w' := by
 have G1 := fun (W : World) (hW : Below w.heap.size w W) => idx_calls (cv := cv) (Kd.C_below hv hW) hf
 have HBW := Aside0.mk (Below.refl w.heap.size w)
 clear hv hf
 go_enter Try.func41, Try.ntmps41
 go_wp2_with (go_at_call 67; (with_reducible refine (G1 _ ?side1).mono ?_); (case side1 => exact (zq HBW.out)); rintro e w2 ⟨rfl, hb⟩; have HB2 := Aside0.mk (below_step (zq HBW.out) hb); clear hb)
 go_ret
 exact ⟨rfl, HB2.out⟩
end Go.Proofs.Ytdlkhpfgkghhmaa.P

-- ==== Rw13
namespace Go.Proofs.Ytdlkhpfgkghhmaa.P
open Go.RowKit Go.Proofs.YtdlkhpfgkghhmaaW.PrintWords Go.Proofs.YtdlkhpfgkghhmaaW.PrintLast Go.Proofs.YtdlkhpfgkghhmaaW.PrintMore
attribute [local go_sem] Oper.semAt_some
def opV (fA : Nat → Option Addr) (fc : Nat → Nat) (ops : List S70) (x : Nat) : Value := .agg #[.int .i64 (rd_T70 ops x).f0, .string (rd_T70 ops x).f1.f0, .int .i64 (rd_T70 ops x).f1.f1, .slice (fA x) (rd_T70 ops x).f2.length (fc x)]
def OpsAt (w : World) (n₀ : Nat) (A : Option Addr) (fA : Nat → Option Addr) (fc : Nat → Nat) (ops : List S70) : Prop :=
 ∀ x : Nat, x < ops.length → ∃ ad, A = some ad ∧ (ad.add (x * 4)).block < n₀ ∧ w.cell? (ad.add (x * 4)) = some (.int .i64 (rd_T70 ops x).f0) ∧ w.cell? ⟨(ad.add (x * 4)).block, (ad.add (x * 4)).off + 1, none⟩ = some (.string (rd_T70 ops x).f1.f0) ∧ w.cell? ⟨(ad.add (x * 4)).block, (ad.add (x * 4)).off + 2, none⟩ = some (.int .i64 (rd_T70 ops x).f1.f1) ∧ w.cell? ⟨(ad.add (x * 4)).block, (ad.add (x * 4)).off + 3, none⟩ = some (.slice (fA x) (rd_T70 ops x).f2.length (fc x))
theorem opsAt_of {w : World} {A : Option Addr} {ops : List S70} (h : Kd.C k70 w A ops.length ops) : ∃ fA fc, OpsAt w w.heap.size A fA fc ops ∧ ∀ x : Nat, x < ops.length → (rd_T70 ops x).f2.length ≤ fc x ∧ Kd.C k54 w (fA x) (rd_T70 ops x).f2.length (rd_T70 ops x).f2 := by
 have hx : ∀ x : Nat, ∃ p : Option Addr × Nat, x < ops.length → (∃ ad, A = some ad ∧ (ad.add (x * 4)).block < w.heap.size ∧ w.cell? (ad.add (x * 4)) = some (.int .i64 (rd_T70 ops x).f0) ∧ w.cell? ⟨(ad.add (x * 4)).block, (ad.add (x * 4)).off + 1, none⟩ = some (.string (rd_T70 ops x).f1.f0) ∧ w.cell? ⟨(ad.add (x * 4)).block, (ad.add (x * 4)).off + 2, none⟩ = some (.int .i64 (rd_T70 ops x).f1.f1) ∧ w.cell? ⟨(ad.add (x * 4)).block, (ad.add (x * 4)).off + 3, none⟩ = some (.slice p.1 (rd_T70 ops x).f2.length p.2)) ∧ (rd_T70 ops x).f2.length ≤ p.2 ∧ Kd.C k54 w p.1 (rd_T70 ops x).f2.length (rd_T70 ops x).f2 := by
  intro x
  by_cases hl : x < ops.length
  ·
   obtain ⟨ad, A3, c3, e, h0, h1, h2, h3, h4, h5⟩ := at_T70 h (x : Int) (by omega) (by omega)
   rw [show ((x : Int)).toNat = x from rfl] at h0 h1 h2 h3
   exact ⟨(A3, c3), fun _ => ⟨⟨ad, e, World.block_lt_of_cell? w _ h0, h0, h1, h2, h3⟩, h4, h5⟩⟩
  ·
   exact ⟨(none, 0), fun h => absurd h hl⟩
 obtain ⟨f, hf⟩ := Classical.axiomOfChoice hx
 exact ⟨fun x => (f x).1, fun x => (f x).2, fun x hl => (hf x hl).1, fun x hl => (hf x hl).2⟩
def KpB (n₀ Bs : Nat) (W W' : World) : Prop := W.heap.size ≤ W'.heap.size ∧ ∀ q, q < n₀ ∨ q = Bs → q < W.heap.size → W'.heap[q]? = W.heap[q]?
theorem KpB.trans {n₀ Bs : Nat} {A B C : World} (h : KpB n₀ Bs A B) (k : KpB n₀ Bs B C) : KpB n₀ Bs A C := ⟨Nat.le_trans h.1 k.1, fun q hq hl => (k.2 q hq (Nat.lt_of_lt_of_le hl h.1)).trans (h.2 q hq hl)⟩
theorem cell_heap {w W : World} {a : Addr} (h : W.heap[a.block]? = w.heap[a.block]?) : W.cell? a = w.cell? a := by simp [World.cell?, h]
theorem opsAt_keep {w W : World} {n₀ Bs : Nat} {A : Option Addr} {fA : Nat → Option Addr} {fc : Nat → Nat} {ops : List S70} (h : OpsAt w n₀ A fA fc ops) (hk : KpB n₀ Bs w W) : OpsAt W n₀ A fA fc ops := by
 intro x hx
 obtain ⟨ad, e, hb, h0, h1, h2, h3⟩ := h x hx
 have hq := hk.2 _ (.inl hb) (World.block_lt_of_cell? w _ h0)
 exact ⟨ad, e, hb, (cell_heap hq).trans h0, (cell_heap (a := ⟨_, _, none⟩) hq).trans h1, (cell_heap (a := ⟨_, _, none⟩) hq).trans h2, (cell_heap (a := ⟨_, _, none⟩) hq).trans h3⟩
theorem back_in (F : Fence) (n : Nat) (h66 : F.fn 66) (hro : F.round = none) (hn : 1 ≤ n) (l Bs n₀ : Nat) (A : Option Addr) (c : Nat) (fA : Nat → Option Addr) (fc : Nat → Nat) (ops : List S70) (hlen : ops.length ≤ 9223372036854775807) (J Jx : List Nat → World → Prop)
 (W : World) (hO : OpsAt W n₀ A fA fc ops) (hc : W.cell? ⟨Bs, 0, none⟩ = some (.slice A ops.length c))
 (hY : ∀ (pre : List Nat) (x : Nat) (W1 : World), x < ops.length → J pre W1 → pre.length < ops.length → YieldAt F (n - 1) Try.prog l #[.int .i64 (x : Int), opV fA fc ops x] W1 fun e W' =>
  (e = .returned (.bool true) ∧ J (pre ++ [x]) W' ∧ KpB n₀ Bs W1 W') ∨ (e = .returned (.bool false) ∧ Jx (pre ++ [x]) W'))
 (h0 : J [] W) :
 CallsIn F n Try.prog 66 #[.func (.yield l) #[] #[], .pointer (some ⟨Bs, 0, none⟩)] W fun e W' => (∃ v, e = .returned v) ∧
  ((∃ ys, ys = (List.range ops.length).reverse ∧ J ys W') ∨ (∃ pre, (∃ q, pre ++ q = (List.range ops.length).reverse) ∧ Jx pre W')) := by
 have hw0 : IntKind.i64.wrap ((ops.length : Int) - 1) = (ops.length : Int) - 1 := IntWalk.i64_in _ (by omega)
 refine callsIn_of_wp Try.func66 rfl h66 ?_ hro
 simp only [Try.ntmps66, List.size_toArray, List.length_cons, List.length_nil, Nat.reduceAdd, Nat.reduceSub, Array.replicate_succ, Array.replicate_zero, List.push_toArray, List.append_toArray, List.nil_append, List.cons_append]
 gi_wp2
 gi_loopw [3] (fun p wr => ∃ (pre : List Nat) (m : Nat), p = .int .i64 ((m : Int) - 1) ∧ m ≤ ops.length ∧ pre.length + m = ops.length ∧ pre ++ (List.range m).reverse = (List.range ops.length).reverse ∧ J pre wr ∧ OpsAt wr n₀ A fA fc ops ∧ wr.cell? ⟨Bs, 0, none⟩ = some (.slice A ops.length c))
  (fun p _ => (intOf p + 1).toNat)
 case atStart =>
  exact ⟨[], ops.length, rfl, Nat.le_refl _, by simp, rfl, h0, hO, hc⟩
 case round =>
  obtain ⟨pre, m, rfl, hm, hpl, hpre, hJ, hOr, hcr⟩ := hrel
  cases m with
  | zero =>
   have hg : decide ((0 : Int) ≤ ((0 : Nat) : Int) - 1) = false := by decide
   gi_wp2
   go_end0
   refine ⟨⟨_, rfl⟩, .inl ⟨_, rfl, ?_⟩⟩
   rw [← hpre]
   simpa using hJ
  | succ m =>
   obtain ⟨fn, tmps, assign, body, hy, hR⟩ := hY pre m wr (by omega) hJ (by omega)
   obtain ⟨ad, rfl, hbl, hx0, hx1, hx2, hx3⟩ := hOr m (by omega)
   have HM := Aside0.mk hm
   have HPL := Aside0.mk hpl
   have HPR := Aside0.mk hpre
   have HOr := Aside0.mk hOr
   have e1 : (((m + 1 : Nat) : Int) - 1) = (m : Int) := by omega
   have hg : decide ((0 : Int) ≤ (m : Int)) = true := decide_eq_true (by omega)
   have hqq : ((m : Int) < (ops.length : Int)) = True := eq_true (by omega)
   have hpp : ((0 : Int) ≤ (m : Int)) = True := eq_true (by omega)
   have hmm : ((m : Int)).toNat = m := rfl
   have hww : IntKind.i64.wrap ((m : Int) - 1) = (m : Int) - 1 := IntWalk.i64_in _ (by omega)
   rw [e1]
   unfold opV at hy
   clear hm hpl hpre hOr hY
   gi_wp2
   refine hR.mono ?_
   rintro e W3 (⟨rfl, hJ3, hk3⟩ | ⟨rfl, hJx3⟩)
   ·
    have hO3 := opsAt_keep HOr.out hk3
    have hc3 : W3.cell? ⟨Bs, 0, none⟩ = some (.slice (some ad) ops.length c) := (cell_heap (a := ⟨Bs, 0, none⟩) (hk3.2 Bs (.inr rfl) (World.block_lt_of_cell? wr _ hcr))).trans hcr
    have HO3 := Aside0.mk hO3
    clear hO3 hx0 hx1 hx2 hx3 hcr
    gi_wp2
    have hpl := HPL.out
    have hm := HM.out
    exact ⟨⟨pre ++ [m], m, rfl, by omega, by simp; omega, by have h := HPR.out; rw [List.range_succ, List.reverse_append] at h; rw [← h]; simp, hJ3, HO3.out, hc3⟩, by simp [intOf]⟩
   ·
    gi_wp2
    refine bodyPost_ret (results_none rfl _ _ _) rfl ?_
    exact ⟨⟨_, rfl⟩, .inr ⟨_, ⟨_, by have h := HPR.out; rw [List.range_succ, List.reverse_append] at h; rw [← h]; simp; rfl⟩, hJx3⟩⟩

-- ==== Rw14
theorem back_stops (F : Fence) (n : Nat) (h66 : F.fn 66) (hro : F.round = none) (hn : 1 ≤ n) (Bs n₀ : Nat) (A : Option Addr) (c : Nat) (fA : Nat → Option Addr) (fc : Nat → Nat) (ops : List S70) (hlen : ops.length ≤ 9223372036854775807) (w : World)
 (hO : OpsAt w n₀ A fA fc ops) (hn₀ : n₀ ≤ w.heap.size) (hc : w.cell? ⟨Bs, 0, none⟩ = some (.slice A ops.length c)) :
 SeqStopsK F n Try.prog 66 #[.pointer (some ⟨Bs, 0, none⟩)] (fun x : Fin ops.length => #[.int .i64 (x.val : Int), opV fA fc ops x.val]) (KpB n₀ Bs) (fun ys => ys.map Fin.val = (List.range ops.length).reverse) (fun pre => ∃ q, pre.map Fin.val ++ q = (List.range ops.length).reverse) ops.length w := by
 intro l J Jx W hW _ _ hY h0
 have hBs : Bs < w.heap.size := World.block_lt_of_cell? w _ hc
 refine (back_in F n h66 hro hn l Bs n₀ A c fA fc ops hlen (fun p W => ∃ pre, pre.map Fin.val = p ∧ J pre W) (fun p W => ∃ pre, pre.map Fin.val = p ∧ Jx pre W) W (opsAt_keep (Bs := Bs) hO ⟨hW.size, fun q hq hl => hW.block q hl⟩) ((cell_heap (a := ⟨Bs, 0, none⟩) (hW.block Bs hBs)).trans hc) ?_ ⟨[], rfl, h0⟩).mono ?_
 ·
  rintro p x W1 hx ⟨pre, rfl, hJ⟩ hlt
  have h := hY pre ⟨x, hx⟩ W1 hJ (by simpa using hlt)
  refine h.mono ?_
  rintro e W' (⟨he, h1, h2⟩ | ⟨he, h1⟩)
  ·
   exact .inl ⟨he, ⟨_, by simp, h1⟩, h2⟩
  ·
   exact .inr ⟨he, ⟨_, by simp, h1⟩⟩
 ·
  rintro e W' ⟨hv, ⟨ys, hys, pre, hp, hJ⟩ | ⟨p, hq, pre, rfl, hJ⟩⟩
  ·
   exact ⟨hv, .inl ⟨pre, hp.trans hys, hJ⟩⟩
  ·
   exact ⟨hv, .inr ⟨pre, hq, hJ⟩⟩
theorem mkback_in (F : Fence) (n : Nat) (h39 : F.fn 39) (hro : F.round = none) (A : Option Addr) (m c : Nat) (w : World) :
 CallsIn F n Try.prog 39 #[.slice A m c] w fun e W' => e = .returned (.func (.func 66) #[] #[.pointer (some ⟨w.heap.size, 0, none⟩)]) ∧ W' = w.alloc (.cells #[.slice A m c] 24) := by
 refine callsIn_of_wp Try.func39 rfl h39 ?_ hro
 simp only [Try.ntmps39, List.size_toArray, List.length_cons, List.length_nil, Nat.reduceAdd, Nat.reduceSub, Array.replicate_succ, Array.replicate_zero, List.push_toArray, List.append_toArray, List.nil_append, List.cons_append]
 gi_wp2
 go_ret
 exact ⟨rfl, rfl⟩
def arOf (ops : List S70) (x : Nat) : Int := (rd_T70 ops x).f1.f1
def chkB (ops : List S70) (bs : Nat → Bool) : List Nat → Int → Option Int
 | [], n => some n
 | x :: u, n => if bs x = true then (if arOf ops x > n then none else chkB ops bs u (wrap64 (n + wrap64 (1 - arOf ops x)))) else none
theorem chkB_append (ops : List S70) (bs : Nat → Bool) : ∀ (a b : List Nat) (n : Int), chkB ops bs (a ++ b) n = (chkB ops bs a n).bind fun m => chkB ops bs b m
 | [], b, n => rfl
 | x :: u, b, n => by
  simp only [List.cons_append, chkB]
  split
  ·
   split
   ·
    rfl
   ·
    exact chkB_append ops bs u b _
  ·
   rfl
def M3 (w : World) (stv : Array Value) (W : World) (nv e : Int) : Prop :=
 W.heap[w.heap.size]? = some (.cells stv 28 (0, 0)) ∧ W.heap[w.heap.size + 1]? = some (.cells #[.int .i64 e] 30 (0, 0)) ∧ W.heap[w.heap.size + 1 + 1]? = some (.cells #[.int .i64 nv] 3 (0, 0)) ∧ Below w.heap.size w W
theorem grown_same {W W' : World} {row : Option Nat} {B q : Nat} {o : Obj} (hg : W.grownBy W' row) (hr : ∀ r, row = some r → B ≤ r ∧ ∃ o : Obj, W.heap[r]? = some o ∧ o.isCells = false) (hq : q < B) (h : W.heap[q]? = some o) : W'.heap[q]? = some o :=
 (hg.block q (blk_lt h) (fun e => by have := (hr _ e.symm).1; omega)).trans h
theorem M3.grown {w W W' : World} {stv : Array Value} {nv e : Int} {row : Option Nat} {B : Nat} (h : M3 w stv W nv e) (hB : w.heap.size + 1 + 1 < B) (hg : W.grownBy W' row) (hr : ∀ r, row = some r → B ≤ r ∧ ∃ o : Obj, W.heap[r]? = some o ∧ o.isCells = false) : M3 w stv W' nv e :=
 ⟨grown_same hg hr (by omega) h.1, grown_same hg hr (by omega) h.2.1, grown_same hg hr (by omega) h.2.2.1, h.2.2.2.grown hg h.2.2.2.size (fun k e => by have := (hr k e).1; omega)⟩
theorem M3.below {w W W' : World} {stv : Array Value} {nv e : Int} (h : M3 w stv W nv e) (hb : Below W.heap.size W W') : M3 w stv W' nv e :=
 ⟨blk_below h.1 hb, blk_below h.2.1 hb, blk_below h.2.2.1 hb, below_step h.2.2.2 hb⟩
theorem M3.drewN {w W : World} {stv : Array Value} {nv e : Int} (h : M3 w stv W nv e) (n : Nat) : M3 w stv (W.drewN n) nv e := ⟨h.1, h.2.1, h.2.2.1, pw_below_drewN h.2.2.2 n⟩
theorem M3.setN {w W : World} {stv : Array Value} {nv e : Int} (h : M3 w stv W nv e) (n' : Int) : M3 w stv (W.setCell ⟨w.heap.size + 1 + 1, 0, none⟩ (.int .i64 n')) n' e :=
 ⟨(Below.heap_setCell W ⟨w.heap.size + 1 + 1, 0, none⟩ _ _ (by simp; omega)).trans h.1, (Below.heap_setCell W ⟨w.heap.size + 1 + 1, 0, none⟩ _ _ (by simp)).trans h.2.1, by simpa using blk_set h.2.2.1 0 (.int .i64 n'), h.2.2.2.setCell (p := ⟨w.heap.size + 1 + 1, 0, none⟩) (by simp; omega) _⟩
theorem M3.setE {w W : World} {stv : Array Value} {nv e : Int} (h : M3 w stv W nv e) (e' : Int) : M3 w stv (W.setCell ⟨w.heap.size + 1, 0, none⟩ (.int .i64 e')) nv e' :=
 ⟨(Below.heap_setCell W ⟨w.heap.size + 1, 0, none⟩ _ _ (by simp)).trans h.1, by simpa using blk_set h.2.1 0 (.int .i64 e'), (Below.heap_setCell W ⟨w.heap.size + 1, 0, none⟩ _ _ (by simp)).trans h.2.2.1, h.2.2.2.setCell (p := ⟨w.heap.size + 1, 0, none⟩) (by simp) _⟩
def okH : Option ByteArray → ByteArray → Bool
 | none, _ => true
 | some q, h => Op.bytesLess q.toList h.toList
def hdsF (k : Nat) : Option ByteArray → List ByteArray → Option Int
 | _, [] => some 0
 | p, h :: u => (name_Kind.f k h).bind fun c => if c = 1 then (if okH p h = true then hdsF k (some h) u else some 3) else some 3
def postF (k : Nat) (vals : List (List S54)) (st : Int) (hd : List ByteArray) : Option Int → Option Int
 | none => some 3
 | some n => if n = 1 then (if st < 0 then some 3 else (idxF k vals 0).bind fun i => if 0 ≤ i then some 3 else hdsF k none hd) else some 3
theorem M3.ends {w W : World} {stv : Array Value} {nv e : Int} {D : Nat} (h : M3 w stv W nv e) (hK : W.heap[D]? = some (.deferred (some []))) (hD : w.heap.size + 1 + 1 < D) : M3 w stv (W.putObj D (.deferred none)) nv e :=
 h.grown hD (grownBy_putObj' _ D _) (fun r e => by cases e; exact ⟨Nat.le_refl _, _, hK, rfl⟩)
theorem kpB_below {n₀ Bs : Nat} {W W' : World} (h : Below W.heap.size W W') : KpB n₀ Bs W W' := ⟨h.size, fun q _ hl => h.block q hl⟩
theorem keepsFrom_below {B : Nat} {W W' : World} (h : Below W.heap.size W W') : KeepsFrom B W W' := ⟨h.size, fun k o _ hk _ => blk_below hk h⟩
theorem kpB_set {n₀ Bs b : Nat} {W : World} {v : Value} (h1 : n₀ ≤ b) (h2 : b ≠ Bs) : KpB n₀ Bs W (W.setCell ⟨b, 0, none⟩ v) := ⟨by simp [World.setCell], fun q hq _ => Below.heap_setCell W ⟨b, 0, none⟩ _ _ (by rcases hq with hq | rfl <;> simp <;> omega)⟩
theorem run_geS_f {a b : ByteArray} (h : Op.bytesLess a.toList b.toList = true) (W : World) : Sem.run Try.prog (binOp BinOp.geq 9 (.string a) (.string b)) W = Result.ok (Value.bool false) W := by
 simp [go_sem, binOp, Op.stringOp, h]
theorem run_geS_t {a b : ByteArray} (h : Op.bytesLess a.toList b.toList = false) (W : World) : Sem.run Try.prog (binOp BinOp.geq 9 (.string a) (.string b)) W = Result.ok (Value.bool true) W := by
 simp [go_sem, binOp, Op.stringOp, h]
theorem check_in {k co cv ch : Nat} {w : World} {Ao Av Ah : Option Addr} {ops : List S70} {vals : List (List S54)} {st : Int} {hd : List ByteArray} {bs : Nat → Bool}
 (hO : Kd.C k70 w Ao ops.length ops) (hV : Kd.C (Kd.slice 54 k54) w Av vals.length vals) (hH : Kd.C Kd.string w Ah hd.length hd)
 {r : Int} (hr : postF k vals st hd (chkB ops bs (List.range ops.length).reverse vals.length) = some r) (hm : ∀ x : Nat, x < ops.length → rewrite_may.f k (rd_T70 ops x).f0 (rd_T70 ops x).f1.f0 (rd_T70 ops x).f1.f1 (rd_T70 ops x).f2 = some (bs x)) :
 Calls Try.prog 16 #[.agg #[.slice Ao ops.length co, .slice Av vals.length cv, .int .i64 st, .slice Ah hd.length ch]] w fun e W' => e = .returned (.int .i64 r) ∧ Below w.heap.size w W' := by
 refine (callsIn_wide (n := 6)).1 ?_
 have h66 : Fence.wide.fn 66 := trivial
 have h39 : Fence.wide.fn 39 := trivial
 have h40 : Fence.wide.fn 40 := trivial
 have h41 : Fence.wide.fn 41 := trivial
 have h43 : Fence.wide.fn 43 := trivial
 obtain ⟨fA, fc, hOA, hOC⟩ := opsAt_of hO
 have B1 := fun (W : World) => mkback_in Fence.wide (6 - 1) h39 rfl Ao ops.length co W
 refine callsIn_of_wp_marks Try.func16 rfl trivial ?_ rfl
 simp only [Try.ntmps16, List.size_toArray, List.length_cons, List.length_nil, Nat.reduceAdd, Nat.reduceSub, Array.replicate_succ, Array.replicate_zero, List.push_toArray, List.append_toArray, List.nil_append, List.cons_append]
 gi_wp2_with (gi_at_call 39; refine (B1 _).mono ?_; rintro e w' ⟨rfl, rfl⟩)
 obtain ⟨stv, hstv⟩ : ∃ stv : Array Value, stv = #[.slice Ao ops.length co, .slice Av vals.length cv, .int .i64 st, .slice Ah hd.length ch] := ⟨_, rfl⟩
 have hM0 : M3 w stv ((((w.alloc (.cells #[.slice Ao ops.length co, .slice Av vals.length cv, .int .i64 st, .slice Ah hd.length ch] 28)).alloc (.cells #[.int .i64 0] 30)).alloc (.cells #[.int .i64 vals.length] 3)).alloc (.cells #[.slice Ao ops.length co] 24)) vals.length 0 := by
  refine M3.below ?_ (below_alloc (Below.refl _ _) _)
  rw [hstv]
  exact ⟨((below_alloc (below_alloc (Below.refl _ _) _) _).block _ (by simp)).trans (heap_alloc_new w _), ((below_alloc (Below.refl _ _) _).block _ (by simp)).trans (al2_1 w _ _), lit_new _ _ _ _, below_alloc (below_alloc (below_alloc (Below.refl _ _) _) _) _⟩
 have hbs : ((((w.alloc (.cells #[.slice Ao ops.length co, .slice Av vals.length cv, .int .i64 st, .slice Ah hd.length ch] 28)).alloc (.cells #[.int .i64 0] 30)).alloc (.cells #[.int .i64 vals.length] 3)).alloc (.cells #[.slice Ao ops.length co] 24)).cell? ⟨w.heap.size + 1 + 1 + 1, 0, none⟩ = some (.slice Ao ops.length co) := by
  have h := lit_new (w.alloc (.cells #[.slice Ao ops.length co, .slice Av vals.length cv, .int .i64 st, .slice Ah hd.length ch] 28)) (.cells #[.int .i64 0] 30) (.cells #[.int .i64 vals.length] 3) (.cells #[.slice Ao ops.length co] 24)
  rw [show (w.alloc (.cells #[.slice Ao ops.length co, .slice Av vals.length cv, .int .i64 st, .slice Ah hd.length ch] 28)).heap.size = w.heap.size + 1 by simp] at h
  exact (blk_cell h 0).trans rfl
 have hsz : ((((w.alloc (.cells #[.slice Ao ops.length co, .slice Av vals.length cv, .int .i64 st, .slice Ah hd.length ch] 28)).alloc (.cells #[.int .i64 0] 30)).alloc (.cells #[.int .i64 vals.length] 3)).alloc (.cells #[.slice Ao ops.length co] 24)).heap.size = w.heap.size + 4 := by simp
 generalize ((((w.alloc (.cells #[.slice Ao ops.length co, .slice Av vals.length cv, .int .i64 st, .slice Ah hd.length ch] 28)).alloc (.cells #[.int .i64 0] 30)).alloc (.cells #[.int .i64 vals.length] 3)).alloc (.cells #[.slice Ao ops.length co] 24)) = W0 at hM0 hbs hsz ⊢
 have hOA0 : OpsAt W0 w.heap.size Ao fA fc ops := opsAt_keep (Bs := w.heap.size) hOA ⟨by omega, fun q _ hl => hM0.2.2.2.block q hl⟩
 refine wpIn_rangeFunc_ownH rfl (by omega) (gf := 66) (lb := #[.pointer (some ⟨w.heap.size + 1 + 1 + 1, 0, none⟩)]) rfl h66 (enters_of Try.func66 (by kernel_rfl) rfl)
  (back_stops Fence.wide (6 - 1) h66 rfl (by omega) (w.heap.size + 1 + 1 + 1) w.heap.size Ao co fA fc ops hO.2.1 W0 hOA0 (by omega) hbs) KpB.trans ?kb (Below.refl _ _) (fun _ => rfl)
  (fun pre W => ∃ nv, chkB ops bs (pre.map Fin.val) vals.length = some nv ∧ M3 w stv W nv 0)
  (fun c pre W => c = .ret ∧ chkB ops bs (pre.map Fin.val) vals.length = none ∧ ∃ nv, M3 w stv W nv 3)
  (fun pre W W' row ⟨nv, h1, h2⟩ hg hr => ⟨nv, h1, h2.grown (by omega) hg hr⟩)
  (fun c pre W W' row ⟨h0, h1, nv, h2⟩ hg hr => ⟨h0, h1, nv, h2.grown (by omega) hg hr⟩)
  ⟨_, rfl, hM0⟩
  (fun x a' W => ∃ Bx, w.heap.size + 1 + 1 < Bx ∧ W.heap[Bx]? = some (.cells #[.int .i64 (rd_T70 ops x.val).f0, .string (rd_T70 ops x.val).f1.f0, .int .i64 (rd_T70 ops x.val).f1.f1, .slice (fA x.val) (rd_T70 ops x.val).f2.length (fc x.val)] 70 (0, 0)) ∧ a' = { tmps := #[.agg #[.slice Ao ops.length co, .slice Av vals.length cv, .int .i64 st, .slice Ah hd.length ch], .pointer (some ⟨w.heap.size, 0, none⟩), .pointer (some ⟨w.heap.size + 1, 0, none⟩), .pointer (some ⟨w.heap.size + 1 + 1, 0, none⟩), undef, .pointer (some ⟨Bx, 0, none⟩), undef, undef, .pointer (some ⟨w.heap.size, 1, none⟩), .slice Av vals.length cv, .int .i64 vals.length, .pointer (some ⟨w.heap.size, 0, none⟩), .slice Ao ops.length co, .func (.func 66) #[] #[.pointer (some ⟨w.heap.size + 1 + 1 + 1, 0, none⟩)], .int .i64 x.val, opV fA fc ops x.val, undef, undef, undef, undef, undef, undef, undef, undef, undef, undef, undef, undef, undef, undef, undef, undef, undef, undef, undef, undef, undef, undef, undef, undef, undef, undef, undef, undef, undef, undef, undef, undef, undef, undef, undef, undef, undef, undef, undef, undef, undef, undef, undef, undef, undef, undef, undef, undef, undef, undef, undef, undef, undef, undef], defers := [] })
  ?ax ?assign ?body ?done ?stop
 case kb =>
  intro W l o o' hl _ _ _
  have hg := grownBy_putObj' W l o'
  exact ⟨hg.size, fun q hq hlt => hg.block q hlt (fun e => by have := Option.some.inj e; omega)⟩
 case ax =>
  rintro x a' _ X Y row ⟨Bx, e1, e2, e3⟩ hg hr
  refine ⟨Bx, e1, (hg.block Bx (blk_lt e2) (fun e => ?_)).trans e2, e3⟩
  obtain ⟨_, o, ho, hn⟩ := hr Bx e.symm
  rw [e2] at ho
  obtain rfl := Option.some.inj ho
  simp [Obj.isCells] at hn
 case assign =>
  rintro l pre x W K ⟨nv, h1, h2⟩ hK
  unfold opV
  gi_wp2
  exact hK _ _ ((KeepsOthers.alloc _ _).from _) (kpB_below (below_alloc (Below.refl _ _) _)) ⟨nv, h1, h2.below (below_alloc (Below.refl _ _) _)⟩ ⟨W.heap.size, blk_lt h2.2.2.1, heap_alloc_new _ _, rfl⟩
 case body =>
  rintro l pre x a' W hl ⟨r, hr⟩ ⟨nv, h1, h2⟩ ⟨Bx, hBx, bX, rfl⟩ hlt
  unfold opV
  have hx := x.isLt
  have HM := Aside0.mk (hm x.val hx)
  have HOC := Aside0.mk (hOC x.val hx)
  have HM3 := Aside0.mk h2
  have M1 := fun (W' : World) (hW' : Below W.heap.size W W') => rewrite_may.calls k (rd_T70 ops x.val).f0 (rd_T70 ops x.val).f1.f0 (rd_T70 ops x.val).f1.f1 (fA x.val) (fc x.val) (rd_T70 ops x.val).f2 (bs x.val) W' (Kd.C_below HOC.out.2 (below_step HM3.out.2.2.2 hW')) HOC.out.1 HM.out
  obtain ⟨q0, q1, q2, q3⟩ := zc4 bX
  have HBX := Aside0.mk bX
  have HC := Aside0.mk h1
  have HSZ := Aside0.mk (And.intro hsz hBx)
  have hstep : ∀ r, (if bs x.val = true then (if arOf ops x.val > nv then none else some (wrap64 (nv + wrap64 (1 - arOf ops x.val)))) else none) = r → chkB ops bs ((pre ++ [x]).map Fin.val) vals.length = r := by
   rintro r rfl
   rw [List.map_append, chkB_append, HC.out]
   rfl
  have HST := Aside0.mk hstep
  obtain ⟨b, hb⟩ : ∃ b, b = bs x.val := ⟨_, rfl⟩
  rw [← hb] at M1 hstep
  have HBB := Aside0.mk hb
  clear hb hstep hm hOC h1 h2 bX hO hV hH hOA hOA0 hM0 hbs hsz B1 hBx
  cases b with
  | false =>
   gi_wp2_with (gi_at_call 40; refine (CallsIn.inRound l (callsIn_wide.2 (M1 _ (Below.refl _ _)))).mono ?_; rintro e w' ⟨rfl, hb⟩; have HB' := Aside0.mk hb; have HM3' := Aside0.mk (HM3.out.below hb); have f1 := blk_frozen HM3'.out.2.1 0; have c1 := (blk_cell HM3'.out.2.1 0).trans rfl; clear hb)
   have h := HST.out _ (if_neg (by rw [← HBB.out]; decide))
   exact ⟨(keepsFrom_below HB'.out).trans ((KeepsOthers.setCell _ _ _).from _), rfl, h, nv, HM3'.out.setE 3⟩
  | true =>
   by_cases hn : arOf ops x.val > nv
   ·
    have hd1 : decide ((rd_T70 ops x.val).f1.f1 > nv) = true := decide_eq_true hn
    have hd2 : decide (nv < (rd_T70 ops x.val).f1.f1) = true := decide_eq_true hn
    have HN := Aside0.mk hn
    clear hn
    gi_wp2_with (gi_at_call 40; refine (CallsIn.inRound l (callsIn_wide.2 (M1 _ (Below.refl _ _)))).mono ?_; rintro e w' ⟨rfl, hb⟩; have HB' := Aside0.mk hb; have HM3' := Aside0.mk (HM3.out.below hb); have f1 := blk_frozen HM3'.out.2.1 0; have c1 := (blk_cell HM3'.out.2.1 0).trans rfl; have c2 := (blk_cell HM3'.out.2.2.1 0).trans rfl; have p2 := (blk_cell (blk_below HBX.out hb) 2).trans rfl; clear hb)
    have h := HST.out _ ((if_pos HBB.out.symm).trans (if_pos HN.out))
    exact ⟨(keepsFrom_below HB'.out).trans ((KeepsOthers.setCell _ _ _).from _), rfl, h, nv, HM3'.out.setE 3⟩
   ·
    have hd1 : decide ((rd_T70 ops x.val).f1.f1 > nv) = false := decide_eq_false hn
    have hd2 : decide (nv < (rd_T70 ops x.val).f1.f1) = false := decide_eq_false hn
    have HN := Aside0.mk hn
    clear hn
    gi_wp2_with (gi_at_call 40; refine (CallsIn.inRound l (callsIn_wide.2 (M1 _ (Below.refl _ _)))).mono ?_; rintro e w' ⟨rfl, hb⟩; have HB' := Aside0.mk hb; have HM3' := Aside0.mk (HM3.out.below hb); have f1 := blk_frozen HM3'.out.2.2.1 0; have c2 := (blk_cell HM3'.out.2.2.1 0).trans rfl; have p2 := (blk_cell (blk_below HBX.out hb) 2).trans rfl; clear hb)
    have h := HST.out _ ((if_pos HBB.out.symm).trans (if_neg (Int.not_lt.mpr HN.out)))
    exact ⟨(keepsFrom_below HB'.out).trans ((KeepsOthers.setCell _ _ _).from _), (kpB_below HB'.out).trans (kpB_set (by omega) (by omega)), _, h, HM3'.out.setN _⟩
 case done =>
  rintro D ys W hD hys ⟨nv, hn, hM⟩ hK
  rw [hys] at hn
  rw [hn] at hr
  have HM := Aside0.mk hM
  have c2 := (blk_cell hM.2.2.1 0).trans rfl
  clear hn hM hm hOC hO hOA hOA0 hM0 hbs B1 hys
  by_cases hnv : nv = 1
  ·
   subst hnv
   subst hstv
   have s2 : W.cell? ⟨w.heap.size, 2, none⟩ = some (.int .i64 st) := (blk_cell HM.out.1 2).trans rfl
   have s1 : W.cell? ⟨w.heap.size, 1, none⟩ = some (.slice Av vals.length cv) := (blk_cell HM.out.1 1).trans rfl
   have f1 := blk_frozen HM.out.2.1 0
   have c1 := (blk_cell HM.out.2.1 0).trans rfl
   have hb : ((1 : Int) != 1) = false := rfl
   by_cases hst : st < 0
   ·
    have hs := decide_eq_true hst
    rw [show postF k vals st hd (some 1) = some 3 by simp [postF, hst]] at hr
    obtain rfl := Option.some.inj hr
    have hK_ := hK
    clear hr
    gi_wp2
    have hE := (HM.out.setE 3).ends ((Below.heap_setCell W ⟨w.heap.size + 1, 0, none⟩ (.int .i64 3) D (by simp; omega)).trans hK_) (by omega)
    have hc5 := (blk_cell hE.2.1 0).trans rfl
    refine ⟨by simp, .inl ⟨_, _, rfl, run_takeDeferred ((Below.heap_setCell W ⟨w.heap.size + 1, 0, none⟩ (.int .i64 3) D (by simp; omega)).trans hK_), ?_⟩⟩
    refine ⟨.int .i64 3, ?_, rfl, hE.2.2.2⟩
    simp [results, Try.f16, go_sem, hc5]
   ·
    have hs := decide_eq_false hst
    rw [show postF k vals st hd (some 1) = (idxF k vals 0).bind fun i => if 0 ≤ i then some 3 else hdsF k none hd by simp [postF, hst]] at hr
    obtain ⟨i, hi, hr⟩ := Option.bind_eq_some_iff.mp hr
    have C1 := fun (W' : World) (hW' : Below W.heap.size W W') => callsIn_wide (n := 6 - 1).2 (cont_calls (cv := cv) (Kd.C_below hV (below_step HM.out.2.2.2 hW')) hi)
    clear hi hV
    by_cases hi : 0 ≤ i
    ·
     rw [if_pos hi] at hr
     obtain rfl := Option.some.inj hr
     have hi0 := decide_eq_true hi
     clear hr
     gi_wp2_with (gi_at_call 41; refine (C1 _ (Below.refl _ _)).mono ?_; rintro e w2 ⟨rfl, hb2⟩; have hM2 := HM.out.below hb2; have f12 := blk_frozen hM2.2.1 0; have c12 := (blk_cell hM2.2.1 0).trans rfl; have hK_ := blk_below hK hb2)
     have hE := (hM2.setE 3).ends ((Below.heap_setCell w2 ⟨w.heap.size + 1, 0, none⟩ (.int .i64 3) D (by simp; omega)).trans hK_) (by omega)
     have hc5 := (blk_cell hE.2.1 0).trans rfl
     refine ⟨by simp, .inl ⟨_, _, rfl, run_takeDeferred ((Below.heap_setCell w2 ⟨w.heap.size + 1, 0, none⟩ (.int .i64 3) D (by simp; omega)).trans hK_), ?_⟩⟩
     refine ⟨.int .i64 3, ?_, rfl, hE.2.2.2⟩
     simp [results, Try.f16, go_sem, hc5]
    ·
     rw [if_neg hi] at hr
     have hi0 := decide_eq_false hi
     gi_wp2_with (gi_at_call 41; refine (C1 _ (Below.refl _ _)).mono ?_; rintro e w2 ⟨rfl, hb2⟩; have hM2 := HM.out.below hb2; have f12 := blk_frozen hM2.2.1 0; have c12 := (blk_cell hM2.2.1 0).trans rfl; have hK_ := blk_below hK hb2; have s3 : w2.cell? ⟨w.heap.size, 3, none⟩ = some (.slice Ah hd.length ch) := (blk_cell hM2.1 3).trans rfl)
     have HM2 := Aside0.mk hM2
     have HK2 := Aside0.mk hK_
     have HR := Aside0.mk hr
     have HLM := Aside0.mk (show (hd.length : Int) ≤ 9223372036854775807 by have := hH.2.1; omega)
     clear hM2 hK_ hr f12 c12 s3 hb2 C1 f1 c1 s1 s2 HM hK c2
     gi_loopw [47] (fun v47 wr => ∃ x : Nat, v47 = .int .i64 (x : Int) ∧ Aside0 (x ≤ hd.length) ∧ Aside0 (hdsF k (if x = 0 then none else some (rdOf ByteArray.empty hd ((x : Int) - 1))) (hd.drop x) = some r) ∧ Aside0 (M3 w #[.slice Ao ops.length co, .slice Av vals.length cv, .int .i64 st, .slice Ah hd.length ch] wr 1 0) ∧ Aside0 (wr.heap[D]? = some (.deferred (some []))))
      (fun v47 _ => hd.length - (intOf v47).toNat)
     case atStart => exact ⟨0, rfl, ⟨Nat.zero_le _⟩, HR, HM2, HK2⟩
     case round =>
      clear HM2 HK2 HR
      obtain ⟨x, rfl, HX, HF, HM2, HK2⟩ := hrel
      have f12 := blk_frozen HM2.out.2.1 0
      have c12 := (blk_cell HM2.out.2.1 0).trans rfl
      by_cases hx : x < hd.length
      case neg =>
       have hx0 : decide ((x : Int) < (hd.length : Int)) = false := decide_eq_false (by omega)
       have hf := HF.out
       rw [List.drop_eq_nil_of_le (by omega), hdsF] at hf
       obtain rfl := Option.some.inj hf
       have hK_ := HK2.out
       clear hf HF
       gi_wp2
       have hE := (HM2.out.setE 0).ends ((Below.heap_setCell wr ⟨w.heap.size + 1, 0, none⟩ (.int .i64 0) D (by simp; omega)).trans hK_) (by omega)
       have hc5 := (blk_cell hE.2.1 0).trans rfl
       refine ⟨by simp, .inl ⟨_, _, rfl, run_takeDeferred ((Below.heap_setCell wr ⟨w.heap.size + 1, 0, none⟩ (.int .i64 0) D (by simp; omega)).trans hK_), ?_⟩⟩
       refine ⟨.int .i64 0, ?_, rfl, hE.2.2.2⟩
       simp [results, Try.f16, go_sem, hc5]
      have hb0 : decide ((x : Int) < (hd.length : Int)) = true := decide_eq_true (by omega)
      have hpp : ((0 : Int) ≤ (x : Int)) = True := eq_true (by omega)
      have hqq : ((x : Int) < (hd.length : Int)) = True := eq_true (by omega)
      have hC := Kd.C_below hH HM2.out.2.2.2
      obtain ⟨ad, rfl, hx0⟩ := Kd.at_string hC (x : Int) (by omega) (by omega)
      rw [show ((x : Int)).toNat = x from rfl] at hx0
      have hdr : hd.drop x = rdOf ByteArray.empty hd (x : Int) :: hd.drop (x + 1) := by
       rw [List.drop_eq_getElem_cons hx]
       congr 1
       simp [rdOf, List.getD_eq_getElem?_getD, hx]
      have hf := HF.out
      rw [hdr, hdsF] at hf
      obtain ⟨c, hc, hf⟩ := Option.bind_eq_some_iff.mp hf
      have K1 := fun (W' : World) => callsIn_wide (n := 6 - 1).2 (name_Kind.calls k (rdOf ByteArray.empty hd (x : Int)) c W' hc)
      have HXX := Aside0.mk hx
      have s3 : wr.cell? ⟨w.heap.size, 3, none⟩ = some (.slice (some ad) hd.length ch) := (blk_cell HM2.out.1 3).trans rfl
      by_cases hc1 : c = 1
      case neg =>
       rw [if_neg hc1] at hf
       obtain rfl := Option.some.inj hf
       have hcb : (c != 1) = true := bne_iff_ne.mpr hc1
       have hK_ := HK2.out
       clear hf HF hc hdr hx hC
       gi_wp2_with (gi_at_call 43; refine (K1 _).mono ?_; rintro e w3 ⟨rfl, ⟨nd, rfl⟩⟩)
       have hE := ((HM2.out.drewN nd).setE 3).ends ((Below.heap_setCell (wr.drewN nd) ⟨w.heap.size + 1, 0, none⟩ (.int .i64 3) D (by simp; omega)).trans hK_) (by omega)
       have hc5 := (blk_cell hE.2.1 0).trans rfl
       refine ⟨by simp, .inl ⟨_, _, rfl, run_takeDeferred ((Below.heap_setCell (wr.drewN nd) ⟨w.heap.size + 1, 0, none⟩ (.int .i64 3) D (by simp; omega)).trans hK_), ?_⟩⟩
       refine ⟨.int .i64 3, ?_, rfl, hE.2.2.2⟩
       simp [results, Try.f16, go_sem, hc5]
      subst hc1
      rw [if_pos rfl] at hf
      have hcb : ((1 : Int) != 1) = false := rfl
      by_cases h0 : x = 0
      ·
       rw [if_pos h0] at hf
       have HF2 := Aside0.mk (show hdsF k (some (rdOf ByteArray.empty hd (x : Int))) (hd.drop (x + 1)) = some r from hf)
       have hg2 : decide ((0 : Int) < (x : Int)) = false := decide_eq_false (by omega)
       have hg3 : decide ((x : Int) > 0) = false := decide_eq_false (by omega)
       have hg4 : (0 < x) = False := eq_false (by omega)
       have hww : IntKind.i64.wrap ((x : Int) + 1) = ((x + 1 : Nat) : Int) := by rw [show ((x : Int) + 1) = ((x + 1 : Nat) : Int) by omega]; exact IntWalk.i64_in _ (by have := HLM.out; omega)
       clear hf HF hc hdr hx hC h0
       gi_wp2_with (gi_at_call 43; refine (K1 _).mono ?_; rintro e w3 ⟨rfl, ⟨nd, rfl⟩⟩)
       exact ⟨⟨x + 1, by simp, ⟨by have := HXX.out; omega⟩, ⟨by rw [if_neg (by omega), show (((x + 1 : Nat) : Int) - 1) = (x : Int) by omega]; exact HF2.out⟩, ⟨HM2.out.drewN nd⟩, ⟨HK2.out⟩⟩, by have := HXX.out; simp [intOf]; omega⟩
      ·
       rw [if_neg h0] at hf
       obtain ⟨ad', he', hx1⟩ := Kd.at_string hC ((x : Int) - 1) (by omega) (by omega)
       injection he' with he'
       subst he'
       have hw1 : IntKind.i64.wrap ((x : Int) - 1) = (x : Int) - 1 := IntWalk.i64_in _ (by have := HLM.out; omega)
       have hp2 : ((0 : Int) ≤ (x : Int) - 1) = True := eq_true (by omega)
       have hq2 : ((x : Int) - 1 < (hd.length : Int)) = True := eq_true (by omega)
       have hg2 : decide ((0 : Int) < (x : Int)) = true := decide_eq_true (by omega)
       have hg3 : decide ((x : Int) > 0) = true := decide_eq_true (by omega)
       have hg4 : (0 < x) = True := eq_true (by omega)
       have hww : IntKind.i64.wrap ((x : Int) + 1) = ((x + 1 : Nat) : Int) := by rw [show ((x : Int) + 1) = ((x + 1 : Nat) : Int) by omega]; exact IntWalk.i64_in _ (by have := HLM.out; omega)
       have hn1 : ((x : Int) - 1).toNat = x - 1 := by omega
       have hx2 := hx1
       rw [hn1] at hx2
       have hdec : okH (some (rdOf ByteArray.empty hd ((x : Int) - 1))) (rdOf ByteArray.empty hd (x : Int)) = Op.bytesLess (rdOf ByteArray.empty hd ((x : Int) - 1)).toList (rdOf ByteArray.empty hd (x : Int)).toList := rfl
       rw [hdec] at hf
       by_cases hlt : Op.bytesLess (rdOf ByteArray.empty hd ((x : Int) - 1)).toList (rdOf ByteArray.empty hd (x : Int)).toList = true
       ·
        rw [if_pos hlt] at hf
        have HF2 := Aside0.mk hf
        have hd1 : ∀ W : World, Sem.run Try.prog (binOp BinOp.geq 9 (.string (rdOf ByteArray.empty hd ((x : Int) - 1))) (.string (rdOf ByteArray.empty hd (x : Int)))) W = Result.ok (Value.bool false) W := run_geS_f hlt
        clear hlt
        clear hf HF hc hdr hx hC hdec
        gi_wp2_with (gi_at_call 43; refine (K1 _).mono ?_; rintro e w3 ⟨rfl, ⟨nd, rfl⟩⟩)
        exact ⟨⟨x + 1, by simp, ⟨by have := HXX.out; omega⟩, ⟨by rw [if_neg (by omega), show (((x + 1 : Nat) : Int) - 1) = (x : Int) by omega]; exact HF2.out⟩, ⟨HM2.out.drewN nd⟩, ⟨HK2.out⟩⟩, by have := HXX.out; simp [intOf]; omega⟩
       ·
        rw [if_neg hlt] at hf
        obtain rfl := Option.some.inj hf
        have hd1 : ∀ W : World, Sem.run Try.prog (binOp BinOp.geq 9 (.string (rdOf ByteArray.empty hd ((x : Int) - 1))) (.string (rdOf ByteArray.empty hd (x : Int)))) W = Result.ok (Value.bool true) W := run_geS_t (Bool.eq_false_iff.mpr hlt)
        clear hlt
        have hK_ := HK2.out
        clear hf HF hc hdr hx hC hdec
        gi_wp2_with (gi_at_call 43; refine (K1 _).mono ?_; rintro e w3 ⟨rfl, ⟨nd, rfl⟩⟩)
        have hE := ((HM2.out.drewN nd).setE 3).ends ((Below.heap_setCell (wr.drewN nd) ⟨w.heap.size + 1, 0, none⟩ (.int .i64 3) D (by simp; omega)).trans hK_) (by omega)
        have hc5 := (blk_cell hE.2.1 0).trans rfl
        refine ⟨by simp, .inl ⟨_, _, rfl, run_takeDeferred ((Below.heap_setCell (wr.drewN nd) ⟨w.heap.size + 1, 0, none⟩ (.int .i64 3) D (by simp; omega)).trans hK_), ?_⟩⟩
        refine ⟨.int .i64 3, ?_, rfl, hE.2.2.2⟩
        simp [results, Try.f16, go_sem, hc5]
  ·
   have hb : (nv != 1) = true := bne_iff_ne.mpr hnv
   rw [show postF k vals st hd (some nv) = some 3 from if_neg hnv] at hr
   obtain rfl := Option.some.inj hr
   have f1 := blk_frozen HM.out.2.1 0
   have c1 := (blk_cell HM.out.2.1 0).trans rfl
   clear hr
   gi_wp2
   have hE := (HM.out.setE 3).ends ((Below.heap_setCell W ⟨w.heap.size + 1, 0, none⟩ (.int .i64 3) D (by simp; omega)).trans hK) (by omega)
   have hc5 := (blk_cell hE.2.1 0).trans rfl
   refine ⟨by simp, .inl ⟨_, _, rfl, run_takeDeferred ((Below.heap_setCell W ⟨w.heap.size + 1, 0, none⟩ (.int .i64 3) D (by simp; omega)).trans hK), ?_⟩⟩
   refine ⟨.int .i64 3, ?_, rfl, hE.2.2.2⟩
   simp [results, Try.f16, go_sem, hc5]
 case stop =>
  rintro D c pre W hD ⟨q, hq⟩ ⟨rfl, hn, nv, hM⟩ hK
  rw [← hq, chkB_append, hn] at hr
  obtain rfl := Option.some.inj hr
  have HM := Aside0.mk hM
  clear hn hM hm hOC hO hH hOA hOA0 hM0 hbs B1 hq hr
  gi_wp2
  have hE := HM.out.ends hK (by omega)
  have hc5 := (blk_cell hE.2.1 0).trans rfl
  refine ⟨by simp, .inl ⟨_, _, rfl, run_takeDeferred hK, ?_⟩⟩
  refine ⟨.int .i64 3, ?_, rfl, hE.2.2.2⟩
  simp [results, Try.f16, go_sem, hc5]
end Go.Proofs.Ytdlkhpfgkghhmaa.P

-- ==== Sb0
namespace Go.Proofs.Ytdlkhpfgkghhmaa.P
open Go.RowKit Go.Proofs.YtdlkhpfgkghhmaaW.PrintWords Go.Proofs.YtdlkhpfgkghhmaaW.PrintLast Go.Proofs.YtdlkhpfgkghhmaaW.PrintMore
def StV (w : World) (v : Value) (ops : List S70) (vals : List (List S54)) (st : Int) (hd : List ByteArray) : Prop :=
 ∃ Ao co Av cv Ah ch, v = .agg #[.slice Ao ops.length co, .slice Av vals.length cv, .int .i64 st, .slice Ah hd.length ch] ∧ Kd.C k70 w Ao ops.length ops ∧ ops.length ≤ co ∧ Kd.C (Kd.slice 54 k54) w Av vals.length vals ∧ vals.length ≤ cv ∧ Kd.C Kd.string w Ah hd.length hd ∧ hd.length ≤ ch
theorem stV_below {w w' : World} {v : Value} {ops : List S70} {vals : List (List S54)} {st : Int} {hd : List ByteArray} (h : StV w v ops vals st hd) (hb : Below w.heap.size w w') : StV w' v ops vals st hd := by
 obtain ⟨Ao, co, Av, cv, Ah, ch, e, h0, h1, h2, h3, h4, h5⟩ := h
 exact ⟨Ao, co, Av, cv, Ah, ch, e, Kd.C_below h0 hb, h1, Kd.C_below h2 hb, h3, Kd.C_below h4 hb, h5⟩
def StF (w : World) (ok : Nat → Prop) (v : Value) (ops : List S70) (vals : List (List S54)) (st : Int) (hd : List ByteArray) : Prop :=
 ∃ Ao co Av cv Ah ch, v = .agg #[.slice Ao ops.length co, .slice Av vals.length cv, .int .i64 st, .slice Ah hd.length ch] ∧ Kd.F k70 w ok Ao ops.length ops ∧ ops.length ≤ co ∧ Kd.F (Kd.slice 54 k54) w ok Av vals.length vals ∧ vals.length ≤ cv ∧ Kd.F Kd.string w ok Ah hd.length hd ∧ hd.length ≤ ch
theorem stF_V {w : World} {ok : Nat → Prop} {v : Value} {ops : List S70} {vals : List (List S54)} {st : Int} {hd : List ByteArray} (h : StF w ok v ops vals st hd) : StV w v ops vals st hd := by
 obtain ⟨Ao, co, Av, cv, Ah, ch, e, h0, h1, h2, h3, h4, h5⟩ := h
 exact ⟨Ao, co, Av, cv, Ah, ch, e, Kd.F_now h0, h1, Kd.F_now h2, h3, Kd.F_now h4, h5⟩
theorem stF_mono {w : World} {ok ok' : Nat → Prop} {v : Value} {ops : List S70} {vals : List (List S54)} {st : Int} {hd : List ByteArray} (h : StF w ok v ops vals st hd) (hk : ∀ k, ok k → k < w.heap.size → ok' k) : StF w ok' v ops vals st hd := by
 obtain ⟨Ao, co, Av, cv, Ah, ch, e, h0, h1, h2, h3, h4, h5⟩ := h
 exact ⟨Ao, co, Av, cv, Ah, ch, e, Kd.F_mono (Kd.F_bound h0) (fun k hk_ => hk k hk_.1 hk_.2), h1, Kd.F_mono (Kd.F_bound h2) (fun k hk_ => hk k hk_.1 hk_.2), h3, Kd.F_mono (Kd.F_bound h4) (fun k hk_ => hk k hk_.1 hk_.2), h5⟩
theorem stF_step {w w1 : World} {ok : Nat → Prop} {v : Value} {ops : List S70} {vals : List (List S54)} {st : Int} {hd : List ByteArray} (h : StF w ok v ops vals st hd) (hm : ∀ k, ok k → k < w.heap.size → w1.heap[k]? = w.heap[k]?) : StF w1 ok v ops vals st hd := by
 obtain ⟨Ao, co, Av, cv, Ah, ch, e, h0, h1, h2, h3, h4, h5⟩ := h
 exact ⟨Ao, co, Av, cv, Ah, ch, e, Kd.F_step h0 hm, h1, Kd.F_step h2 hm, h3, Kd.F_step h4 hm, h5⟩
theorem stF_below {w w1 : World} {ok : Nat → Prop} {v : Value} {ops : List S70} {vals : List (List S54)} {st : Int} {hd : List ByteArray} (h : StF w ok v ops vals st hd) (hb : Below w.heap.size w w1) : StF w1 ok v ops vals st hd := stF_step h (fun k _ hlt => hb.block k hlt)
theorem at_F70 {w : World} {ok : Nat → Prop} {A : Option Addr} {n : Nat} {xs : List S70} (h : Kd.F k70 w ok A n xs) (i : Int) (h0 : 0 ≤ i) (h1 : i < n) : ∃ ad A3 c3, A = some ad ∧ w.cell? (ad.add (i.toNat * 4)) = some (.int .i64 (rd_T70 xs i).f0) ∧ w.cell? ⟨(ad.add (i.toNat * 4)).block, (ad.add (i.toNat * 4)).off + 1, none⟩ = some (.string (rd_T70 xs i).f1.f0) ∧ w.cell? ⟨(ad.add (i.toNat * 4)).block, (ad.add (i.toNat * 4)).off + 2, none⟩ = some (.int .i64 (rd_T70 xs i).f1.f1) ∧ w.cell? ⟨(ad.add (i.toNat * 4)).block, (ad.add (i.toNat * 4)).off + 3, none⟩ = some (.slice A3 (rd_T70 xs i).f2.length c3) ∧ (rd_T70 xs i).f2.length ≤ c3 ∧ Kd.F k54 w ok A3 (rd_T70 xs i).f2.length (rd_T70 xs i).f2 := by
 obtain ⟨ad, c, e, _, hK, hc0, _⟩ := Kd.F_get h z70 i h0 h1
 have hc : ∀ j u, c[j]? = some u → w.cell? (ad.add (i.toNat * 4 + j)) = some u := hc0
 obtain ⟨A3, c3, rfl, l3, g3⟩ := k70_openF hK
 exact ⟨ad, A3, c3, e, hc 0 _ rfl, by rw [← add_field _ _ 1 (by omega)]; exact hc 1 _ rfl, by rw [← add_field _ _ 2 (by omega)]; exact hc 2 _ rfl, by rw [← add_field _ _ 3 (by omega)]; exact hc 3 _ rfl, l3, g3⟩
theorem stV_nil (w : World) : StV w (.agg #[.slice none 0 0, .slice none 0 0, .int .i64 0, .slice none 0 0]) [] [] 0 [] :=
 ⟨_, _, _, _, _, _, rfl, Kd.C_nil _ _, Nat.le_refl _, Kd.C_nil _ _, Nat.le_refl _, Kd.C_nil _ _, Nat.le_refl _⟩
theorem known0_calls {v : Value} {w : World} : Calls Try.prog 93 #[.slice none 0 0, v] w fun e w' => e = .returned (.int .i64 (-1)) ∧ Below w.heap.size w w' := by
 have HB := Aside0.mk (Below.refl w.heap.size w)
 go_enter Try.func93, Try.ntmps93
 go_wp2
 go_loopg [8] 0 (fun kq v8 w' => v8 = .int .i64 0 ∧ Aside0 (kq = 0) ∧ Aside0 (Below w.heap.size w w'))
 case atStart => exact ⟨rfl, ⟨rfl⟩, HB⟩
 case round =>
  clear HB
  obtain ⟨rfl, HK, HB⟩ := hrel
  cases gk with
  | zero =>
   go_wp2
   go_ret
   exact ⟨rfl, HB.out⟩
  | succ k => exact absurd HK.out (by omega)

-- ==== Sc1
theorem turned_calls {P : Nat → Prop} {A0 : Option Addr} {c0 : Nat} {l : List S70} {w : World} (hF : Kd.F k70 w P A0 l.length l) (hl : l.length < 2513169434900) :
 Calls Try.prog 35 #[.slice A0 l.length c0] w fun e w' => ∃ v, e = .returned v ∧ Kd.N k70 70 w' w.heap.size (fun k => P k ∨ w.heap.size ≤ k) v l.reverse ∧ Below w.heap.size w w' := by
 have HF := Aside0.mk (Kd.F_bound hF)
 have HM := Aside0.mk hl
 have HB := Aside0.mk (Below.refl w.heap.size w)
 clear hF hl
 go_enter Try.func35, Try.ntmps35
 go_wp2
 go_loopg [3, 4] l.length (fun kq v3 v4 w' => ∃ (x : Int) (A : Option Addr) (c : Nat) (out : List S70), v3 = .slice A out.length c ∧ v4 = .int .i64 x ∧ Aside0 (x + 1 = (kq : Int) ∧ out.length + kq = l.length) ∧ Aside0 (out ++ (l.take kq).reverse = l.reverse) ∧ Aside0 (Kd.N k70 70 w' w.heap.size (fun k => P k ∨ w.heap.size ≤ k) (.slice A out.length c) out) ∧ Aside0 (Below w.heap.size w w'))
 case atStart =>
  have hl := HM.out
  exact ⟨(l.length : Int) - 1, none, 0, [], rfl, by rw [show wrap64 ((l.length : Int) - 1) = (l.length : Int) - 1 by unfold wrap64; omega], ⟨by simp⟩, ⟨by simp⟩, ⟨Kd.N_nil _ _ _ _ _⟩, HB⟩
 case round =>
  clear HB
  obtain ⟨x, A, c, out, rfl, rfl, HI, HD, HN, HB⟩ := hrel
  have hi := HI.out
  have hm := HM.out
  cases gk with
  | succ k1 =>
   have hx : 0 ≤ x ∧ x < (l.length : Int) := by omega
   obtain ⟨ad, A3, c3, eA, a0, a1, a2, a3, al, ag⟩ := at_F70 (Kd.F_step HF.out (fun k hk _ => HB.out.block k hk.2)) x hx.1 hx.2
   subst eA
   have hd := HD.out
   have e1 : x.toNat = k1 := by omega
   rw [show l.take (k1 + 1) = l.take k1 ++ [rd_T70 l x] by
    rw [List.take_succ_eq_append_getElem (show k1 < l.length by omega)]
    congr 1
    simp [rd_T70, List.getD_eq_getElem?_getD, e1, show k1 < l.length by omega], List.reverse_append, List.reverse_singleton, ← List.append_assoc] at hd
   generalize rd_T70 l x = o at a0 a1 a2 a3 al ag hd
   obtain ⟨out2, ho⟩ : ∃ q, q = out ++ [o] := ⟨_, rfl⟩
   rw [← ho] at hd
   have HO := Aside0.mk ho
   have HD2 := Aside0.mk hd
   have HAG := Aside0.mk ag
   have HAL := Aside0.mk al
   have p1 : (0 ≤ x) = True := eq_true hx.1
   have p2 : (x < (l.length : Int)) = True := eq_true hx.2
   have p3 : decide (x ≥ 0) = true := decide_eq_true hx.1
   have p4 : decide (0 ≤ x) = true := decide_eq_true hx.1
   clear hd ho al ag e1 hx
   go_upto_region 4 with (first | (at_builtin; (with_reducible refine gate_builtin (b := .append) (xs := #[.tmp 12, .tmp 17]) rfl ?_); refine Kd.N_append k70 (w0 := w) w.heap.size rfl (.tmp 12) (.tmp 17) 24 70 (.agg #[.int .i64 0, .string ⟨#[]⟩, .int .i64 0, .slice none 0 0]) 56 rfl Try.underlying24 info70 rfl (by decide) (by decide) (.slice A out.length c) out o [.int .i64 o.f0, .string o.f1.f0, .int .i64 o.f1.f1, .slice A3 o.f2.length c3] (fun k => P k ∨ w.heap.size ≤ k) (fun k => P k ∧ k < w.heap.size) rfl rfl ?aP (fun k hk => ⟨.inl hk.1, fun he => by have h1_ := Kd.N_base HN.out _ he.symm; have := hk.2; omega⟩) ?aF ?aO ?aB ?aS ?aL ?_; (case aP => exact (k70_mkF _ _ o HAL.out (by repeat (first | exact HAG.out | apply Kd.F_drewN | apply Kd.F_drew | apply Kd.F_alloc)))); (case aF => exact (fun k hk => .inr (Nat.le_trans (show w.heap.size ≤ _ from Below.size (zq HB.out)) hk))); (case aO => exact (Kd.N_below HN.out zg)); (case aB => exact (zq HB.out)); (case aS => exact (show w.heap.size ≤ _ from Below.size (zq HB.out))); (case aL => have := HI.out; have := HM.out; omega); intro v8 w8 ho hb hgr hat; rw [← HO.out] at ho; obtain ⟨A8, c8, rfl⟩ := Kd.N_slice ho; have HN8 := Aside0.mk ho; have HB8 := Aside0.mk hb; clear ho hb hgr hat))
   go_wp2
   go_roundg k1
   case measure => omega
   case rel => exact ⟨x - 1, A8, c8, out2, rfl, by first | rfl | rw [show wrap64 (x - 1) = x - 1 by unfold wrap64; omega], ⟨by rw [HO.out, List.length_append, List.length_singleton]; omega⟩, HD2, HN8, HB8⟩
  | zero =>
   have p3 : decide (x ≥ 0) = false := decide_eq_false (by omega)
   have p4 : decide (0 ≤ x) = false := decide_eq_false (by omega)
   have hd := HD.out
   rw [List.take_zero, List.reverse_nil, List.append_nil] at hd
   go_wp2
   go_ret
   exact ⟨_, rfl, by rw [← hd]; exact HN.out, HB.out⟩

-- ==== Sa1
attribute [local go_sem high] eqA54
theorem same7_calls {k co cv ch eo ew eh : Nat} {w : World} {Ao Av Ah Bo Bv Bh : Option Addr} {ops : List S70} {vals : List (List S54)} {st : Int} {hd : List ByteArray}
 (hO : Kd.C k70 w Ao ops.length ops) (hV : Kd.C (Kd.slice 54 k54) w Av vals.length vals) (hcv : vals.length ≤ cv) (hH : Kd.C Kd.string w Ah hd.length hd) (hch : hd.length ≤ ch)
 (gO : Kd.C k70 w Bo ops.length ops) (gV : Kd.C (Kd.slice 54 k54) w Bv vals.length vals) (gcv : vals.length ≤ ew) (gH : Kd.C Kd.string w Bh hd.length hd) (gch : hd.length ≤ eh)
 (hS : aumbryref03_Same.f k hd hd = some true) (hA : aumbryref04_SameAll.f k vals vals = some true) (hT : ∀ x : Nat, x < ops.length → aumbryref04_Same.f k (rd_T70 ops x).f2 (rd_T70 ops x).f2 = some true) :
 Calls Try.prog 15 #[.agg #[.slice Ao ops.length co, .slice Av vals.length cv, .int .i64 st, .slice Ah hd.length ch], .agg #[.slice Bo ops.length eo, .slice Bv vals.length ew, .int .i64 st, .slice Bh hd.length eh]] w fun e w' => e = .returned (.bool true) ∧ Below w.heap.size w w' := by
 have HO := Aside0.mk hO
 have GO := Aside0.mk gO
 have HT := Aside0.mk hT
 have HB := Aside0.mk (Below.refl w.heap.size w)
 have HM := Aside0.mk (show (ops.length : Int) ≤ 9223372036854775807 by have := hO.2.1; omega)
 have C1 := fun (W : World) (hW : Below w.heap.size w W) => aumbryref03_Same.calls k Ah ch hd Bh eh hd true W (Kd.C_below hH hW) hch (Kd.C_below gH hW) gch hS
 have C2 := fun (W : World) (hW : Below w.heap.size w W) => aumbryref04_SameAll.calls k Av cv vals Bv ew vals true W (Kd.C_below hV hW) hcv (Kd.C_below gV hW) gcv hA
 clear hO gO hT hV gV hH gH hS hA
 have hb1 : ((ops.length : Int) != (ops.length : Int)) = false := bne_self_eq_false _
 have hb2 : (st != st) = false := bne_self_eq_false _
 go_enter Try.func15, Try.ntmps15
 go_wp2_with (first | (go_at_call 37; (with_reducible refine (C1 _ ?side1).mono ?_); (case side1 => exact (zq HB.out)); rintro e w1 ⟨rfl, nd, rfl⟩) | (go_at_call 38; (with_reducible refine (C2 _ ?side2).mono ?_); (case side2 => exact (zq HB.out)); rintro e w2 ⟨rfl, nd2, rfl⟩))
 obtain ⟨sa, hsa⟩ : ∃ s : Array Value, s = #[.slice Ao ops.length co, .slice Av vals.length cv, .int .i64 st, .slice Ah hd.length ch] := ⟨_, rfl⟩
 obtain ⟨sb, hsb⟩ : ∃ s : Array Value, s = #[.slice Bo ops.length eo, .slice Bv vals.length ew, .int .i64 st, .slice Bh hd.length eh] := ⟨_, rfl⟩
 have HZA := Aside0.mk (show (((w.alloc (.cells #[.slice Ao ops.length co, .slice Av vals.length cv, .int .i64 st, .slice Ah hd.length ch] 28)).alloc (.cells #[.slice Bo ops.length eo, .slice Bv vals.length ew, .int .i64 st, .slice Bh hd.length eh] 28)).drewN (nd + nd2)).heap[w.heap.size]? = some (.cells sa 28 (0, 0)) by rw [hsa]; simpa using ((below_alloc (Below.refl _ _) _).block _ (by simp)).trans (heap_alloc_new w _))
 have HZB := Aside0.mk (show (((w.alloc (.cells #[.slice Ao ops.length co, .slice Av vals.length cv, .int .i64 st, .slice Ah hd.length ch] 28)).alloc (.cells #[.slice Bo ops.length eo, .slice Bv vals.length ew, .int .i64 st, .slice Bh hd.length eh] 28)).drewN (nd + nd2)).heap[w.heap.size + 1]? = some (.cells sb 28 (0, 0)) by rw [hsb]; simpa using heap_alloc_new (w.alloc _) _)
 have HB1 := Aside0.mk (show Below w.heap.size w (((w.alloc (.cells #[.slice Ao ops.length co, .slice Av vals.length cv, .int .i64 st, .slice Ah hd.length ch] 28)).alloc (.cells #[.slice Bo ops.length eo, .slice Bv vals.length ew, .int .i64 st, .slice Bh hd.length eh] 28)).drewN (nd + nd2)) from (zq HB.out))
 generalize (((w.alloc (.cells #[.slice Ao ops.length co, .slice Av vals.length cv, .int .i64 st, .slice Ah hd.length ch] 28)).alloc (.cells #[.slice Bo ops.length eo, .slice Bv vals.length ew, .int .i64 st, .slice Bh hd.length eh] 28)).drewN (nd + nd2)) = W0 at HZA HZB HB1 ⊢
 clear HB C1 C2
 go_loopg [39] ops.length (fun kq v39 w' => ∃ x : Int, v39 = .int .i64 x ∧ Aside0 (0 ≤ x ∧ x + kq = (ops.length : Int)) ∧ Aside0 (w'.heap[w.heap.size]? = some (.cells sa 28 (0, 0))) ∧ Aside0 (w'.heap[w.heap.size + 1]? = some (.cells sb 28 (0, 0))) ∧ Aside0 (Below w.heap.size w w'))
 case atStart => exact ⟨0, rfl, ⟨by omega⟩, HZA, HZB, HB1⟩
 case round =>
  clear HZA HZB HB1
  obtain ⟨x, rfl, HX, HZA, HZB, HB⟩ := hrel
  cases gk with
  | succ k1 =>
   have hi : 0 ≤ x ∧ x < (ops.length : Int) := by have := HX.out; omega
   obtain ⟨ad, A3, c3, eA, a0, a1, a2, a3, al, ag⟩ := at_T70 (Kd.C_below HO.out HB.out) x hi.1 hi.2
   obtain ⟨bd, B3, e3, eB, b0, b1, b2, b3, bl, bg⟩ := at_T70 (Kd.C_below GO.out HB.out) x hi.1 hi.2
   subst eA eB
   have hS := HT.out x.toNat (by omega)
   rw [show ((x.toNat : Nat) : Int) = x by omega] at hS
   generalize rd_T70 ops x = o at a0 a1 a2 a3 al ag b0 b1 b2 b3 bl bg hS
   have za0 := (blk_cell HZA.out 0).trans (by rw [hsa]; rfl : _ = some (Value.slice (some ad) ops.length co))
   have zb0 := (blk_cell HZB.out 0).trans (by rw [hsb]; rfl : _ = some (Value.slice (some bd) ops.length eo))
   have p1 : (0 ≤ x) = True := eq_true hi.1
   have p2 : (x < (ops.length : Int)) = True := eq_true hi.2
   have p3 : decide (x < (ops.length : Int)) = true := decide_eq_true hi.2
   have q0 : (o.f0 != o.f0) = false := bne_self_eq_false _
   have q1 : (o.f1.f0.toList == o.f1.f0.toList) = true := beq_self_eq_true _
   have q2 : (o.f1.f1 == o.f1.f1) = true := beq_self_eq_true _
   have S1 := fun (W : World) (hW : Below wr.heap.size wr W) => aumbryref04_Same.calls k A3 c3 o.f2 B3 e3 o.f2 true W (Kd.C_below ag hW) al (Kd.C_below bg hW) bl hS
   go_wp2
   go_quiet (first | (go_at_call 27; (with_reducible refine (S1 _ ?side3).mono ?_); (case side3 => exact (by repeat (first | exact Below.refl _ _ | apply pw_below_drewN | apply below_drew1))); rintro e w1 ⟨rfl, nd, rfl⟩; exact ⟨rfl, _, World.drewN_drewN _ _ _⟩))
   go_wp2
   go_roundg k1
   case measure => have := HX.out; omega
   case rel => exact ⟨x + 1, by have e_ : wrap64 (x + 1) = x + 1 := (by have := HX.out; have := HM.out; unfold wrap64; omega); first | rfl | rw [e_] | (simp [e_]; done), ⟨by have := HX.out; omega⟩, ⟨by simpa using HZA.out⟩, ⟨by simpa using HZB.out⟩, ⟨by repeat (first | exact HB.out | apply pw_below_drewN | apply below_drew1)⟩⟩
  | zero =>
   have hb0 : decide (x < (ops.length : Int)) = false := decide_eq_false (by have := HX.out; omega)
   go_wp2
   go_ret
   exact ⟨rfl, HB.out⟩

-- ==== Rw15
theorem R_get70 {W : World} {B n c : Nat} {A : Option Addr} {ops : List S70} (h : Kd.R k70 70 W B (fun _ => True) (.slice A n c) ops) (x : Nat) (hx : x < n) :
 ∃ ad v3, A = some ad ∧ W.cell? (ad.add (x * 4)) = some (.int .i64 (rd_T70 ops x).f0) ∧ W.cell? (ad.add (x * 4 + 1)) = some (.string (rd_T70 ops x).f1.f0) ∧ W.cell? (ad.add (x * 4 + 2)) = some (.int .i64 (rd_T70 ops x).f1.f1) ∧ W.cell? (ad.add (x * 4 + 3)) = some v3 ∧ Kd.R k54 54 W B (fun _ => True) v3 (rd_T70 ops x).f2 := by
 obtain ⟨hn, _, hC⟩ := Kd.R_reads' h
 obtain ⟨ad, hA, _⟩ := hC.2.2 (by omega)
 subst hA
 obtain ⟨cs, _, hM, hc⟩ := Kd.R_get h z70 (x : Int) (by omega) (by omega)
 obtain ⟨v3, rfl, h3⟩ := k70_openM hM
 exact ⟨ad, v3, rfl, hc 0 _ rfl, hc 1 _ rfl, hc 2 _ rfl, hc 3 _ rfl, Kd.R_mono h3 (fun _ _ => trivial)⟩
def runL (k : Nat) (rules : List S73) : Nat → Mst → Option (Int × Mst)
 | 0, _ => none
 | n + 1, m => if m.ops.length = 0 then some (0, m) else
  if (rd_T70 m.ops ((m.ops.length : Int) - 1)).f0 = 2 then (if m.vals.length < 5864062014800 then runL k rules n ⟨m.ops.take (m.ops.length - 1), m.vals ++ [(rd_T70 m.ops ((m.ops.length : Int) - 1)).f2], m.st, m.hd, m.fu⟩ else none)
  else if 0 ≤ (rd_T70 m.ops ((m.ops.length : Int) - 1)).f1.f1 ∧ (rd_T70 m.ops ((m.ops.length : Int) - 1)).f1.f1.toNat ≤ m.vals.length ∧ (∀ v ∈ m.vals.drop (m.vals.length - (rd_T70 m.ops ((m.ops.length : Int) - 1)).f1.f1.toNat), v.length ≤ 64) then
   (makeN k rules (rd_T70 m.ops ((m.ops.length : Int) - 1)).f1.f0 (rd_T70 m.ops ((m.ops.length : Int) - 1)) (m.vals.drop (m.vals.length - (rd_T70 m.ops ((m.ops.length : Int) - 1)).f1.f1.toNat)) ⟨m.ops.take (m.ops.length - 1), m.vals.take (m.vals.length - (rd_T70 m.ops ((m.ops.length : Int) - 1)).f1.f1.toNat), m.st, m.hd, m.fu⟩).bind fun r => if r.1 = 0 then runL k rules n r.2 else some r
  else none
theorem ops_last {ops : List S70} (h : ops.length ≠ 0) : ops = ops.take (ops.length - 1) ++ [rd_T70 ops ((ops.length : Int) - 1)] := by
 have hl : ops.length - 1 < ops.length := by omega
 have e : rd_T70 ops ((ops.length : Int) - 1) = ops[ops.length - 1] := by
  simp only [rd_T70, List.getD_eq_getElem?_getD]
  rw [show ((ops.length : Int) - 1).toNat = ops.length - 1 by omega, List.getElem?_eq_getElem hl]
  rfl
 rw [e]
 have h2 := List.take_append_drop (ops.length - 1) ops
 rw [List.drop_eq_getElem_cons hl, List.drop_eq_nil_of_le (by omega)] at h2
 exact h2.symm
theorem isMc_new {B : Nat} {W : World} {rv tv vo vv vh : Value} {ops : List S70} {vals : List (List S54)} {st fu : Int} {hd : List ByteArray} (hB : B ≤ W.heap.size) (h0 : Kd.R k70 70 W B (fun _ => True) vo ops) (h1 : Kd.R (Kd.slice 54 k54) 23 W B (fun _ => True) vv vals) (h3 : Kd.R Kd.string 9 W B (fun _ => True) vh hd) :
 IsMc B (W.alloc (.cells #[vo, vv, .int .i64 st, vh, rv, tv, .int .i64 fu] 94)) W.heap.size rv tv ops vals st hd fu :=
 ⟨vo, vv, vh, heap_alloc_new W _, hB, Kd.R_alloc h0 _, Kd.R_alloc h1 _, Kd.R_alloc h3 _⟩

-- ==== Rw16
def mayL (k : Nat) : List S70 → Option (List Bool)
 | [] => some []
 | o :: u => (rewrite_may.f k o.f0 o.f1.f0 o.f1.f1 o.f2).bind fun b => (mayL k u).bind fun l => some (b :: l)
theorem mayL_get {k : Nat} : ∀ {ops : List S70} {l : List Bool}, mayL k ops = some l → ∀ x : Nat, x < ops.length → rewrite_may.f k (rd_T70 ops x).f0 (rd_T70 ops x).f1.f0 (rd_T70 ops x).f1.f1 (rd_T70 ops x).f2 = some (l.getD x false)
 | [], _, _, x, hx => absurd hx (Nat.not_lt_zero x)
 | o :: u, l, h, x, hx => by
  obtain ⟨b, hb, h⟩ := Option.bind_eq_some_iff.mp h
  obtain ⟨l', hl, h⟩ := Option.bind_eq_some_iff.mp h
  obtain rfl := Option.some.inj h
  cases x with
  | zero => exact hb
  | succ y =>
   have := mayL_get hl y (by simpa using hx)
   simpa [rd_T70] using this
def chkF (k : Nat) (ops : List S70) (vals : List (List S54)) (st : Int) (hd : List ByteArray) : Option Int :=
 (mayL k ops).bind fun l => postF k vals st hd (chkB ops (fun x => l.getD x false) (List.range ops.length).reverse vals.length)
theorem check_calls {k co cv ch : Nat} {w : World} {Ao Av Ah : Option Addr} {ops : List S70} {vals : List (List S54)} {st : Int} {hd : List ByteArray} {r : Int}
 (hO : Kd.C k70 w Ao ops.length ops) (hV : Kd.C (Kd.slice 54 k54) w Av vals.length vals) (hH : Kd.C Kd.string w Ah hd.length hd) (h : chkF k ops vals st hd = some r) :
 Calls Try.prog 16 #[.agg #[.slice Ao ops.length co, .slice Av vals.length cv, .int .i64 st, .slice Ah hd.length ch]] w fun e W' => e = .returned (.int .i64 r) ∧ Below w.heap.size w W' := by
 obtain ⟨l, hl, h⟩ := Option.bind_eq_some_iff.mp h
 exact check_in hO hV hH h (mayL_get hl)
def runF (k gas : Nat) (rules : List S73) (ops : List S70) (vals : List (List S54)) (st : Int) (hd : List ByteArray) (fu : Int) : Option (Int × Mst) :=
 (rewrite_together.f k rules).bind fun e => if e = 0 then (chkF k ops vals st hd).bind fun e => if e = 0 then (rewrite_clone.f k ops vals st hd).bind fun c => runL k rules gas ⟨c.1, c.2.1, c.2.2.1, c.2.2.2, fu⟩ else some (e, ⟨[], [], 0, [], 0⟩) else some (e, ⟨[], [], 0, [], 0⟩)

-- ==== Rw17
def RunEnd (B : Nat) (r : Int × Mst) (e : Ending) (w' : World) : Prop :=
 ∃ v0 v1 v3 : Value, e = .returned (.tuple #[.agg #[v0, v1, .int .i64 r.2.st, v3], .int .i64 r.1]) ∧ StEnd B w' v0 v1 v3 r.2.ops r.2.vals r.2.hd
theorem R_last70 {W : World} {B n c : Nat} {A : Option Addr} {ops : List S70} (h : Kd.R k70 70 W B (fun _ => True) (.slice A n c) ops) (x : Nat) (hx : x < n) :
 ∃ ad A3 c3, A = some ad ∧ W.cell? (ad.add (x * 4)) = some (.int .i64 (rd_T70 ops x).f0) ∧ W.cell? ⟨(ad.add (x * 4)).block, (ad.add (x * 4)).off + 1, none⟩ = some (.string (rd_T70 ops x).f1.f0) ∧ W.cell? ⟨(ad.add (x * 4)).block, (ad.add (x * 4)).off + 2, none⟩ = some (.int .i64 (rd_T70 ops x).f1.f1) ∧ W.cell? ⟨(ad.add (x * 4)).block, (ad.add (x * 4)).off + 3, none⟩ = some (.slice A3 (rd_T70 ops x).f2.length c3) ∧ Kd.R k54 54 W B (fun _ => True) (.slice A3 (rd_T70 ops x).f2.length c3) (rd_T70 ops x).f2 := by
 obtain ⟨hn, _, _⟩ := Kd.R_reads' h
 obtain ⟨g, c', he, _⟩ := Kd.R_form h (by omega)
 injection he with he
 subst he
 obtain ⟨ad, v3, he, h0, h1, h2, h3, hr⟩ := R_get70 h x hx
 injection he with he
 subst he
 obtain ⟨A3, c3, rfl⟩ := Kd.R_slice hr
 simp only [add_plain] at h0 h1 h2 h3 ⊢
 exact ⟨_, A3, c3, rfl, by rw [add_plain]; exact h0, by rw [add_plain]; exact h1, by rw [add_plain]; exact h2, by rw [add_plain]; exact h3, hr⟩
theorem noGoto_ret {Q : Exit → Act → World → Prop} {a : Act} {w : World} (h : Q .ret a w) : Exit.noGoto Q .ret a w := h
theorem run_calls {k gas cr co cv ch : Nat} {w : World} {Ar Ao Av Ah : Option Addr} {rules : List S73} {ops : List S70} {vals : List (List S54)} {st fu : Int} {hd : List ByteArray} {r : Int × Mst}
 (hR : Kd.C k73 w Ar rules.length rules) (hcr : rules.length ≤ cr) (hO : Kd.C k70 w Ao ops.length ops) (hco : ops.length ≤ co) (hV : Kd.C (Kd.slice 54 k54) w Av vals.length vals) (hcv : vals.length ≤ cv) (hH : Kd.C Kd.string w Ah hd.length hd) (hch : hd.length ≤ ch)
 (h : runF k gas rules ops vals st hd fu = some r) :
 Calls Try.prog 20 #[.slice Ar rules.length cr, .agg #[.slice Ao ops.length co, .slice Av vals.length cv, .int .i64 st, .slice Ah hd.length ch], .int .i64 fu, .nilIface] w fun e w' => RunEnd w.heap.size r e w' ∧ Below w.heap.size w w' := by
 obtain ⟨e1, he1, h⟩ := Option.bind_eq_some_iff.mp h
 have HR := Aside0.mk hR
 have HR0 := Aside0.mk hR
 have HO := Aside0.mk hO
 have HV := Aside0.mk hV
 have HH := Aside0.mk hH
 have HH0 := Aside0.mk h
 have HBW := Aside0.mk (Below.refl w.heap.size w)
 have T1 := fun (W : World) (hW : Below w.heap.size w W) => rewrite_together.calls k Ar cr rules e1 W (Kd.C_below HR.out hW) hcr he1
 clear hR hO hV hH h he1
 by_cases h1 : e1 = 0
 case neg =>
  have hr := HH0.out
  rw [if_neg h1] at hr
  obtain rfl := Option.some.inj hr
  have hb1 : (e1 != 0) = true := bne_iff_ne.mpr h1
  clear hr HH0
  go_enter Try.func20, Try.ntmps20
  go_wp2
  refine wp_scope_straight ?_
  go_wp2_with (go_at_call 46; (with_reducible refine (T1 _ ?side1).mono ?_); (case side1 => exact (zq HBW.out)); rintro e w1 ⟨rfl, hb⟩; have hz := (hb.block (w.heap.size + 1) (by simp)).trans (al2_1 w _ _); have HZ := Aside0.mk hz; obtain ⟨z0, z1, z2, z3⟩ := zc4 hz; obtain ⟨y0, y1, y2, y3⟩ := zf4 hz; clear hz; have HB1 := Aside0.mk (below_step (zq HBW.out) hb); clear hb)
  refine noGoto_ret ?_
  refine bodyPost_ret (results_ct rfl _ _ (w.heap.size + 1) 28 _ (0, 0) _ rfl (set4_blk HZ.out _ _ _ _) Try.underlying28 rfl (by kernel_rfl)) rfl ?_
  exact ⟨⟨_, _, _, rfl, stEnd_nil _ _⟩, set4_below HB1.out (Nat.le_succ _) _ _ _ _⟩
 subst h1
 have hr := HH0.out
 rw [if_pos rfl] at hr
 replace hr := Option.bind_eq_some_iff.mp hr
 obtain ⟨e2, he2, hr⟩ := hr
 have C1 := fun (W : World) (hW : Below w.heap.size w W) => check_calls (co := co) (cv := cv) (ch := ch) (Kd.C_below HO.out hW) (Kd.C_below HV.out hW) (Kd.C_below HH.out hW) he2
 have HR2 := Aside0.mk hr
 clear hr he2 HH0
 by_cases h2 : e2 = 0
 case neg =>
  have hr := HR2.out
  rw [if_neg h2] at hr
  obtain rfl := Option.some.inj hr
  have hb1 : (e2 != 0) = true := bne_iff_ne.mpr h2
  clear hr HR2
  go_enter Try.func20, Try.ntmps20
  go_wp2
  refine wp_scope_straight ?_
  go_wp2_with (first | (go_at_call 46; (with_reducible refine (T1 _ ?side1).mono ?_); (case side1 => exact (zq HBW.out)); rintro e w1 ⟨rfl, hb⟩; have hz := (hb.block (w.heap.size + 1) (by simp)).trans (al2_1 w _ _); have hs := (hb.block w.heap.size (by simp; omega)).trans (al2_0 w _ _); have HZ1 := Aside0.mk hz; have HS1 := Aside0.mk hs; obtain ⟨s0, s1, s2, s3⟩ := zc4 hs; have HB1 := Aside0.mk (below_step (zq HBW.out) hb); clear hz hs hb) | (go_at_call 16; (with_reducible refine (C1 _ ?side2).mono ?_); (case side2 => exact (zq HB1.out)); rintro e w2 ⟨rfl, hb⟩; have hz := blk_below HZ1.out hb; have hs := blk_below HS1.out hb; have HZ2 := Aside0.mk hz; have HS2 := Aside0.mk hs; obtain ⟨z0, z1, z2, z3⟩ := zc4 hz; obtain ⟨y0, y1, y2, y3⟩ := zf4 hz; have HB2 := Aside0.mk (below_step (zq HB1.out) hb); clear hz hs hb))
  refine noGoto_ret ?_
  refine bodyPost_ret (results_ct rfl _ _ (w.heap.size + 1) 28 _ (0, 0) _ rfl (set4_blk HZ2.out _ _ _ _) Try.underlying28 rfl (by kernel_rfl)) rfl ?_
  exact ⟨⟨_, _, _, rfl, stEnd_nil _ _⟩, set4_below HB2.out (Nat.le_succ _) _ _ _ _⟩
 subst h2
 have hr := HR2.out
 rw [if_pos rfl] at hr
 replace hr := Option.bind_eq_some_iff.mp hr
 obtain ⟨⟨c1, c2, c3, c4⟩, hcl, hr⟩ := hr
 have K1 := fun (W : World) (hW : Below w.heap.size w W) => rewrite_clone.calls k Ao co ops Av cv vals st Ah ch hd c1 c2 c3 c4 W (Kd.C_below HO.out hW) hco (Kd.C_below HV.out hW) hcv (Kd.C_below HH.out hW) hch hcl
 have HR3 := Aside0.mk hr
 clear hr hcl HR2
 go_enter Try.func20, Try.ntmps20
 go_wp2
 refine wp_scope_straight ?_
 go_upto_region 8 with (first | (go_at_call 46; (with_reducible refine (T1 _ ?side1).mono ?_); (case side1 => exact (zq HBW.out)); rintro e w1 ⟨rfl, hb⟩; have hz := (hb.block (w.heap.size + 1) (by simp)).trans (al2_1 w _ _); have hs := (hb.block w.heap.size (by simp; omega)).trans (al2_0 w _ _); have HZ1 := Aside0.mk hz; have HS1 := Aside0.mk hs; obtain ⟨s0, s1, s2, s3⟩ := zc4 hs; have HB1 := Aside0.mk (below_step (zq HBW.out) hb); clear hz hs hb) | (go_at_call 16; (with_reducible refine (C1 _ ?side2).mono ?_); (case side2 => exact (zq HB1.out)); rintro e w2 ⟨rfl, hb⟩; have hz := blk_below HZ1.out hb; have hs := blk_below HS1.out hb; have HZ2 := Aside0.mk hz; have HS2 := Aside0.mk hs; obtain ⟨s0, s1, s2, s3⟩ := zc4 hs; have HB2 := Aside0.mk (below_step (zq HB1.out) hb); clear hz hs hb) | (go_at_call 47; (with_reducible refine (K1 _ ?side3).mono ?_); (case side3 => exact (zq HB2.out)); rintro e w3 ⟨v0, v1, v3, rfl, ho0, ho1, ho3, hb⟩; have HV0 := Aside0.mk (show Kd.R k70 70 w3 w2.heap.size (fun _ => True) v0 c1 from Kd.S_R ho0); have HV1 := Aside0.mk (show Kd.R (Kd.slice 54 k54) 23 w3 w2.heap.size (fun _ => True) v1 c2 from Kd.S_R ho1); have HV3 := Aside0.mk (show Kd.R Kd.string 9 w3 w2.heap.size (fun _ => True) v3 c4 from ho3); have HB23 := Aside0.mk (show Below w2.heap.size w2 w3 from hb); have HZ3 := Aside0.mk (blk_below HZ2.out hb); have HB3 := Aside0.mk (below_step (zq HB2.out) hb); clear ho0 ho1 ho3 hb))
 have HM := Aside0.mk (isMc_new (rv := .slice Ar rules.length cr) (tv := .nilIface) (st := c3) (fu := fu) HB23.out.size HV0.out HV1.out HV3.out)
 have HZ4 := Aside0.mk (blk_below HZ3.out (below_alloc (Below.refl _ _) (.cells #[v0, v1, .int .i64 c3, v3, .slice Ar rules.length cr, .nilIface, .int .i64 fu] 94)))
 have HB4 := Aside0.mk (below_step HB23.out (below_alloc (Below.refl _ _) (.cells #[v0, v1, .int .i64 c3, v3, .slice Ar rules.length cr, .nilIface, .int .i64 fu] 94)))
 have HL2 := Aside0.mk (blk_lt HZ2.out)
 generalize (w3.alloc (.cells #[v0, v1, .int .i64 c3, v3, .slice Ar rules.length cr, .nilIface, .int .i64 fu] 94)) = w4 at HM HZ4 HB4 ⊢
 generalize w3.heap.size = g at HM ⊢
 clear HV0 HV1 HV3 HZ1 HS1 HS2 HZ3 T1 C1 K1
 go_wp2
 refine wp_label ?_
 go_wp2
 go_loopg [13] gas (fun kq v13 w' => ∃ m : Mst, v13 = .int .i64 0 ∧ Aside0 (runL k rules kq m = some r) ∧ Aside0 (IsM w2.heap.size w' g (.slice Ar rules.length cr) .nilIface m) ∧ Aside0 (Below w2.heap.size w2 w'))
 case atStart => exact ⟨⟨c1, c2, c3, c4, fu⟩, rfl, HR3, HM, HB4⟩
 case round =>
  clear HR3 HM HB4 HZ4
  obtain ⟨m, rfl, HR, HM, HB4⟩ := hrel
  cases gk with
  | zero => exact absurd HR.out (by simp [runL])
  | succ k1 =>
   have hr := HR.out
   rw [runL] at hr
   obtain ⟨vo, vv, vh, hb, hg, hO, hV, hH⟩ := HM.out
   obtain ⟨Ao2, co2, rfl⟩ := Kd.R_slice hO
   obtain ⟨Av2, cv2, rfl⟩ := Kd.R_slice hV
   obtain ⟨Ah2, ch2, rfl⟩ := Kd.R_slice hH
   have hm0 : wr.cell? ⟨g, 0, none⟩ = some (.slice Ao2 m.ops.length co2) := (blk_cell hb 0).trans rfl
   have HZ := Aside0.mk (blk_below HZ2.out HB4.out)
   have HGB := Aside0.mk hg
   have HO2 := Aside0.mk hO
   have HV2 := Aside0.mk hV
   have HH2 := Aside0.mk hH
   have HBK := Aside0.mk hb
   by_cases hl : m.ops.length = 0
   ·
    rw [if_pos hl] at hr
    obtain rfl := Option.some.inj hr
    have hd1 : decide ((0 : Int) < (m.ops.length : Int)) = false := decide_eq_false (by omega)
    have hd2 : decide ((m.ops.length : Int) > 0) = false := decide_eq_false (by omega)
    have hd3 : (0 < m.ops.length) = False := eq_false (by omega)
    have m1 := (blk_cell hb 1).trans rfl
    have m2 := (blk_cell hb 2).trans rfl
    have m3 := (blk_cell hb 3).trans rfl
    obtain ⟨z0, z1, z2, z3⟩ := zc4 HZ.out
    obtain ⟨y0, y1, y2, y3⟩ := zf4 HZ.out
    clear hr HR hb hg hO hV hH
    have HLN := Aside0.mk hl
    clear hl
    go_wp2
    refine noGoto_ret ?_
    refine bodyPost_ret (results_ct rfl _ _ (w.heap.size + 1) 28 _ (0, 0) _ rfl (set4_blk HZ.out _ _ _ _) Try.underlying28 rfl (by kernel_rfl)) rfl ?_
    have hle : w.heap.size ≤ w2.heap.size := HB2.out.size
    exact ⟨⟨_, _, _, rfl, stEnd_of (set4_R (Kd.R_lower HO2.out hle) HZ.out (by decide) _ _ _ _) (set4_R (Kd.R_lower HV2.out hle) HZ.out (by decide) _ _ _ _) (set4_R (Kd.R_lower HH2.out hle) HZ.out (by decide) _ _ _ _)⟩, set4_below (below_step HB2.out HB4.out) (Nat.le_succ _) _ _ _ _⟩
   ·
    rw [if_neg hl] at hr
    have hN := Kd.C_max (Kd.R_reads' hO).2.2
    obtain ⟨ad, A3, c3, rfl, q0, q1, q2, q3, hr3⟩ := R_last70 hO (m.ops.length - 1) (by omega)
    rw [show ((m.ops.length - 1 : Nat) : Int) = (m.ops.length : Int) - 1 by omega] at q0 q1 q2 q3 hr3
    have hlast := ops_last hl
    generalize rd_T70 m.ops ((m.ops.length : Int) - 1) = o at q0 q1 q2 q3 hr3 hlast hr
    have hd1 : decide ((0 : Int) < (m.ops.length : Int)) = true := decide_eq_true (by omega)
    have hd2 : decide ((m.ops.length : Int) > 0) = true := decide_eq_true (by omega)
    have hd3 : (0 < m.ops.length) = True := eq_true (by omega)
    have hw1 : IntKind.i64.wrap ((m.ops.length : Int) - 1) = (m.ops.length : Int) - 1 := IntWalk.i64_in _ (by omega)
    have hp1 : ((0 : Int) ≤ (m.ops.length : Int) - 1) = True := eq_true (by omega)
    have hp2 : ((m.ops.length : Int) - 1 < (m.ops.length : Int)) = True := eq_true (by omega)
    have hp3 : ((m.ops.length : Int) - 1).toNat = m.ops.length - 1 := by omega
    have hp4 : ((1 : Int) ≤ (m.ops.length : Int)) = True := eq_true (by omega)
    have hba := below_alloc (Below.refl wr.heap.size wr) (.cells #[.int .i64 0, .string ⟨#[]⟩, .int .i64 0, .slice none 0 0] 70)
    have hm0' := pw_cell_below hba hm0
    have q0' := pw_cell_below hba q0
    have q1' := pw_cell_below hba q1
    have q2' := pw_cell_below hba q2
    have q3' := pw_cell_below hba q3
    have hnb := heap_alloc_new wr (.cells #[.int .i64 0, .string ⟨#[]⟩, .int .i64 0, .slice none 0 0] 70)
    obtain ⟨n0, n1, n2, n3⟩ := zc4 hnb
    obtain ⟨u0, u1, u2, u3⟩ := zf4 hnb
    have HNB := Aside0.mk hnb
    clear hba hnb
    have HR3' := Aside0.mk hr3
    have HLA := Aside0.mk hlast
    have HRR := Aside0.mk hr
    clear hr HR hb hg hO hV hH hr3 hlast
    go_upto_region 10 with fail
    go_region
    have hb6 : Below wr.heap.size wr (wr.alloc (.cells #[.int .i64 o.f0, .string o.f1.f0, .int .i64 o.f1.f1, .slice A3 o.f2.length c3] 70)).drew := below_drew1 (below_alloc (Below.refl _ _) _)
    have HM6 := Aside0.mk (isMc_below HM.out hb6)
    have HX6 := Aside0.mk (show (wr.alloc (.cells #[.int .i64 o.f0, .string o.f1.f0, .int .i64 o.f1.f1, .slice A3 o.f2.length c3] 70)).drew.heap[wr.heap.size]? = some (.cells #[.int .i64 o.f0, .string o.f1.f0, .int .i64 o.f1.f1, .slice A3 o.f2.length c3] 70 (0, 0)) from heap_alloc_new wr _)
    have HR6 := Aside0.mk (Kd.R_below HR3'.out hb6)
    have HB6 := Aside0.mk (below_step HB4.out hb6)
    generalize (wr.alloc (.cells #[.int .i64 o.f0, .string o.f1.f0, .int .i64 o.f1.f1, .slice A3 o.f2.length c3] 70)).drew = w6 at HM6 HX6 HR6 HB6 ⊢
    generalize wr.heap.size = bx at HX6 ⊢
    have x0 : w6.cell? ⟨bx, 0, none⟩ = some (.int .i64 o.f0) := (blk_cell HX6.out 0).trans rfl
    have x1 : w6.cell? ⟨bx, 1, none⟩ = some (.string o.f1.f0) := (blk_cell HX6.out 1).trans rfl
    have x2 : w6.cell? ⟨bx, 2, none⟩ = some (.int .i64 o.f1.f1) := (blk_cell HX6.out 2).trans rfl
    have x3 : w6.cell? ⟨bx, 3, none⟩ = some (.slice A3 o.f2.length c3) := (blk_cell HX6.out 3).trans rfl
    clear hb6 hm0 hm0' q0 q1 q2 q3 q0' q1' q2' q3' n0 n1 n2 n3 u0 u1 u2 u3 HNB HR3' HO2 HV2 HH2 HBK HM HB4 hd1 hd2 hd3 hw1 hp1 hp2 hp3 hp4 hN HZ
    have hr := HRR.out
    by_cases ho : o.f0 = 2
    ·
     rw [if_pos ho] at hr
     by_cases hlt : m.vals.length < 5864062014800
     case neg => rw [if_neg hlt] at hr; cases hr
     rw [if_pos hlt] at hr
     have HF := Aside0.mk hr
     have hb2 : (o.f0 == 2) = true := beq_iff_eq.mpr ho
     have hM6 := HM6.out
     rw [HLA.out, show m.vals = m.vals ++ [] by simp] at hM6
     have F1 : Calls Try.prog 48 #[.pointer (some ⟨g, 0, none⟩), .int .i64 0, .slice A3 o.f2.length c3] w6 (fun e w' => e = .returned (.tuple #[]) ∧ IsMc w2.heap.size w' g (.slice Ar rules.length cr) .nilIface (m.ops.take (m.ops.length - 1)) (m.vals ++ [o.f2]) m.st m.hd m.fu ∧ Below w2.heap.size w6 w') := fin_calls (args := []) hM6 HR6.out (by omega)
     clear hr HRR ho hM6
     go_wp2_with (go_at_call 48; (with_reducible refine F1.mono ?_); rintro e w7 ⟨rfl, hM7, hB7⟩; have HM7 := Aside0.mk hM7; have HB7 := Aside0.mk (below_trB HB6.out hB7); clear hM7 hB7)
     go_roundg k1
     case measure => omega
     case rel => exact ⟨⟨m.ops.take (m.ops.length - 1), m.vals ++ [o.f2], m.st, m.hd, m.fu⟩, rfl, HF, HM7, HB7⟩
    ·
     rw [if_neg ho] at hr
     by_cases hsp : 0 ≤ o.f1.f1 ∧ o.f1.f1.toNat ≤ m.vals.length ∧ (∀ v ∈ m.vals.drop (m.vals.length - o.f1.f1.toNat), v.length ≤ 64)
     case neg => rw [if_neg hsp] at hr; cases hr
     rw [if_pos hsp] at hr
     replace hr := Option.bind_eq_some_iff.mp hr
     obtain ⟨r1, hmk, hr⟩ := hr
     have hb2 : (o.f0 == 2) = false := beq_eq_false_iff_ne.mpr ho
     have hM6 := HM6.out
     rw [HLA.out, show m.vals = m.vals.take (m.vals.length - o.f1.f1.toNat) ++ m.vals.drop (m.vals.length - o.f1.f1.toNat) from (List.take_append_drop _ _).symm] at hM6
     have hal : ((m.vals.drop (m.vals.length - o.f1.f1.toNat)).length : Int) = o.f1.f1 := by rw [List.length_drop]; omega
     have F1 := make_calls (m := ⟨m.ops.take (m.ops.length - 1), m.vals.take (m.vals.length - o.f1.f1.toNat), m.st, m.hd, m.fu⟩) hM6 HR0.out HB2.out.size (below_step HB2.out HB6.out) hsp.2.2 hmk
     rw [hal] at F1
     have HR1 := Aside0.mk hr
     clear hr HRR ho hM6 hsp hmk hal
     by_cases h10 : r1.1 = 0
     ·
      have hr := HR1.out
      rw [if_pos h10] at hr
      have HF := Aside0.mk hr
      rw [h10] at F1
      clear hr HR1
      go_wp2_with (go_at_call 49; (with_reducible refine F1.mono ?_); rintro e w7 ⟨rfl, hM7, hB7⟩; have HM7 := Aside0.mk hM7; have HB7 := Aside0.mk (below_trB HB6.out hB7); clear hM7 hB7)
      go_roundg k1
      case measure => omega
      case rel => exact ⟨r1.2, rfl, HF, HM7, HB7⟩
     ·
      have hr := HR1.out
      rw [if_neg h10] at hr
      obtain rfl := Option.some.inj hr
      have hb3 : (r1.1 != 0) = true := bne_iff_ne.mpr h10
      have hle : w.heap.size ≤ w2.heap.size := HB2.out.size
      clear hr HR1 h10
      go_wp2_with (go_at_call 49; (with_reducible refine F1.mono ?_); rintro e w7 ⟨rfl, hM7, hB7⟩; have HB7 := Aside0.mk (below_trB HB6.out hB7); have HZ := Aside0.mk (blk_below HZ2.out HB7.out); obtain ⟨vo7, vv7, vh7, hb_, _, hO7, hV7, hH7⟩ := hM7; obtain ⟨Ao7, co7, rfl⟩ := Kd.R_slice hO7; obtain ⟨Av7, cv7, rfl⟩ := Kd.R_slice hV7; obtain ⟨Ah7, ch7, rfl⟩ := Kd.R_slice hH7; obtain ⟨m0, m1, m2, m3⟩ := zc4 hb_; obtain ⟨z0, z1, z2, z3, y0, y1, y2, y3⟩ := zcf HZ.out; have HO7 := Aside0.mk hO7; have HV7 := Aside0.mk hV7; have HH7 := Aside0.mk hH7; clear hb_ hO7 hV7 hH7 hB7)
      refine noGoto_ret ?_
      refine bodyPost_ret (results_ct rfl _ _ (w.heap.size + 1) 28 _ (0, 0) _ rfl (set4_blk HZ.out _ _ _ _) Try.underlying28 rfl (by kernel_rfl)) rfl ?_
      exact ⟨⟨_, _, _, rfl, stEnd_of (set4_R (Kd.R_lower HO7.out hle) HZ.out (by decide) _ _ _ _) (set4_R (Kd.R_lower HV7.out hle) HZ.out (by decide) _ _ _ _) (set4_R (Kd.R_lower HH7.out hle) HZ.out (by decide) _ _ _ _)⟩, set4_below (below_step HB2.out HB7.out) (Nat.le_succ _) _ _ _ _⟩

-- ==== Rw18
def normF (k gas : Nat) (rules : List S73) (t : List S54) (fu : Int) : Option (List S54 × Int × Int) :=
 (rewrite_together.f k rules).bind fun e => if e = 0 then (startF k t).bind fun s => if s.2.2.2.2 = 0 then (runF k gas rules s.1 s.2.1 s.2.2.1 s.2.2.2.1 fu).bind fun r => if r.1 = 0 then (if 0 < r.2.vals.length then some (rd_L3 r.2.vals 0, r.2.st, 0) else none) else some ([], 0, r.1) else some ([], 0, s.2.2.2.2) else some ([], 0, e)
theorem set4_N {α : Type} {d : Kd α} {e B b : Nat} {ok : Nat → Prop} {W : World} {v : Value} {xs : List α} (h : Kd.N d e W B ok v xs) (hok : ∀ k, ok k → k ≠ b) (b1 b2 b3 b4 : Value) :
 Kd.N d e ((((W.setCell ⟨b, 0, none⟩ b1).setCell ⟨b, 1, none⟩ b2).setCell ⟨b, 2, none⟩ b3).setCell ⟨b, 3, none⟩ b4) B ok v xs :=
 Kd.N_far (p := ⟨b, 3, none⟩) (Kd.N_far (p := ⟨b, 2, none⟩) (Kd.N_far (p := ⟨b, 1, none⟩) (Kd.N_far (p := ⟨b, 0, none⟩) h hok _) hok _) hok _) hok _
theorem at_F3 {W : World} {ok : Nat → Prop} {A : Option Addr} {n : Nat} {xs : List (List S54)} (h : Kd.F (Kd.slice 54 k54) W ok A n xs) (i : Int) (h0 : 0 ≤ i) (h1 : i < n) :
 ∃ ad A' c', A = some ad ∧ W.cell? (ad.add i.toNat) = some (.slice A' (rd_L3 xs i).length c') ∧ (rd_L3 xs i).length ≤ c' ∧ Kd.F k54 W ok A' (rd_L3 xs i).length (rd_L3 xs i) := by
 obtain ⟨ad, cs, rfl, hl, hK, hcc, _⟩ := Kd.F_get h [] i h0 h1
 obtain ⟨A', c', rfl, hl', hF⟩ := Kd.FK_slice_open hK
 have h2 := hcc 0 _ rfl
 rw [show i.toNat * (Kd.slice 54 k54).sz + 0 = i.toNat from Nat.mul_one _] at h2
 exact ⟨ad, A', c', rfl, h2, hl', hF⟩
theorem normal_calls {k gas cr ct : Nat} {w : World} {Ar At : Option Addr} {rules : List S73} {t : List S54} {fu : Int} {r : List S54 × Int × Int}
 (hR : Kd.C k73 w Ar rules.length rules) (hcr : rules.length ≤ cr) (hT : Kd.C k54 w At t.length t) (hct : t.length ≤ ct) (h : normF k gas rules t fu = some r) :
 Calls Try.prog 24 #[.slice Ar rules.length cr, .slice At t.length ct, .int .i64 fu] w fun e w' => ∃ (A : Option Addr) (c : Nat), e = .returned (.tuple #[.slice A r.1.length c, .int .i64 r.2.1, .int .i64 r.2.2]) ∧ r.1.length ≤ c ∧ Kd.F k54 w' (fun k_ => w.heap.size ≤ k_) A r.1.length r.1 ∧ Below w.heap.size w w' := by
 obtain ⟨e1, he1, h⟩ := Option.bind_eq_some_iff.mp h
 have HR := Aside0.mk hR
 have HT := Aside0.mk hT
 have HH0 := Aside0.mk h
 have HBW := Aside0.mk (Below.refl w.heap.size w)
 have T1 := fun (W : World) (hW : Below w.heap.size w W) => rewrite_together.calls k Ar cr rules e1 W (Kd.C_below HR.out hW) hcr he1
 clear hR hT h he1
 by_cases h1 : e1 = 0
 case neg =>
  have hr := HH0.out
  rw [if_neg h1] at hr
  obtain rfl := Option.some.inj hr
  have hb1 : (e1 != 0) = true := bne_iff_ne.mpr h1
  clear hr HH0
  go_enter Try.func24, Try.ntmps24
  go_wp2_with (go_at_call 46; (with_reducible refine (T1 _ ?side1).mono ?_); (case side1 => exact (zq HBW.out)); rintro e w1 ⟨rfl, hb⟩; have HB1 := Aside0.mk (below_step (zq HBW.out) hb); clear hb)
  refine bodyPost_ret (results_tmp3 rfl _ _ _) rfl ?_
  exact ⟨none, 0, rfl, Nat.le_refl _, Kd.F_nil _ _ _, HB1.out⟩
 subst h1
 have hr := HH0.out
 rw [if_pos rfl] at hr
 replace hr := Option.bind_eq_some_iff.mp hr
 obtain ⟨⟨a1, a2, a3, a4, a5⟩, hs, hr⟩ := hr
 have S1 := fun (W : World) (hW : Below w.heap.size w W) => start_calls k At ct t a1 a2 a3 a4 a5 W (Kd.C_below HT.out hW) hct hs
 have HR2 := Aside0.mk hr
 clear hr hs HH0
 by_cases h2 : a5 = 0
 case neg =>
  have hr := HR2.out
  rw [if_neg h2] at hr
  obtain rfl := Option.some.inj hr
  have hb1 : (a5 != 0) = true := bne_iff_ne.mpr h2
  clear hr HR2
  go_enter Try.func24, Try.ntmps24
  go_wp2_with (first | (go_at_call 46; (with_reducible refine (T1 _ ?side1).mono ?_); (case side1 => exact (zq HBW.out)); rintro e w1 ⟨rfl, hb⟩; have HB1 := Aside0.mk (below_step (zq HBW.out) hb); clear hb) | (go_at_call 12; (with_reducible refine (S1 _ ?side2).mono ?_); (case side2 => exact (zq HB1.out)); rintro e w2 ⟨v0, v1, v3, rfl, hE, hb⟩; have HE2 := Aside0.mk hE; obtain ⟨Ao, co, rfl, hco, hCo⟩ := Kd.N_reads hE.1; obtain ⟨Av, cv, rfl, hcv, hCv⟩ := Kd.N_reads hE.2.1; obtain ⟨Ah, ch, rfl⟩ := Kd.R_slice hE.2.2; have HB2 := Aside0.mk (below_step (zq HB1.out) hb); have HBV := Aside0.mk (Below.refl w2.heap.size w2); clear hb hE))
  refine bodyPost_ret (results_tmp3 rfl _ _ _) rfl ?_
  exact ⟨none, 0, rfl, Nat.le_refl _, Kd.F_nil _ _ _, (zq HB2.out)⟩
 subst h2
 have hr := HR2.out
 rw [if_pos rfl] at hr
 replace hr := Option.bind_eq_some_iff.mp hr
 obtain ⟨r1, hrun, hr⟩ := hr
 have HRUN := Aside0.mk hrun
 have HR3 := Aside0.mk hr
 clear hr hrun HR2
 by_cases h3 : r1.1 = 0
 case neg =>
  have hr := HR3.out
  rw [if_neg h3] at hr
  obtain rfl := Option.some.inj hr
  have hb1 : (r1.1 != 0) = true := bne_iff_ne.mpr h3
  clear hr HR3
  go_enter Try.func24, Try.ntmps24
  go_wp2_with (first | (go_at_call 46; (with_reducible refine (T1 _ ?side1).mono ?_); (case side1 => exact (zq HBW.out)); rintro e w1 ⟨rfl, hb⟩; have HB1 := Aside0.mk (below_step (zq HBW.out) hb); clear hb) | (go_at_call 12; (with_reducible refine (S1 _ ?side2).mono ?_); (case side2 => exact (zq HB1.out)); rintro e w2 ⟨v0, v1, v3, rfl, hE, hb⟩; have HE2 := Aside0.mk hE; obtain ⟨Ao, co, rfl, hco, hCo⟩ := Kd.N_reads hE.1; obtain ⟨Av, cv, rfl, hcv, hCv⟩ := Kd.N_reads hE.2.1; obtain ⟨Ah, ch, rfl⟩ := Kd.R_slice hE.2.2; have HB2 := Aside0.mk (below_step (zq HB1.out) hb); have HBV := Aside0.mk (Below.refl w2.heap.size w2); have R1 := fun (W : World) (hW : Below w2.heap.size w2 W) => run_calls (Kd.C_below HR.out (below_step HB2.out hW)) hcr (Kd.C_below hCo hW) hco (Kd.C_below hCv hW) hcv (Kd.C_below (Kd.R_reads' hE.2.2).2.2 hW) (Kd.R_reads' hE.2.2).2.1 HRUN.out; clear hb hE hCo hCv) | (go_at_call 20; (with_reducible refine (R1 _ ?side3).mono ?_); (case side3 => exact (zq HBV.out)); rintro e w3 ⟨⟨u0, u1, u3, rfl, hE3⟩, hb3⟩; obtain ⟨A0', c0', rfl⟩ := Kd.N_slice hE3.1; obtain ⟨A1', c1', rfl⟩ := Kd.N_slice hE3.2.1; obtain ⟨A3', c3', rfl⟩ := Kd.R_slice hE3.2.2; have HE3 := Aside0.mk hE3; have hz := (hb3.block w2.heap.size (by simp)).trans (heap_alloc_new w2 _); have HZ := Aside0.mk hz; obtain ⟨z0, z1, z2, z3, y0, y1, y2, y3⟩ := zcf hz; have HB3 := Aside0.mk (below_step (zq HB2.out) hb3); clear hz hE3 hb3))
  refine bodyPost_ret (results_tmp3 rfl _ _ _) rfl ?_
  exact ⟨none, 0, rfl, Nat.le_refl _, Kd.F_nil _ _ _, set4_below HB3.out HB2.out.size _ _ _ _⟩
 have hr := HR3.out
 rw [if_pos h3] at hr
 by_cases hv : 0 < r1.2.vals.length
 case neg => rw [if_neg hv] at hr; cases hr
 rw [if_pos hv] at hr
 obtain rfl := Option.some.inj hr
 have HVL := Aside0.mk hv
 have hv1 : (0 < r1.2.vals.length) = True := eq_true hv
 have hv2 : ((0 : Int) < (r1.2.vals.length : Int)) = True := eq_true (by omega)
 have hb1 : (r1.1 != 0) = false := by rw [h3]; rfl
 clear hr HR3 hv h3
 go_enter Try.func24, Try.ntmps24
 go_wp2_with (first | (go_at_call 46; (with_reducible refine (T1 _ ?side1).mono ?_); (case side1 => exact (zq HBW.out)); rintro e w1 ⟨rfl, hb⟩; have HB1 := Aside0.mk (below_step (zq HBW.out) hb); clear hb) | (go_at_call 12; (with_reducible refine (S1 _ ?side2).mono ?_); (case side2 => exact (zq HB1.out)); rintro e w2 ⟨v0, v1, v3, rfl, hE, hb⟩; have HE2 := Aside0.mk hE; obtain ⟨Ao, co, rfl, hco, hCo⟩ := Kd.N_reads hE.1; obtain ⟨Av, cv, rfl, hcv, hCv⟩ := Kd.N_reads hE.2.1; obtain ⟨Ah, ch, rfl⟩ := Kd.R_slice hE.2.2; have HB2 := Aside0.mk (below_step (zq HB1.out) hb); have HBV := Aside0.mk (Below.refl w2.heap.size w2); have R1 := fun (W : World) (hW : Below w2.heap.size w2 W) => run_calls (Kd.C_below HR.out (below_step HB2.out hW)) hcr (Kd.C_below hCo hW) hco (Kd.C_below hCv hW) hcv (Kd.C_below (Kd.R_reads' hE.2.2).2.2 hW) (Kd.R_reads' hE.2.2).2.1 HRUN.out; clear hb hE hCo hCv) | (go_at_call 20; (with_reducible refine (R1 _ ?side3).mono ?_); (case side3 => exact (zq HBV.out)); rintro e w3 ⟨⟨u0, u1, u3, rfl, hE3⟩, hb3⟩; obtain ⟨A0', c0', rfl⟩ := Kd.N_slice hE3.1; obtain ⟨A1', c1', rfl⟩ := Kd.N_slice hE3.2.1; obtain ⟨A3', c3', rfl⟩ := Kd.R_slice hE3.2.2; have HE3 := Aside0.mk hE3; have hz := (hb3.block w2.heap.size (by simp)).trans (heap_alloc_new w2 _); have HZ := Aside0.mk hz; obtain ⟨z0, z1, z2, z3, y0, y1, y2, y3⟩ := zcf hz; have HB3 := Aside0.mk (below_step (zq HB2.out) hb3); have hN := set4_N hE3.2.1 (b := w2.heap.size) (fun k hk => by have h_ := hk.1; simp at h_; omega) (.slice A0' r1.2.ops.length c0') (.slice A1' r1.2.vals.length c1') (.int .i64 r1.2.st) (.slice A3' r1.2.hd.length c3'); have hC4 := Kd.N_F hN; obtain ⟨ad, A5, c5, rfl, hx5, hl5, hc5⟩ := at_F3 hC4 0 (by omega) (by have := HVL.out; omega); rw [show ((0 : Int)).toNat = 0 from rfl, Addr.add_zero'] at hx5; have HL5 := Aside0.mk hl5; have HC5 := Aside0.mk hc5; clear hz hE3 hb3 hN hC4 hl5 hc5))
 have hz4 := set4_blk HZ.out (.slice A0' r1.2.ops.length c0') (.slice (some ad) r1.2.vals.length c1') (.int .i64 r1.2.st) (.slice A3' r1.2.hd.length c3')
 have HB4 := Aside0.mk (set4_below HB3.out HB2.out.size (.slice A0' r1.2.ops.length c0') (.slice (some ad) r1.2.vals.length c1') (.int .i64 r1.2.st) (.slice A3' r1.2.hd.length c3'))
 clear z0 z1 z2 z3 y0 y1 y2 y3 HE3 HZ HB3
 generalize ((((w3.setCell ⟨w2.heap.size, 0, none⟩ (.slice A0' r1.2.ops.length c0')).setCell ⟨w2.heap.size, 1, none⟩ (.slice (some ad) r1.2.vals.length c1')).setCell ⟨w2.heap.size, 2, none⟩ (.int .i64 r1.2.st)).setCell ⟨w2.heap.size, 3, none⟩ (.slice A3' r1.2.hd.length c3')) = w4 at hz4 HB4 hx5 HC5 ⊢
 have q1 : w4.cell? ⟨w2.heap.size, 1, none⟩ = some (.slice (some ad) r1.2.vals.length c1') := (blk_cell hz4 1).trans rfl
 have q2 : w4.cell? ⟨w2.heap.size, 2, none⟩ = some (.int .i64 r1.2.st) := (blk_cell hz4 2).trans rfl
 go_region
 all_goals
  go_wp2
  refine bodyPost_ret (results_tmp3 rfl _ _ _) rfl ?_
  exact ⟨A5, c5, rfl, HL5.out, Kd.F_drew (Kd.F_mono HC5.out (fun k_ hk_ => Nat.le_trans HB2.out.size (by have h_ := hk_.1; simp at h_; omega))), below_drew1 HB4.out⟩

-- ==== Rw19
theorem idxF_mono (k : Nat) : ∀ (vals : List (List S54)) (i : Int), LeO (idxF k vals i) (idxF (k + 1) vals i)
 | [], i => LeO.refl _
 | v :: u, i => by
  unfold idxF
  exact LeO.bind (rewrite_ground.mono _ _) fun b => LeO.ite (idxF_mono k u (i + 1)) (LeO.refl _)
theorem hdsF_mono (k : Nat) : ∀ (hd : List ByteArray) (p : Option ByteArray), LeO (hdsF k p hd) (hdsF (k + 1) p hd)
 | [], p => by unfold hdsF; exact LeO.refl _
 | h :: u, p => by
  unfold hdsF
  exact LeO.bind (name_Kind.mono _ _) fun c => LeO.ite (LeO.ite (hdsF_mono k u (some h)) (LeO.refl _)) (LeO.refl _)
theorem mayL_mono (k : Nat) : ∀ (ops : List S70), LeO (mayL k ops) (mayL (k + 1) ops)
 | [] => LeO.refl _
 | o :: u => by
  unfold mayL
  exact LeO.bind (rewrite_may.mono _ _ _ _ _) fun b => LeO.bind (mayL_mono k u) fun l => LeO.refl _
theorem postF_mono (k : Nat) (vals : List (List S54)) (st : Int) (hd : List ByteArray) : ∀ n, LeO (postF k vals st hd n) (postF (k + 1) vals st hd n)
 | none => LeO.refl _
 | some n => by
  unfold postF
  exact LeO.ite (LeO.ite (LeO.refl _) (LeO.bind (idxF_mono k vals 0) fun i => LeO.ite (LeO.refl _) (hdsF_mono k hd none))) (LeO.refl _)
theorem chkF_mono (k : Nat) (ops : List S70) (vals : List (List S54)) (st : Int) (hd : List ByteArray) : LeO (chkF k ops vals st hd) (chkF (k + 1) ops vals st hd) := by
 unfold chkF
 exact LeO.bind (mayL_mono k ops) fun l => postF_mono k vals st hd _
theorem headF_mono (k : Nat) : ∀ (ns hd : List ByteArray), LeO (headF k ns hd) (headF (k + 1) ns hd)
 | [], hd => LeO.refl _
 | x :: r, hd => by
  unfold headF
  exact LeO.bind (slices_BinarySearch_string_string.mono _ _ _) fun b => LeO.ite (headF_mono k r hd) (LeO.ite (headF_mono k r _) (LeO.refl _))
theorem fitsF_mono (k : Nat) (node : List S54) : ∀ (l : List S73), LeO (fitsF k node l) (fitsF (k + 1) node l)
 | [] => LeO.refl _
 | r :: u => by
  unfold fitsF
  exact LeO.ite (LeO.ite (LeO.bind (match_Match.mono _ _ _) fun m => LeO.ite (LeO.refl _) (fitsF_mono k node u)) (fitsF_mono k node u)) (LeO.refl _)
theorem todoN_mono {f g : Int → List S70 → Option (List S70 × Int)} (h : ∀ i out, LeO (f i out) (g i out)) : ∀ (n : Nat) (i : Int) (out : List S70), LeO (todoN f n i out) (todoN g n i out)
 | 0, i, out => LeO.refl _
 | n + 1, i, out => by
  unfold todoN
  exact LeO.bind (h i out) fun r => todoN_mono h n r.2 r.1
theorem todoL_mono (H : ByteArray → List S54) (t : List S54) : ∀ (k : Nat) (i : Int) (out : List S70), LeO (todoL H t k i out) (todoL H t (k + 1) i out)
 | 0, i, out => LeO.none _
 | k + 1, i, out => by
  unfold todoL
  exact LeO.ite (LeO.ite (LeO.refl _) (LeO.ite (LeO.bind (todoN_mono (todoL_mono H t k) _ _ _) fun r => LeO.refl _) (LeO.refl _))) (LeO.refl _)
theorem startF_mono (k : Nat) (t : List S54) : LeO (startF k t) (startF (k + 1) t) := by
 unfold startF
 exact LeO.bind (term_Check.mono _ _) fun e => LeO.ite (LeO.bind (rewrite_ground.mono _ _) fun g => LeO.ite (LeO.bind (todoL_mono _ t k 0 []) fun r => LeO.refl _) (LeO.refl _)) (LeO.refl _)
theorem nodeR_mono (k : Nat) (rules : List S73) (node : List S54) (nm : ByteArray) (args : List (List S54)) (m m0 : Mst) : LeO (nodeR k rules node nm args m m0) (nodeR (k + 1) rules node nm args m m0) := by
 unfold nodeR
 refine LeO.bind (fitsF_mono k node rules) fun res => ?_
 cases res with
 | none => exact LeO.bind (headF_mono k _ _) fun hd => LeO.refl _
 | some rb => exact LeO.ite (LeO.refl _) (LeO.ite (LeO.bind (headF_mono k _ _) fun hd => LeO.bind (todoL_mono _ _ k 0 []) fun r => LeO.refl _) (LeO.refl _))
theorem makeN_mono (k : Nat) (rules : List S73) (nm : ByteArray) (o : S70) (args : List (List S54)) (m : Mst) : LeO (makeN k rules nm o args m) (makeN (k + 1) rules nm o args m) := by
 unfold makeN
 exact LeO.ite (LeO.refl _) (nodeR_mono _ _ _ _ _ _ _)
theorem runL_mono (k : Nat) (rules : List S73) : ∀ (n : Nat) (m : Mst), LeO (runL k rules n m) (runL (k + 1) rules (n + 1) m)
 | 0, m => LeO.none _
 | n + 1, m => by
  rw [runL, runL]
  exact LeO.ite (LeO.refl _) (LeO.ite (LeO.ite (runL_mono k rules n _) (LeO.refl _)) (LeO.ite (LeO.bind (makeN_mono _ _ _ _ _ _) fun r => LeO.ite (runL_mono k rules n _) (LeO.refl _)) (LeO.refl _)))
theorem runF_mono (k : Nat) (rules : List S73) (ops : List S70) (vals : List (List S54)) (st : Int) (hd : List ByteArray) (fu : Int) : LeO (runF k k rules ops vals st hd fu) (runF (k + 1) (k + 1) rules ops vals st hd fu) := by
 unfold runF
 exact LeO.bind (rewrite_together.mono _ _) fun e => LeO.ite (LeO.bind (chkF_mono _ _ _ _ _) fun e => LeO.ite (LeO.bind (rewrite_clone.mono _ _ _ _ _) fun c => runL_mono _ _ _ _) (LeO.refl _)) (LeO.refl _)
theorem normF_mono (k : Nat) (rules : List S73) (t : List S54) (fu : Int) : LeO (normF k k rules t fu) (normF (k + 1) (k + 1) rules t fu) := by
 unfold normF
 exact LeO.bind (rewrite_together.mono _ _) fun e => LeO.ite (LeO.bind (startF_mono _ _) fun s => LeO.ite (LeO.bind (runF_mono _ _ _ _ _ _ _) fun r => LeO.refl _) (LeO.refl _)) (LeO.refl _)
end Go.Proofs.Ytdlkhpfgkghhmaa.P

-- ==== Le
namespace Go.Proofs.Ytdlkhpfgkghhmaa.P
open Go.RowKit Go.Proofs.YtdlkhpfgkghhmaaW.PrintWords
theorem bytesLe : ∀ (a b : List UInt8), (Op.bytesLess a b || a == b) = !Op.bytesLess b a
 | [], [] => by simp [Op.bytesLess]
 | [], b :: y => by simp [Op.bytesLess]
 | a :: x, [] => by simp [Op.bytesLess]
 | a :: x, b :: y => by
  have ih := bytesLe x y
  simp only [Op.bytesLess]
  by_cases h : a = b
  ·
   subst h
   have e : (a :: x == a :: y) = (x == y) := by simp
   rw [e]
   simp only [beq_self_eq_true, Bool.true_and]
   have hl : decide (a < a) = false := decide_eq_false (by simp)
   rw [hl, Bool.false_or, Bool.false_or]
   exact ih
  ·
   have e : (a :: x == b :: y) = false := by simp [h]
   have e1 : (a == b) = false := by simpa using h
   have e2 : (b == a) = false := by simpa using fun q => h q.symm
   rw [e, e1, e2]
   simp only [Bool.false_and, Bool.or_false]
   have hn : a.toNat ≠ b.toNat := fun q => h (UInt8.toNat_inj.1 q)
   by_cases hl : a < b
   ·
    rw [decide_eq_true hl, decide_eq_false (fun q => by have h1 := UInt8.lt_iff_toNat_lt.1 hl; have h2 := UInt8.lt_iff_toNat_lt.1 q; omega)]
    rfl
   ·
    rw [decide_eq_false hl, decide_eq_true (UInt8.lt_iff_toNat_lt.2 (by have h1 : ¬ a.toNat < b.toNat := fun q => hl (UInt8.lt_iff_toNat_lt.2 q); omega))]
    rfl
theorem run_leS (a b : ByteArray) (W : World) : Sem.run Try.prog (binOp BinOp.leq 9 (.string a) (.string b)) W = Result.ok (Value.bool (!(Op.bytesLess b.toList a.toList))) W := by
 simp only [← bytesLe]
 simp [go_sem, binOp, Op.stringOp]
end Go.Proofs.Ytdlkhpfgkghhmaa.P

-- ==== Sb1
namespace Go.Proofs.Ytdlkhpfgkghhmaa.P
open Go.RowKit Go.Proofs.YtdlkhpfgkghhmaaW.PrintWords Go.Proofs.YtdlkhpfgkghhmaaW.PrintLast Go.Proofs.YtdlkhpfgkghhmaaW.PrintMore
attribute [local go_sem] run_leS
theorem toL_inj {a b : ByteArray} (h : a.toList = b.toList) : a = b := by
 rw [ByteArray.toList_eq, ByteArray.toList_eq] at h
 cases a; cases b
 simp only [ByteArray.mk.injEq]
 exact Array.toList_inj.1 h
def lt (a b : ByteArray) : Bool := Op.bytesLess a.toList b.toList
def insS (x : ByteArray) : List ByteArray → List ByteArray
 | [] => [x]
 | y :: r => if lt y x = true then y :: insS x r else if x = y then y :: r else x :: y :: r
theorem len_insS (x : ByteArray) : ∀ (l : List ByteArray), (insS x l).length ≤ l.length + 1
 | [] => by simp [insS]
 | y :: r => by
  have := len_insS x r
  unfold insS
  split
  ·
   simp; omega
  ·
   split <;> simp
theorem join1_calls {A0 A1 : Option Addr} {c0 c1 : Nat} {l : List ByteArray} {x : ByteArray} {w : World} (h0 : Kd.C Kd.string w A0 l.length l) (h1 : Kd.C Kd.string w A1 1 [x]) (hl : l.length < 8796093022200) :
 Calls Try.prog 94 #[.slice A0 l.length c0, .slice A1 1 c1] w fun e w' => ∃ v, e = .returned v ∧ Kd.R Kd.string 9 w' w.heap.size (fun _ => True) v (insS x l) ∧ Below w.heap.size w w' := by
 have H0 := Aside0.mk h0
 have H1 := Aside0.mk h1
 have HL := Aside0.mk hl
 have HM := Aside0.mk (show (l.length : Int) ≤ 9223372036854775807 by omega)
 have HB := Aside0.mk (Below.refl w.heap.size w)
 clear h0 h1 hl
 go_enter Try.func94, Try.ntmps94
 go_wp2
 go_loopg [5, 13] l.length (fun kq v5 v13 w' => ∃ j : Int, v13 = .int .i64 j ∧ Aside0 (0 ≤ j ∧ j + kq = (l.length : Int)) ∧ Aside0 (Kd.R Kd.string 9 w' w.heap.size (fun _ => True) v5 (l.take j.toNat)) ∧ Aside0 (Below w.heap.size w w'))
 case atStart => exact ⟨0, rfl, ⟨by omega⟩, ⟨Kd.R_nil _ _ _ _ _⟩, HB⟩
 case round =>
  clear HB
  obtain ⟨j, rfl, HX, HO, HB⟩ := hrel
  obtain ⟨A5, c5, e5⟩ := Kd.R_slice HO.out
  subst e5
  cases gk with
  | succ k1 =>
   have hi : 0 ≤ j ∧ j < (l.length : Int) := by have := HX.out; omega
   obtain ⟨ad, eA, a0⟩ := Kd.at_string (Kd.C_below H0.out HB.out) j hi.1 hi.2
   subst eA
   have p1 : (0 ≤ j) = True := eq_true hi.1
   have p2 : (j < (l.length : Int)) = True := eq_true hi.2
   have p3 : decide (j < (l.length : Int)) = true := decide_eq_true hi.2
   have hdr : l.take (j.toNat + 1) = l.take j.toNat ++ [rdOf ByteArray.empty l j] := by
    rw [List.take_add_one, List.getElem?_eq_getElem (show j.toNat < l.length by omega)]
    simp [rdOf, List.getD_eq_getElem?_getD, List.getElem?_eq_getElem, show j.toNat < l.length by omega]
   have hlt : (l.take j.toNat).length = j.toNat := by rw [List.length_take]; omega
   have HDR := Aside0.mk hdr
   have HLT := Aside0.mk hlt
   generalize rdOf ByteArray.empty l j = y at a0 HDR
   clear hdr hlt
   go_wp2_with (first | (at_builtin; (with_reducible refine gate_builtin (b := .append) (xs := #[.tmp 16, .tmp 21]) rfl ?_); refine Kd.R_append Kd.string (w0 := w) w.heap.size rfl (.tmp 16) (.tmp 21) 26 9 (.string ⟨#[]⟩) 16 rfl Try.underlying26 info9 rfl (by decide) (by decide) (Value.slice A5 (l.take j.toNat).length c5) (l.take j.toNat) y [.string y] (fun _ => True) (fun _ => False) rfl rfl rfl (fun _ hk => hk.elim) (fun _ _ => trivial) ?aO ?aB ?aS ?aL ?_; (case aO => exact (zr HO.out)); (case aB => exact (zq HB.out)); (case aS => exact (show Below w.heap.size w _ from (zq HB.out)).size); (case aL => have := HL.out; have := HLT.out; omega); intro v2 w4 ho hb hgr hat; have HO2 := Aside0.mk ho; have HB2 := Aside0.mk hb; clear ho hb hgr hat))
   go_roundg k1
   case measure => have := HX.out; omega
   case rel => exact ⟨j + 1, by have e_ : wrap64 (j + 1) = j + 1 := (by have := HX.out; have := HM.out; unfold wrap64; omega); first | rfl | rw [e_] | (simp [e_]; done), ⟨by have := HX.out; omega⟩, ⟨by rw [show (j + 1).toNat = j.toNat + 1 by omega, HDR.out]; exact HO2.out⟩, HB2⟩
  | zero =>
   have hj : j = (l.length : Int) := by have := HX.out; omega
   subst hj
   have p3 : decide ((l.length : Int) < (l.length : Int)) = false := decide_eq_false (by omega)
   have e1 : l.take ((l.length : Nat) : Int).toNat = l := by rw [Int.toNat_natCast, List.take_length]
   have ho := HO.out
   rw [e1] at ho
   have HO1 := Aside0.mk ho
   rw [e1]
   clear ho e1 HO HX
   go_wp2
   go_loopg [5, 26] 1 (fun kq v5 v26 w' => ∃ (j : Int) (y : List ByteArray), v26 = .int .i64 j ∧ Aside0 (0 ≤ j ∧ j + kq = 1) ∧ Aside0 (y = if kq = 1 then l else insS x l) ∧ Aside0 (Kd.R Kd.string 9 w' w.heap.size (fun _ => True) v5 y) ∧ Aside0 (Below w.heap.size w w'))
   case atStart => exact ⟨0, l, rfl, ⟨by omega⟩, ⟨rfl⟩, HO1, HB⟩
   case round =>
    clear HB HO1 p3
    obtain ⟨j, y, rfl, HX, HY, HO, HB⟩ := hrel
    obtain ⟨A6, c6, e6⟩ := Kd.R_slice HO.out
    subst e6
    cases gk with
    | zero =>
     have hj : j = 1 := by have := HX.out; omega
     subst hj
     have hy := HY.out
     rw [if_neg (by omega)] at hy
     subst hy
     go_wp2
     go_ret
     exact ⟨_, rfl, HO.out, HB.out⟩
    | succ k1 =>
     have hk1 : k1 = 0 := by have := HX.out; omega
     subst hk1
     have hj : j = 0 := by have := HX.out; omega
     subst hj
     have hy := HY.out
     rw [if_pos rfl] at hy
     subst hy
     obtain ⟨_, _, hC⟩ := Kd.R_reads' HO.out
     have HC := Aside0.mk hC
     have HC1 := Aside0.mk (Kd.C_below H1.out HB.out)
     have HBW := Aside0.mk (Below.refl wr.heap.size wr)
     clear hC HO HX HY
     have HS := Aside0.mk HB.out
     clear HB
     rename World => W2
     go_wp2
     go_loopg [8, 9, 31] y.length (fun kq v8 v9 v31 w' => ∃ (j : Int) (b : Bool) (z : List ByteArray), v9 = .bool b ∧ v31 = .int .i64 j ∧ Aside0 (0 ≤ j ∧ j + kq = (y.length : Int) ∧ z.length ≤ j + 1) ∧ Aside0 (b = false → (z.length : Int) ≤ j) ∧ Aside0 (z ++ (if b = true then y.drop j.toNat else insS x (y.drop j.toNat)) = insS x y) ∧ Aside0 (Kd.R Kd.string 9 w' W2.heap.size (fun _ => True) v8 z) ∧ Aside0 (Below W2.heap.size W2 w'))
     case atStart => exact ⟨0, false, [], rfl, rfl, ⟨by simp⟩, ⟨fun _ => by simp⟩, ⟨by simp⟩, ⟨Kd.R_nil _ _ _ _ _⟩, HBW⟩
     case round =>
      clear HBW
      obtain ⟨j, b, z, rfl, rfl, HX, HW, HZ, HO, HB⟩ := hrel
      obtain ⟨A8, c8, e8⟩ := Kd.R_slice HO.out
      subst e8
      have hl := HL.out
      cases gk with
      | succ k1 =>
       have hi : 0 ≤ j ∧ j < (y.length : Int) := by have := HX.out; omega
       obtain ⟨ad, eA, hq2⟩ := Kd.at_string HC.out j hi.1 hi.2
       obtain ⟨bd, eB, b0⟩ := Kd.at_string (Kd.C_below HC1.out HB.out) 0 (by omega) (by simp)
       subst eA eB
       have b1 : wr.cell? bd = some (.string x) := by have h := b0; simpa [rdOf, Addr.add] using h
       have hdr : y.drop j.toNat = rdOf ByteArray.empty y j :: y.drop (j.toNat + 1) := by
        rw [List.drop_eq_getElem_cons (show j.toNat < y.length by omega)]
        congr 1
        simp [rdOf, List.getD_eq_getElem?_getD, show j.toNat < y.length by omega]
       have p1 : (0 ≤ j) = True := eq_true hi.1
       have p2 : (j < (y.length : Int)) = True := eq_true hi.2
       have p3 : decide (j < (y.length : Int)) = true := decide_eq_true hi.2
       have hz := HZ.out
       rw [hdr] at hz
       generalize rdOf ByteArray.empty y j = q at hq2 hz
       have a0 := pw_cell_below HB.out hq2
       have HQ := Aside0.mk hq2
       clear hq2
       go_upto_region 15 with fail
       cases b with
       | true =>
        rw [if_pos rfl] at hz
        go_quiet (fail)
        go_wp2_with (first | (at_builtin; (with_reducible refine gate_builtin (b := .append) (xs := #[.tmp 63, .tmp 68]) rfl ?_); refine Kd.R_append Kd.string (w0 := W2) W2.heap.size rfl (.tmp 63) (.tmp 68) 26 9 (.string ⟨#[]⟩) 16 rfl Try.underlying26 info9 rfl (by decide) (by decide) (Value.slice A8 z.length c8) z q [.string q] (fun _ => True) (fun _ => False) rfl rfl rfl (fun _ hk => hk.elim) (fun _ _ => trivial) ?aO ?aB ?aS ?aL ?_; (case aO => exact (zr HO.out)); (case aB => exact (zq HB.out)); (case aS => exact (show Below W2.heap.size W2 _ from (zq HB.out)).size); (case aL => have := HL.out; have := HX.out; omega); intro v4 w4 ho hb hgr hat; have HO2 := Aside0.mk ho; have HB2 := Aside0.mk hb; clear ho hb hgr hat))
        go_roundg k1
        case measure => have := HX.out; omega
        case rel => exact ⟨j + 1, true, z ++ [q], rfl, by have e_ : wrap64 (j + 1) = j + 1 := (by have := HX.out; have := HM.out; unfold wrap64; omega); first | rfl | rw [e_] | (simp [e_]; done), ⟨by have := HX.out; (try have := HW.out (by first | rfl | trivial)); simp only [List.length_append, List.length_singleton]; omega⟩, ⟨fun h => by first | (cases h; done) | (have := HW.out (by first | rfl | trivial); simp only [List.length_append, List.length_singleton]; omega)⟩, ⟨by rw [show (j + 1).toNat = j.toNat + 1 by omega]; rw [if_pos rfl, List.append_assoc]; exact hz⟩, HO2, HB2⟩
       | false =>
        rw [if_neg (by decide), insS] at hz
        have hb1 : lt q x = Op.bytesLess q.toList x.toList := rfl
        by_cases c1 : lt q x = true
        ·
         rw [if_pos c1] at hz
         rw [c1] at hb1
         have d1 : (!Op.bytesLess q.toList x.toList) = false := by rw [← hb1]; rfl
         clear hb1
         go_quiet (fail)
         go_wp2_with (first | (at_builtin; (with_reducible refine gate_builtin (b := .append) (xs := #[.tmp 63, .tmp 68]) rfl ?_); refine Kd.R_append Kd.string (w0 := W2) W2.heap.size rfl (.tmp 63) (.tmp 68) 26 9 (.string ⟨#[]⟩) 16 rfl Try.underlying26 info9 rfl (by decide) (by decide) (Value.slice A8 z.length c8) z q [.string q] (fun _ => True) (fun _ => False) rfl rfl rfl (fun _ hk => hk.elim) (fun _ _ => trivial) ?aO ?aB ?aS ?aL ?_; (case aO => exact (zr HO.out)); (case aB => exact (zq HB.out)); (case aS => exact (show Below W2.heap.size W2 _ from (zq HB.out)).size); (case aL => have := HL.out; have := HX.out; omega); intro v4 w4 ho hb hgr hat; have HO2 := Aside0.mk ho; have HB2 := Aside0.mk hb; clear ho hb hgr hat))
         go_roundg k1
         case measure => have := HX.out; omega
         case rel => exact ⟨j + 1, false, z ++ [q], rfl, by have e_ : wrap64 (j + 1) = j + 1 := (by have := HX.out; have := HM.out; unfold wrap64; omega); first | rfl | rw [e_] | (simp [e_]; done), ⟨by have := HX.out; (try have := HW.out (by first | rfl | trivial)); simp only [List.length_append, List.length_singleton]; omega⟩, ⟨fun h => by first | (cases h; done) | (have := HW.out (by first | rfl | trivial); simp only [List.length_append, List.length_singleton]; omega)⟩, ⟨by rw [show (j + 1).toNat = j.toNat + 1 by omega]; rw [if_neg (by decide), List.append_assoc]; exact hz⟩, HO2, HB2⟩
        ·
         rw [if_neg c1] at hz
         rw [Bool.eq_false_iff.mpr c1] at hb1
         have d1 : (!Op.bytesLess q.toList x.toList) = true := by rw [← hb1]; rfl
         clear hb1
         by_cases c2 : x = q
         ·
          rw [if_pos c2] at hz
          subst c2
          have d2 : (x.toList != x.toList) = false := bne_self_eq_false _
          go_quiet (fail)
          go_wp2
          go_quiet (fail)
          go_wp2_with (first | (at_builtin; (with_reducible refine gate_builtin (b := .append) (xs := #[.tmp 63, .tmp 68]) rfl ?_); refine Kd.R_append Kd.string (w0 := W2) W2.heap.size rfl (.tmp 63) (.tmp 68) 26 9 (.string ⟨#[]⟩) 16 rfl Try.underlying26 info9 rfl (by decide) (by decide) (Value.slice A8 z.length c8) z x [.string x] (fun _ => True) (fun _ => False) rfl rfl rfl (fun _ hk => hk.elim) (fun _ _ => trivial) ?aO ?aB ?aS ?aL ?_; (case aO => exact (zr HO.out)); (case aB => exact (zq HB.out)); (case aS => exact (show Below W2.heap.size W2 _ from (zq HB.out)).size); (case aL => have := HL.out; have := HX.out; omega); intro v4 w4 ho hb hgr hat; have HO2 := Aside0.mk ho; have HB2 := Aside0.mk hb; clear ho hb hgr hat))
          go_roundg k1
          case measure => have := HX.out; omega
          case rel => exact ⟨j + 1, true, z ++ [x], rfl, by have e_ : wrap64 (j + 1) = j + 1 := (by have := HX.out; have := HM.out; unfold wrap64; omega); first | rfl | rw [e_] | (simp [e_]; done), ⟨by have := HX.out; (try have := HW.out (by first | rfl | trivial)); simp only [List.length_append, List.length_singleton]; omega⟩, ⟨fun h => by first | (cases h; done) | (have := HW.out (by first | rfl | trivial); simp only [List.length_append, List.length_singleton]; omega)⟩, ⟨by rw [show (j + 1).toNat = j.toNat + 1 by omega]; rw [if_pos rfl, List.append_assoc]; exact hz⟩, HO2, HB2⟩
         ·
          rw [if_neg c2] at hz
          have d2 : (x.toList == q.toList) = false := beq_eq_false_iff_ne.mpr (fun h => c2 (toL_inj h))
          go_quiet (fail)
          go_wp2
          go_quiet (fail)
          go_wp2_with (first | (at_builtin; (with_reducible refine gate_builtin (b := .append) (xs := #[.tmp 56, .tmp 61]) rfl ?_); refine Kd.R_append Kd.string (w0 := W2) W2.heap.size rfl (.tmp 56) (.tmp 61) 26 9 (.string ⟨#[]⟩) 16 rfl Try.underlying26 info9 rfl (by decide) (by decide) (Value.slice A8 z.length c8) z x [.string x] (fun _ => True) (fun _ => False) rfl rfl rfl (fun _ hk => hk.elim) (fun _ _ => trivial) ?aO ?aB ?aS ?aL ?_; (case aO => exact (zr HO.out)); (case aB => exact (zq HB.out)); (case aS => exact (show Below W2.heap.size W2 _ from (zq HB.out)).size); (case aL => have := HL.out; have := HX.out; omega); intro v4 w4 ho hb hgr hat; have HO3 := Aside0.mk ho; have HB3 := Aside0.mk hb; clear ho hb hgr hat; have a4 := pw_cell_below HB3.out HQ.out) | (at_builtin; (with_reducible refine gate_builtin (b := .append) (xs := #[.tmp 63, .tmp 68]) rfl ?_); refine Kd.R_append Kd.string (w0 := W2) W2.heap.size rfl (.tmp 63) (.tmp 68) 26 9 (.string ⟨#[]⟩) 16 rfl Try.underlying26 info9 rfl (by decide) (by decide) v4 (z ++ [x]) q [.string q] (fun _ => True) (fun _ => False) rfl rfl rfl (fun _ hk => hk.elim) (fun _ _ => trivial) ?aO ?aB ?aS ?aL ?_; (case aO => exact (zr HO3.out)); (case aB => exact (zq HB3.out)); (case aS => exact (show Below W2.heap.size W2 _ from (zq HB3.out)).size); (case aL => have := HL.out; have := HX.out; simp only [List.length_append, List.length_singleton]; omega); intro v4 w4 ho hb hgr hat; have HO2 := Aside0.mk ho; have HB2 := Aside0.mk hb; clear ho hb hgr hat))
          go_roundg k1
          case measure => have := HX.out; omega
          case rel => exact ⟨j + 1, true, z ++ [x] ++ [q], rfl, by have e_ : wrap64 (j + 1) = j + 1 := (by have := HX.out; have := HM.out; unfold wrap64; omega); first | rfl | rw [e_] | (simp [e_]; done), ⟨by have := HX.out; (try have := HW.out (by first | rfl | trivial)); simp only [List.length_append, List.length_singleton]; omega⟩, ⟨fun h => by first | (cases h; done) | (have := HW.out (by first | rfl | trivial); simp only [List.length_append, List.length_singleton]; omega)⟩, ⟨by rw [show (j + 1).toNat = j.toNat + 1 by omega]; rw [if_pos rfl, List.append_assoc, List.append_assoc]; exact hz⟩, HO2, HB2⟩
      | zero =>
       have hj : j = (y.length : Int) := by have := HX.out; omega
       subst hj
       have p3 : decide ((y.length : Int) < (y.length : Int)) = false := decide_eq_false (by omega)
       have hz := HZ.out
       rw [Int.toNat_natCast, List.drop_length] at hz
       have e1 := below_trB HS.out (below_less HB.out HS.out.size)
       cases b with
       | true =>
        rw [if_pos rfl, List.append_nil] at hz
        go_wp2
        go_roundg 0
        case measure => omega
        case rel =>
         subst hz
         exact ⟨1, _, rfl, ⟨by omega⟩, ⟨by rw [if_neg (by omega)]⟩, ⟨Kd.R_lower HO.out HS.out.size⟩, ⟨e1⟩⟩
       | false =>
        rw [if_neg (by decide), insS] at hz
        obtain ⟨bd, eB, b0⟩ := Kd.at_string (Kd.C_below HC1.out HB.out) 0 (by omega) (by simp)
        subst eB
        have b1 : wr.cell? bd = some (.string x) := by have h := b0; simpa [rdOf, Addr.add] using h
        go_wp2_with (first | (at_builtin; (with_reducible refine gate_builtin (b := .append) (xs := #[.tmp 73, .tmp 78]) rfl ?_); refine Kd.R_append Kd.string (w0 := W2) W2.heap.size rfl (.tmp 73) (.tmp 78) 26 9 (.string ⟨#[]⟩) 16 rfl Try.underlying26 info9 rfl (by decide) (by decide) (Value.slice A8 z.length c8) z x [.string x] (fun _ => True) (fun _ => False) rfl rfl rfl (fun _ hk => hk.elim) (fun _ _ => trivial) ?aO ?aB ?aS ?aL ?_; (case aO => exact (zr HO.out)); (case aB => exact (zq HB.out)); (case aS => exact (show Below W2.heap.size W2 _ from (zq HB.out)).size); (case aL => have := HL.out; have := HX.out; omega); intro v4 w4 ho hb hgr hat; have HO2 := Aside0.mk ho; have HB2 := Aside0.mk hb; clear ho hb hgr hat))
        go_roundg 0
        case measure => omega
        case rel => exact ⟨1, z ++ [x], rfl, ⟨by omega⟩, ⟨by rw [if_neg (by omega)]; exact hz⟩, ⟨Kd.R_lower HO2.out HS.out.size⟩, ⟨below_trB HS.out (below_less HB2.out HS.out.size)⟩⟩
end Go.Proofs.Ytdlkhpfgkghhmaa.P

-- ==== Sb2
namespace Go.Proofs.Ytdlkhpfgkghhmaa.P
open Go.RowKit Go.Proofs.YtdlkhpfgkghhmaaW.PrintWords Go.Proofs.YtdlkhpfgkghhmaaW.PrintLast Go.Proofs.YtdlkhpfgkghhmaaW.PrintMore
abbrev R6 := List S70 × List (List S54) × Int × List ByteArray × Int × Int
def oneE (k : Nat) (rules : List S73) (rest : List S70) (left : List (List S54)) (st : Int) (hd : List ByteArray) (fu : Int) (j : Int) (b : List S104) : Option R6 :=
 if 0 ≤ j ∧ j < (rules.length : Int) then (aumbryref07_Todo.f k (rd_T73 rules j).f2 b).bind fun t => if rest.length + t.length < 2513169434900 then some (rest ++ t.reverse, left, wrap64 (st + 1), hd, wrap64 (fu - 1), 0) else none else none
def oneD (k : Nat) (rules : List S73) (ops : List S70) (vals left : List (List S54)) (st : Int) (hd : List ByteArray) (fu : Int) (node : List S54) (nm : ByteArray) : Option R6 :=
 (aumbryref07_First.f k rules node).bind fun bt => if bt.1 < 0 then (if left.length < 5864062014804 then some (ops.take (ops.length - 1), left ++ [node], st, insS nm hd, fu, 0) else none) else if fu ≤ 0 then some (ops, vals, st, hd, fu, 14) else oneE k rules (ops.take (ops.length - 1)) left st (insS nm hd) fu bt.1 bt.2
def oneC (k : Nat) (rules : List S73) (ops : List S70) (vals : List (List S54)) (st : Int) (hd : List ByteArray) (fu : Int) (c : S54) (n : Nat) (node : List S54) : Option R6 :=
 if 0 ≤ c.f1 ∧ c.f1 ≤ (vals.length : Int) ∧ node.length < 5864062014804 then (if (node.length : Int) > 64 then some (ops, vals, st, hd, fu, 6) else (aumbryref04_CopyAll.f k (vals.take n)).bind fun left => oneD k rules ops vals left st hd fu node c.f0) else none
def oneB (k : Nat) (rules : List S73) (ops : List S70) (vals : List (List S54)) (st : Int) (hd : List ByteArray) (fu : Int) (o : S70) : Option R6 :=
 if o.f0 = 2 then (aumbryref04_CopyAll.f k vals).bind fun t => if t.length < 5864062014804 then some (ops.take (ops.length - 1), t ++ [o.f2], st, hd, fu, 0) else none
 else oneC k rules ops vals st hd fu o.f1 (vals.length - o.f1.f1.toNat) (o.f1 :: (vals.drop (vals.length - o.f1.f1.toNat)).flatten)
def oneF (k : Nat) (rules : List S73) (ops : List S70) (vals : List (List S54)) (st : Int) (hd : List ByteArray) (fu : Int) : Option R6 :=
 if 0 < ops.length ∧ vals.length < 5864062014804 ∧ hd.length < 8796093022200 then oneB k rules ops vals st hd fu (rd_T70 ops ((ops.length : Int) - 1)) else none
theorem FK_term {W : World} {ok : Nat → Prop} {A : Option Addr} {c : Nat} {t : List S54} (h : Kd.F k54 W ok A t.length t) (hc : t.length ≤ c) : Kd.FK (Kd.slice 54 k54) W ok t [.slice A t.length c] := fun W' hW => ⟨A, c, rfl, hc, h W' hW⟩
theorem okfresh {W0 W : World} {P : Nat → Prop} {b k n : Nat} (h : Below W0.heap.size W0 W) (hb : b < W0.heap.size ∧ n ≤ W0.heap.size) (hk : W.heap.size ≤ k) : (P k ∨ n ≤ k) ∧ k ≠ b := by have := h.size; exact ⟨.inr (by omega), by omega⟩
theorem below_sz {W0 W W2 : World} (h : Below W0.heap.size W0 W) (_ : Below W.heap.size W W2) : W0.heap.size ≤ W.heap.size := h.size
theorem C_one9 {W : World} {g : Nat} {x : ByteArray} (hg : W.heap[g]? = some (.cells #[.string x] 9 (0, 0))) : Kd.C Kd.string W (some ⟨g, 0, none⟩) 1 [x] := by
 refine ⟨rfl, by omega, fun _ => ⟨_, rfl, fun j p hj => ?_⟩⟩
 match j, hj with
 | 0, hj =>
  obtain rfl := Option.some.inj hj
  refine ⟨[.string x], rfl, rfl, fun i u hi => ?_⟩
  match i, hi with
  | 0, hi => exact (blk_cell hg 0).trans hi
  | i + 1, hi => simp at hi
 | j + 1, hj => simp at hj
theorem F_one {W : World} {ok : Nat → Prop} {g c : Nat} {A : Option Addr} {t : List S54} (hg : W.heap[g]? = some (.cells #[.slice A t.length c] 23 (0, 0))) (hok : ok g) (hf : Kd.FK (Kd.slice 54 k54) W ok t [.slice A t.length c]) : Kd.F (Kd.slice 54 k54) W ok (some ⟨g, 0, none⟩) 1 [t] := fun W' hW => by
 have hg' := (hW g hok (blk_lt hg)).trans hg
 refine ⟨rfl, by omega, fun _ => ⟨_, rfl, fun j p hj => ?_⟩⟩
 match j, hj with
 | 0, hj =>
  obtain rfl := Option.some.inj hj
  refine ⟨[.slice A t.length c], rfl, hf W' hW, fun i u hi => ?_⟩
  match i, hi with
  | 0, hi => exact (blk_cell hg' 0).trans hi
  | i + 1, hi => simp at hi
 | j + 1, hj => simp at hj
theorem stF_set4 {W : World} {Q : Nat → Prop} {b co cv ch n0 n1 n3 : Nat} {Ao Av Ah : Option Addr} {ops : List S70} {vals : List (List S54)} {st : Int} {hd : List ByteArray} (h0 : Kd.F k70 W (fun k => Q k ∧ k ≠ b) Ao ops.length ops) (c0 : ops.length ≤ co) (h1 : Kd.F (Kd.slice 54 k54) W (fun k => Q k ∧ k ≠ b) Av vals.length vals) (c1 : vals.length ≤ cv) (h3 : Kd.F Kd.string W (fun k => Q k ∧ k ≠ b) Ah hd.length hd) (c3 : hd.length ≤ ch) (e0 : n0 = ops.length) (e1 : n1 = vals.length) (e3 : n3 = hd.length) (b1 b2 b3 b4 : Value) :
 StF ((((W.setCell ⟨b, 0, none⟩ b1).setCell ⟨b, 1, none⟩ b2).setCell ⟨b, 2, none⟩ b3).setCell ⟨b, 3, none⟩ b4) Q (.agg #[.slice Ao n0 co, .slice Av n1 cv, .int .i64 st, .slice Ah n3 ch]) ops vals st hd := by
 subst e0 e1 e3
 have K : ∀ k, Q k ∧ k ≠ b → k < W.heap.size → ((((W.setCell ⟨b, 0, none⟩ b1).setCell ⟨b, 1, none⟩ b2).setCell ⟨b, 2, none⟩ b3).setCell ⟨b, 3, none⟩ b4).heap[k]? = W.heap[k]? := fun k hq _ => by
  have hk := hq.2
  exact
  (Below.heap_setCell _ _ _ k hk).trans ((Below.heap_setCell _ _ _ k hk).trans ((Below.heap_setCell _ _ _ k hk).trans (Below.heap_setCell _ _ _ k hk)))
 exact ⟨_, _, _, _, _, _, rfl, Kd.F_mono (Kd.F_step h0 K) (fun _ hk => hk.1), c0, Kd.F_mono (Kd.F_step h1 K) (fun _ hk => hk.1), c1, Kd.F_mono (Kd.F_step h3 K) (fun _ hk => hk.1), c3⟩
theorem one_calls {k c0 : Nat} {P : Nat → Prop} {A0 : Option Addr} {rules : List S73} {v : Value} {ops ops' : List S70} {vals vals' : List (List S54)} {st st' fu fu' e' : Int} {hd hd' : List ByteArray} {w : World}
 (hR : Kd.C k73 w A0 rules.length rules) (hc0 : rules.length ≤ c0) (hS : StF w P v ops vals st hd) (h : oneF k rules ops vals st hd fu = some (ops', vals', st', hd', fu', e')) :
 Calls Try.prog 77 #[.slice A0 rules.length c0, v, .int .i64 fu, .slice none 0 0] w fun e w' => ∃ v', e = .returned (.tuple #[v', .int .i64 fu', .int .i64 e']) ∧ StF w' (fun k => P k ∨ w.heap.size ≤ k) v' ops' vals' st' hd' ∧ Below w.heap.size w w' := by
 unfold oneF at h
 by_cases hg : 0 < ops.length ∧ vals.length < 5864062014804 ∧ hd.length < 8796093022200
 case neg => rw [if_neg hg] at h; cases h
 rw [if_pos hg] at h
 obtain ⟨Ao, co, Av, cv, Ah, ch, rfl, hOF, hco, hVF, hcv, hHF, hch⟩ := hS
 have hO := Kd.F_now hOF
 have hV := Kd.F_now hVF
 have hH := Kd.F_now hHF
 replace hOF := Kd.F_bound hOF
 replace hVF := Kd.F_bound hVF
 replace hHF := Kd.F_bound hHF
 have HR := Aside0.mk hR
 have HC0 := Aside0.mk hc0
 have HO := Aside0.mk hO
 have HV := Aside0.mk hV
 have HH := Aside0.mk hH
 have HG := Aside0.mk hg
 have HOF := Aside0.mk hOF
 have HVF := Aside0.mk hVF
 have HHF := Aside0.mk hHF
 have HCV := Aside0.mk hcv
 have HCO := Aside0.mk (show (ops.take (ops.length - 1)).length ≤ co ∧ hd.length ≤ ch from ⟨by rw [List.length_take]; omega, hch⟩)
 have HCF := Aside0.mk hco
 obtain ⟨N, hN⟩ : ∃ N, N = ops.length := ⟨_, rfl⟩
 have hNb := hO.2.1
 obtain ⟨i70, hi70, _, hs70, _⟩ := info_parts info70
 obtain ⟨J, hJ⟩ : ∃ J : Int, J = (N : Int) - 1 := ⟨_, rfl⟩
 have hcutO := cut_to (P := Try.prog) 24 70 .i64 Try.underlying24 hi70 Ao N co J (by omega) (by omega) (by omega)
 have hw0 : IntKind.i64.wrap ((N : Int) - 1) = J := by rw [hJ]; exact IntWalk.i64_in _ (by omega)
 have hta : (ops.take (ops.length - 1)).length = J.toNat := by rw [List.length_take]; omega
 have HOT := Aside0.mk (Kd.F_take (m := ops.length - 1) hOF (by omega))
 rw [hta] at HOT
 obtain ⟨ad, A3, c3, eA, a0, a1, a2, a3, al, ag⟩ := at_F70 hOF J (by omega) (by omega)
 subst eA
 have HAG := Aside0.mk ag
 have HAL := Aside0.mk al
 rw [show (ops.length : Int) - 1 = J by omega] at h
 generalize rd_T70 ops J = o at a0 a1 a2 a3 HAG HAL h
 have hbb := below_alloc (below_alloc (Below.refl w.heap.size w) (.cells #[.slice (some ad) N co, .slice Av vals.length cv, .int .i64 st, .slice Ah hd.length ch] 28)) (.cells #[.slice none 0 0, .slice none 0 0, .int .i64 0, .slice none 0 0] 28)
 replace a0 := pw_cell_below hbb a0
 replace a1 := pw_cell_below hbb a1
 replace a2 := pw_cell_below hbb a2
 replace a3 := pw_cell_below hbb a3
 have p1 : (0 ≤ J) = True := eq_true (by omega)
 have p2 : (J < (N : Int)) = True := eq_true (by omega)
 rw [← hN]
 have HN := Aside0.mk (And.intro hN hJ)
 rw [← hN] at HO HOF
 clear hN hJ hg hta hO hco hV hcv hH hch hR hc0 al ag hNb hOF hVF hHF
 go_enter Try.func77, Try.ntmps77
 go_upto_region 3 with fail
 have hbc := below_alloc hbb (.cells #[.int .i64 o.f0, .string o.f1.f0, .int .i64 o.f1.f1, .slice A3 o.f2.length c3] 70)
 have Z0 := Aside0.mk (show (((w.alloc (.cells #[.slice (some ad) N co, .slice Av vals.length cv, .int .i64 st, .slice Ah hd.length ch] 28)).alloc (.cells #[.slice none 0 0, .slice none 0 0, .int .i64 0, .slice none 0 0] 28)).alloc (.cells #[.int .i64 o.f0, .string o.f1.f0, .int .i64 o.f1.f1, .slice A3 o.f2.length c3] 70)).heap[w.heap.size]? = some (.cells #[.slice (some ad) N co, .slice Av vals.length cv, .int .i64 st, .slice Ah hd.length ch] 28 (0, 0)) from ((below_alloc (below_alloc (Below.refl _ _) _) _).block _ (by simp)).trans (heap_alloc_new w _))
 have Z1 := Aside0.mk (show (((w.alloc (.cells #[.slice (some ad) N co, .slice Av vals.length cv, .int .i64 st, .slice Ah hd.length ch] 28)).alloc (.cells #[.slice none 0 0, .slice none 0 0, .int .i64 0, .slice none 0 0] 28)).alloc (.cells #[.int .i64 o.f0, .string o.f1.f0, .int .i64 o.f1.f1, .slice A3 o.f2.length c3] 70)).heap[w.heap.size + 1]? = some (.cells #[.slice none 0 0, .slice none 0 0, .int .i64 0, .slice none 0 0] 28 (0, 0)) from ((below_alloc (Below.refl _ _) _).block _ (by simp)).trans (by simpa using heap_alloc_new (w.alloc _) _))
 have Z2 := Aside0.mk (show (((w.alloc (.cells #[.slice (some ad) N co, .slice Av vals.length cv, .int .i64 st, .slice Ah hd.length ch] 28)).alloc (.cells #[.slice none 0 0, .slice none 0 0, .int .i64 0, .slice none 0 0] 28)).alloc (.cells #[.int .i64 o.f0, .string o.f1.f0, .int .i64 o.f1.f1, .slice A3 o.f2.length c3] 70)).heap[w.heap.size + 2]? = some (.cells #[.int .i64 o.f0, .string o.f1.f0, .int .i64 o.f1.f1, .slice A3 o.f2.length c3] 70 (0, 0)) from by simpa using heap_alloc_new ((w.alloc _).alloc _) _)
 have HB := Aside0.mk hbc
 have HV0 := Aside0.mk (Kd.C_below HV.out hbc)
 have HO0 := Aside0.mk (Kd.F_mono (Kd.F_below HOT.out hbc) (fun k hk => show (P k ∨ w.heap.size ≤ k) ∧ k ≠ w.heap.size + 1 from ⟨.inl hk.1, by omega⟩))
 have HH0 := Aside0.mk (Kd.F_mono (Kd.F_below HHF.out hbc) (fun k hk => show (P k ∨ w.heap.size ≤ k) ∧ k ≠ w.heap.size + 1 from ⟨.inl hk.1, by omega⟩))
 have HF0 := Aside0.mk (Kd.F_below HAG.out hbc)
 have HOF0 := Aside0.mk (Kd.F_below HOF.out hbc)
 have HVF0 := Aside0.mk (Kd.F_below HVF.out hbc)
 have HOT0 := Aside0.mk (Kd.F_below HOT.out hbc)
 have HH1 := Aside0.mk (Kd.C_below HH.out hbc)
 have HR0 := Aside0.mk (Kd.C_below HR.out hbc)
 clear hbb hbc a0 a1 a2 a3 p1 p2 hcutO hw0 HV HAG HOT
 rw [show w.heap.size + 1 + 1 = w.heap.size + 2 from rfl]
 obtain ⟨b1, hb1⟩ : ∃ b, b = w.heap.size + 1 := ⟨_, rfl⟩
 obtain ⟨b2, hb2⟩ : ∃ b, b = w.heap.size + 2 := ⟨_, rfl⟩
 rw [← hb1] at Z1 HO0 HH0 ⊢
 rw [← hb2] at Z2 ⊢
 have HE := Aside0.mk (And.intro hb1 hb2)
 clear hb1 hb2
 generalize (((w.alloc (.cells #[.slice (some ad) N co, .slice Av vals.length cv, .int .i64 st, .slice Ah hd.length ch] 28)).alloc (.cells #[.slice none 0 0, .slice none 0 0, .int .i64 0, .slice none 0 0] 28)).alloc (.cells #[.int .i64 o.f0, .string o.f1.f0, .int .i64 o.f1.f1, .slice A3 o.f2.length c3] 70)) = W0 at Z0 Z1 Z2 HB HV0 HO0 HH0 HF0 HOF0 HVF0 HOT0 HH1 HR0 ⊢
 have y0 : W0.cell? ⟨b2, 0, none⟩ = some (.int .i64 o.f0) := (blk_cell Z2.out 0).trans rfl
 unfold oneB at h
 by_cases c1 : o.f0 = 2
 ·
  rw [if_pos c1] at h
  obtain ⟨t, ht, h⟩ := Option.bind_eq_some_iff.mp h
  by_cases c2 : t.length < 5864062014804
  case neg => rw [if_neg c2] at h; cases h
  rw [if_pos c2] at h
  simp only [Option.some.injEq, Prod.mk.injEq] at h
  obtain ⟨rfl, rfl, rfl, rfl, rfl, rfl⟩ := h
  have d1 : (o.f0 == 2) = true := beq_iff_eq.mpr c1
  have C1 := fun (W : World) (hW : Below W0.heap.size W0 W) => aumbryref04_CopyAll.calls k Av cv vals t W (Kd.C_below HV0.out hW) HCV.out ht
  have HT := Aside0.mk c2
  have HX := Aside0.mk (Below.refl W0.heap.size W0)
  clear c1 c2 ht
  have x1 : W0.cell? ⟨w.heap.size, 1, none⟩ = some (.slice Av vals.length cv) := (blk_cell Z0.out 1).trans rfl
  have x2 : W0.cell? ⟨w.heap.size, 2, none⟩ = some (.int .i64 st) := (blk_cell Z0.out 2).trans rfl
  have x3 : W0.cell? ⟨w.heap.size, 3, none⟩ = some (.slice Ah hd.length ch) := (blk_cell Z0.out 3).trans rfl
  have y3 : W0.cell? ⟨b2, 3, none⟩ = some (.slice A3 o.f2.length c3) := (blk_cell Z2.out 3).trans rfl
  go_upto_region 4 with fail
  have hne : w.heap.size ≠ b1 := by have := HE.out; omega
  have hne2 : b2 ≠ b1 := by have := HE.out; omega
  have hne3 : b1 ≠ w.heap.size := by have := HE.out; omega
  have hne4 : b1 ≠ b2 := by have := HE.out; omega
  have HSZ := Aside0.mk (show b1 < W0.heap.size ∧ w.heap.size ≤ W0.heap.size from ⟨blk_lt Z1.out, HB.out.size⟩)
  go_region_held3 (fun w' => w'.cell? ⟨w.heap.size, 1, none⟩ = some (.slice Av vals.length cv) ∧ w'.cell? ⟨w.heap.size, 2, none⟩ = some (.int .i64 st) ∧ w'.cell? ⟨w.heap.size, 3, none⟩ = some (.slice Ah hd.length ch) ∧ w'.cell? ⟨b2, 3, none⟩ = some (.slice A3 o.f2.length c3)) (first | go_keep | (go_split_ands; refine ⟨?_, ?_, ?_, ?_⟩ <;> assumption)) (first | (go_at_call 44; (with_reducible refine (C1 _ ?side1).mono ?_); (case side1 => exact (zq HX.out)); rintro e w5 ⟨v5, rfl, hS, hb⟩; have n0_ := Aside0.mk (below_step (zq HX.out) hb); (try have HZ := Aside0.mk ((hb.block W0.heap.size (by simp)).trans (heap_alloc_new W0.drew _))); have HOB := Aside0.mk (Kd.N_base (Kd.S_N hS)); have HOL := Aside0.mk (Kd.N_lt (Kd.S_N hS)); obtain ⟨A5, c5, rfl⟩ := Kd.S_slice hS; have HN5 := Aside0.mk (Kd.N_lower (Kd.N_mono (ok' := fun k => (P k ∨ w.heap.size ≤ k) ∧ k ≠ b1) (Kd.S_N (Kd.S_bound hS)) (fun k hk => okfresh (zq HX.out) HSZ.out hk.2.1)) (below_sz (zq HX.out) hb)); clear HX hb hS; have HX := n0_; clear n0_; have q1 := (blk_cell (blk_below Z0.out HX.out) 1).trans rfl; have q2 := (blk_cell (blk_below Z0.out HX.out) 2).trans rfl; have q3 := (blk_cell (blk_below Z0.out HX.out) 3).trans rfl; have q4 := (blk_cell (blk_below Z2.out HX.out) 3).trans rfl) | (refine Kd.N_append_rows_step (Kd.slice 54 k54) (w0 := W0) W0.heap.size rfl (.tmp 43) (.tmp 46) 25 23 (.slice none 0 0) 24 rfl Try.underlying25 info23 rfl (by decide) (by decide) (.slice A5 t.length c5) t [o.f2] _ _ _ (fun k => (P k ∨ w.heap.size ≤ k) ∧ k ≠ b1) (fun k => ((P k ∨ w.heap.size ≤ k) ∧ k ≠ b1) ∧ some k ≠ (Value.slice A5 t.length c5).ownBlock) rfl rfl ?aO ?aR (fun _ hk => hk) ?aF ?aB ?aS ?aL ?_; (case aO => exact (Kd.N_below HN5.out zg)); (case aB => exact (zq HX.out)); (case aS => exact (show Below W0.heap.size W0 _ from (zq HX.out)).size); (case aL => have := HT.out; omega); (case aF => exact (fun k hk => okfresh (zq HX.out) HSZ.out hk)); (case aR => exact F_one (by first | exact heap_alloc_new _ _ | exact HZ.out) (by first | exact ⟨⟨.inr (by have h2_ := HX.out.size; have h3_ := HSZ.out; omega), by have h2_ := HX.out.size; have h3_ := HSZ.out; omega⟩, fun he => by have h2_ := HOL.out _ he.symm; exact absurd h2_ (Nat.lt_irrefl _)⟩ | exact ⟨⟨.inr (by have h3_ := HSZ.out; exact h3_.2), by have h3_ := HSZ.out; omega⟩, fun he => by have h2_ := HOB.out _ he.symm; simp at h2_ <;> omega⟩) (FK_term (Kd.F_mono (Kd.F_below HF0.out (zq HX.out)) (fun k hk => ⟨⟨.inl hk.1, by have := HE.out; have := hk.2; omega⟩, fun he => by have := hk.2; have h2_ := HOB.out _ he.symm; have h3_ := HSZ.out; simp at h2_; omega⟩)) HAL.out)); intro v6 w6 ho hb hgr hat; obtain ⟨A6, c6, rfl⟩ := Kd.N_slice ho; have HN6 := Aside0.mk ho; have HX6 := Aside0.mk hb; have r1 := (blk_cell (blk_below Z0.out hb) 1).trans rfl; have r2 := (blk_cell (blk_below Z0.out hb) 2).trans rfl; have r3 := (blk_cell (blk_below Z0.out hb) 3).trans rfl; have r4 := (blk_cell (blk_below Z2.out hb) 3).trans rfl; have hz_ := blk_below Z1.out hb; obtain ⟨s0, s1, s2, s3⟩ := zc4 hz_; obtain ⟨f0, f1, f2, f3⟩ := zf4 hz_; have HZ6 := Aside0.mk hz_; clear ho hgr hat hb hz_))
  all_goals
   go_wp2
   refine bodyPost_ret (results_ctt rfl _ _ b1 28 _ (0, 0) _ rfl (set4_blk HZ6.out _ _ _ _) Try.underlying28 rfl (by kernel_rfl)) rfl ?_
   obtain ⟨_, hc6, _⟩ := Kd.N_reads' HN6.out
   have e1 : J.toNat = (ops.take (ops.length - 1)).length := by have := HN.out; rw [List.length_take]; omega
   refine ⟨_, rfl, ?_, set4_below (below_step HB.out HX6.out) (by have := HE.out; omega) _ _ _ _⟩
   exact stF_set4 (by rw [← e1]; exact Kd.F_below HO0.out HX6.out) HCO.out.1 (Kd.N_F HN6.out) hc6 (Kd.F_below HH0.out HX6.out) HCO.out.2 e1 (by simp) rfl _ _ _ _
 ·
  rw [if_neg c1] at h
  have d1 : (o.f0 == 2) = false := beq_eq_false_iff_ne.mpr c1
  obtain ⟨n, hn⟩ : ∃ n, n = vals.length - o.f1.f1.toNat := ⟨_, rfl⟩
  obtain ⟨node, hnode⟩ : ∃ node, node = o.f1 :: (vals.drop n).flatten := ⟨_, rfl⟩
  rw [← hn, ← hnode] at h
  unfold oneC at h
  by_cases c2 : 0 ≤ o.f1.f1 ∧ o.f1.f1 ≤ (vals.length : Int) ∧ node.length < 5864062014804
  case neg => rw [if_neg c2] at h; cases h
  rw [if_pos c2] at h
  obtain ⟨K, hK⟩ : ∃ K : Int, K = (vals.length : Int) - o.f1.f1 := ⟨_, rfl⟩
  have hw1 : IntKind.i64.wrap ((vals.length : Int) - o.f1.f1) = K := by rw [hK]; exact IntWalk.i64_in _ (by have := HG.out; omega)
  have HK := Aside0.mk (show 0 ≤ K ∧ K = (n : Int) ∧ n ≤ vals.length ∧ node.length < 5864062014804 from ⟨by omega, by omega, by omega, c2.2.2⟩)
  have HSZ := Aside0.mk (show b1 < W0.heap.size ∧ w.heap.size ≤ W0.heap.size from ⟨blk_lt Z1.out, HB.out.size⟩)
  have x1 : W0.cell? ⟨w.heap.size, 1, none⟩ = some (.slice Av vals.length cv) := (blk_cell Z0.out 1).trans rfl
  have y1 : W0.cell? ⟨b2, 1, none⟩ = some (.string o.f1.f0) := (blk_cell Z2.out 1).trans rfl
  have y2 : W0.cell? ⟨b2, 2, none⟩ = some (.int .i64 o.f1.f1) := (blk_cell Z2.out 2).trans rfl
  have HN1 := Aside0.mk (R_one W0 W0.heap.size W0.heap.size rfl (Nat.le_refl _) o.f1)
  have HX1 := Aside0.mk (below_alloc (Below.refl W0.heap.size W0) (.cells #[.string o.f1.f0, .int .i64 o.f1.f1] 54))
  have HND := Aside0.mk (show [o.f1] ++ (vals.drop n).flatten = node from hnode.symm)
  have HLT := Aside0.mk h
  clear hn hnode hK c1 c2 h
  go_wp2
  go_loopg [14, 15] (vals.length - n) (fun kq v14 v15 w' => ∃ (x : Int) (A : Option Addr) (c : Nat) (out : List S54), v14 = .slice A out.length c ∧ v15 = .int .i64 x ∧ Aside0 (0 ≤ x ∧ x + kq = (vals.length : Int)) ∧ Aside0 (out ++ (vals.drop x.toNat).flatten = node) ∧ Aside0 (Kd.R k54 54 w' W0.heap.size (fun _ => True) (.slice A out.length c) out) ∧ Aside0 (Below W0.heap.size W0 w'))
  case atStart => exact ⟨K, _, _, [o.f1], rfl, rfl, ⟨by have := HK.out; omega⟩, ⟨by rw [show K.toNat = n by have := HK.out; omega]; exact HND.out⟩, HN1, HX1⟩
  case round =>
   clear HN1 HX1 x1 y0 y1 y2 HND
   obtain ⟨x, A4, c4, out, rfl, rfl, HI, HND, HN_, HX⟩ := hrel
   have q1 := (blk_cell (blk_below Z0.out HX.out) 1).trans rfl
   cases gk with
   | succ k1 =>
    have hi : 0 ≤ x ∧ x < (vals.length : Int) := by have := HI.out; omega
    obtain ⟨vd, A5, c5, eV, hx0, hl0, hc0⟩ := at_L3 (Kd.C_below HV0.out HX.out) x hi.1 hi.2
    subst eV
    have hd : vals.drop x.toNat = rd_L3 vals x :: vals.drop (x.toNat + 1) := by
     rw [List.drop_eq_getElem_cons (show x.toNat < vals.length by omega)]
     congr 1
     simp [rd_L3, List.getD_eq_getElem?_getD, show x.toNat < vals.length by omega]
    have hnd := HND.out
    rw [hd, List.flatten_cons] at hnd
    have HCv := Aside0.mk hc0
    generalize rd_L3 vals x = u at hx0 hl0 hnd HCv
    have hul : out.length + u.length < 5864062014804 := by have h1 := HK.out.2.2.2; rw [← hnd] at h1; simp only [List.length_append] at h1; omega
    have HUL := Aside0.mk hul
    have HND2 := Aside0.mk hnd
    have p1 : (0 ≤ x) = True := eq_true hi.1
    have p2 : (x < (vals.length : Int)) = True := eq_true hi.2
    have p3 : decide (x < (vals.length : Int)) = true := decide_eq_true hi.2
    clear hd hnd hul hc0 hl0
    go_wp2_with (first | (at_builtin; refine Kd.R_append_rows k54 (w0 := W0) W0.heap.size rfl (.tmp 72) (.tmp 77) 23 54 (.agg #[.string ⟨#[]⟩, .int .i64 0]) 24 rfl Try.underlying23 info54 rfl (by decide) (by decide) (.slice A4 out.length c4) out u A5 u.length c5 (fun _ => True) (fun _ => False) rfl rfl HN_.out HCv.out (fun x cs hk => ?aK) (fun _ hk => hk.elim) (fun _ _ => trivial) HX.out HX.out.size ?aL ?_; (case aK => obtain rfl := k54_open hk; exact k54_mkM _ _ _ _); (case aL => have := HUL.out; omega); intro v2 w4 ho hb hgr hat; obtain ⟨A2_, c2_, rfl⟩ := Kd.R_slice ho; have HO2 := Aside0.mk ho; have HB2 := Aside0.mk hb; clear ho hb hgr hat))
    go_roundg k1
    case measure => have := HI.out; omega
    case rel => exact ⟨x + 1, _, _, out ++ u, by rw [List.length_append], by have e_ : wrap64 (x + 1) = x + 1 := (by have := HG.out; unfold wrap64; omega); first | rfl | rw [e_] | (simp [e_]; done), ⟨by have := HI.out; omega⟩, ⟨by rw [show (x + 1).toNat = x.toNat + 1 by omega, List.append_assoc]; exact HND2.out⟩, HO2, HB2⟩
   | zero =>
    have hx : x = (vals.length : Int) := by have := HI.out; omega
    subst hx
    have hnd := HND.out
    rw [Int.toNat_natCast, List.drop_length, List.flatten_nil, List.append_nil] at hnd
    subst hnd
    have p3 : decide ((vals.length : Int) < (vals.length : Int)) = false := decide_eq_false (by omega)
    clear HI HND q1
    rename World => W1
    have ZA0 := Aside0.mk (blk_below Z0.out HX.out)
    have ZA1 := Aside0.mk (blk_below Z1.out HX.out)
    have ZA2 := Aside0.mk (blk_below Z2.out HX.out)
    have HS1 := Aside0.mk (show b1 < W1.heap.size ∧ w.heap.size ≤ W1.heap.size from ⟨blk_lt ZA1.out, Nat.le_trans HB.out.size HX.out.size⟩)
    have OLD := Aside0.mk (show ∀ k, P k ∧ k < w.heap.size → (P k ∨ w.heap.size ≤ k) ∧ k ≠ b1 from fun k hk => ⟨.inl hk.1, by have := HE.out; have := hk.2; omega⟩)
    have LV := Aside0.mk (show ∀ {w9 : World} {u1 u2 u3 u4 : Value}, Below W0.heap.size W0 w9 → StF ((((w9.setCell ⟨b1, 0, none⟩ u1).setCell ⟨b1, 1, none⟩ u2).setCell ⟨b1, 2, none⟩ u3).setCell ⟨b1, 3, none⟩ u4) (fun k => P k ∨ w.heap.size ≤ k) (.agg #[.slice (some ad) N co, .slice Av vals.length cv, .int .i64 st, .slice Ah hd.length ch]) ops vals st hd from fun {w9} {_ _ _ _} hb => stF_set4 (by rw [← HN.out.1]; exact Kd.F_mono (Kd.F_below HOF0.out hb) OLD.out) HCF.out (Kd.F_mono (Kd.F_below HVF0.out hb) OLD.out) HCV.out (Kd.F_below HH0.out hb) HCO.out.2 HN.out.1 rfl rfl _ _ _ _)
    have HY := Aside0.mk (Below.refl W1.heap.size W1)
    by_cases c3 : (out.length : Int) > 64
    ·
     have h := HLT.out
     rw [if_pos c3] at h
     simp only [Option.some.injEq, Prod.mk.injEq] at h
     obtain ⟨rfl, rfl, rfl, rfl, rfl, rfl⟩ := h
     have d2 : decide ((out.length : Int) > 64) = true := decide_eq_true c3
     have d3 : decide (64 < out.length) = true := decide_eq_true (by omega)
     obtain ⟨t0, t1, t2, t3⟩ := zc4 ZA0.out; obtain ⟨s0, s1, s2, s3⟩ := zc4 ZA1.out; obtain ⟨f0, f1, f2, f3⟩ := zf4 ZA1.out
     go_wp2
     refine bodyPost_ret (results_ctt rfl _ _ b1 28 _ (0, 0) _ rfl (set4_blk ZA1.out _ _ _ _) Try.underlying28 rfl (by kernel_rfl)) rfl ?_
     exact ⟨_, rfl, LV.out HX.out, set4_below (below_step HB.out HX.out) (by have := HE.out; omega) _ _ _ _⟩
    have h := HLT.out
    rw [if_neg c3] at h
    obtain ⟨left, hL, h⟩ := Option.bind_eq_some_iff.mp h
    unfold oneD at h
    obtain ⟨⟨j, bs⟩, hF, h⟩ := Option.bind_eq_some_iff.mp h
    simp only at h
    have d2 : decide ((out.length : Int) > 64) = false := decide_eq_false c3
    have d3 : decide (64 < out.length) = false := decide_eq_false (by omega)
    obtain ⟨i23, hi23, _, hs23, _⟩ := info_parts info23
    have hcutV := cut_to (P := Try.prog) 25 23 .i64 Try.underlying25 hi23 Av vals.length cv K (by have := HK.out; omega) (by have := HK.out; omega) (by have := HCV.out; omega)
    have hvt : (vals.take n).length = K.toNat := by rw [List.length_take]; have := HK.out; omega
    obtain ⟨_, hc4, hC4⟩ := Kd.R_reads' HN_.out
    have HC4 := Aside0.mk hc4
    have HNF := Aside0.mk (show Kd.F k54 W1 (fun k => W0.heap.size ≤ k ∧ k < W1.heap.size) A4 out.length out from Kd.R_F (Kd.R_mono (Kd.R_bound HN_.out) (fun k hk => ⟨hk.2.1, hk.2.2.1⟩)))
    have C1 := fun (W : World) (hW : Below W1.heap.size W1 W) => aumbryref04_CopyAll.calls k Av cv (vals.take n) left W (Kd.C_below (Kd.C_below (Kd.C_take HV0.out (by have := HK.out; omega)) HX.out) hW) (by rw [List.length_take]; have := HCV.out; omega) hL
    rw [hvt] at C1
    have C2 := fun (W : World) => known0_calls (v := .slice A4 out.length c4) (w := W)
    have C3 := fun (W : World) (g : Nat) (hW : Below W1.heap.size W1 W) (hg : W.heap[g]? = some (.cells #[.string o.f1.f0] 9 (0, 0))) => join1_calls (A0 := Ah) (c0 := ch) (c1 := 1) (Kd.C_below (Kd.C_below HH1.out HX.out) hW) (C_one9 hg) (by have := HG.out; omega)
    have C4 := fun (W : World) (hW : Below W1.heap.size W1 W) => aumbryref07_First.calls k A0 c0 rules A4 c4 out j bs W (Kd.C_below (Kd.C_below HR0.out HX.out) hW) HC0.out (Kd.C_below hC4 hW) hc4 hF
    have HLT2 := Aside0.mk h
    clear h hL hF c3 hvt hc4 hC4 HLT HV0 HN_
    have q1 := (blk_cell ZA0.out 1).trans rfl
    go_upto_region 14 with (first | (go_at_call 44; (with_reducible refine (C1 _ ?side1).mono ?_); (case side1 => exact (zq HY.out)); rintro e w5 ⟨v5, rfl, hS, hb⟩; obtain ⟨A5, c5, rfl⟩ := Kd.S_slice hS; have HL := Aside0.mk (Kd.N_lower (Kd.N_mono (ok' := fun k => (P k ∨ w.heap.size ≤ k) ∧ k ≠ b1) (Kd.S_N (Kd.S_bound hS)) (fun k hk => okfresh (zq HY.out) HS1.out hk.2.1)) (below_sz (zq HY.out) hb)); have n0_ := Aside0.mk (below_step (zq HY.out) hb); clear HY hb hS; have HY := n0_; clear n0_))
    clear q1
    have u3 := (blk_cell (blk_below ZA0.out HY.out) 3).trans rfl
    go_upto_region 15 with (first | (go_at_call 93; (with_reducible refine (C2 _).mono ?_); rintro e w6 ⟨rfl, hb⟩; have n0_ := Aside0.mk (below_step (zq HY.out) hb); have n1_ := Aside0.mk (Kd.N_below (Kd.N_below HL.out zg) hb); clear HY HL hb; have HY := n0_; have HL := n1_; clear n0_ n1_))
    clear u3
    have u3 := (blk_cell (blk_below ZA0.out HY.out) 3).trans rfl
    have u1 := (blk_cell (blk_below ZA2.out HY.out) 1).trans rfl
    go_upto_region 19 with (first | (go_at_call 94; (with_reducible refine (C3 _ _ ?side1 ?side2).mono ?_); (case side1 => exact (zq HY.out)); (case side2 => exact heap_alloc_new _ _); rintro e w7 ⟨v7, rfl, hR, hb⟩; obtain ⟨A7, c7, rfl⟩ := Kd.R_slice hR; have HJ := Aside0.mk (Kd.R_lower (Kd.R_mono (ok' := fun k => (P k ∨ w.heap.size ≤ k) ∧ k ≠ b1) (Kd.R_bound hR) (fun k hk => okfresh (zq HY.out) HS1.out hk.2.1)) (below_sz (zq HY.out) hb)); have n0_ := Aside0.mk (below_step (zq HY.out) hb); have n1_ := Aside0.mk (Kd.N_below (Kd.N_below HL.out zg) hb); clear HY HL hb hR; have HY := n0_; have HL := n1_; clear n0_ n1_))
    clear u3 u1
    go_upto_region 20 with (first | (go_at_call 55; (with_reducible refine (C4 _ ?side1).mono ?_); (case side1 => exact (zq HY.out)); rintro e w8 ⟨v8, rfl, hS, hb⟩; obtain ⟨A8, c8, rfl⟩ := Kd.S_slice hS; have HBS := Aside0.mk hS; have n0_ := Aside0.mk (below_step (zq HY.out) hb); have n1_ := Aside0.mk (Kd.N_below (Kd.N_below HL.out zg) hb); have n2_ := Aside0.mk (Kd.R_below (zr HJ.out) hb); clear HY HL HJ hb hS; have HY := n0_; have HL := n1_; have HJ := n2_; clear n0_ n1_ n2_))
    clear C1 C2 C3 C4 hcutV hw1
    have e1 : J.toNat = (ops.take (ops.length - 1)).length := by have := HN.out; rw [List.length_take]; omega
    have HE1 := Aside0.mk e1
    clear e1
    have h := HLT2.out
    clear HLT2
    by_cases c4 : j < 0
    ·
     rw [if_pos c4] at h
     by_cases c5_ : left.length < 5864062014804
     case neg => rw [if_neg c5_] at h; cases h
     rw [if_pos c5_] at h
     simp only [Option.some.injEq, Prod.mk.injEq] at h
     obtain ⟨rfl, rfl, rfl, rfl, rfl, rfl⟩ := h
     have d4 : decide (j < 0) = true := decide_eq_true c4
     have HLL := Aside0.mk c5_
     clear c4 c5_
     go_wp2_with (first | (at_builtin; (with_reducible refine gate_builtin (b := .append) (xs := #[.tmp 132, .tmp 134]) rfl ?_); refine Kd.N_append_rows (Kd.slice 54 k54) (w0 := W1) W1.heap.size rfl (.tmp 132) (.tmp 134) 25 23 (.slice none 0 0) 24 rfl Try.underlying25 info23 rfl (by decide) (by decide) (Value.slice A5 left.length c5) left [out] _ _ _ (fun k => (P k ∨ w.heap.size ≤ k) ∧ k ≠ b1) (fun k => ((P k ∨ w.heap.size ≤ k) ∧ k ≠ b1) ∧ some k ≠ (Value.slice A5 left.length c5).ownBlock) rfl rfl ?aO ?aR (fun _ hk => hk) ?aF ?aB ?aS ?aL ?_; (case aO => exact (Kd.N_below HL.out zg)); (case aB => exact (zq HY.out)); (case aS => exact (show Below W1.heap.size W1 _ from (zq HY.out)).size); (case aL => have := HLL.out; omega); (case aF => exact (fun k hk => okfresh (zq HY.out) HS1.out hk)); (case aR => exact F_one (heap_alloc_new _ _) ⟨⟨.inr (by have := HY.out.size; have := HS1.out; omega), by have := HY.out.size; have := HS1.out; omega⟩, fun he => absurd (Kd.N_lt HL.out _ he.symm) (Nat.lt_irrefl _)⟩ (FK_term (Kd.F_mono (Kd.F_below HNF.out (zq HY.out)) (fun k hk => ⟨⟨.inr (by have := HSZ.out; omega), by have := HSZ.out; omega⟩, fun he => by have := Kd.N_base HL.out _ he.symm; omega⟩)) HC4.out)); intro v9 w9 ho hb hgr hat; obtain ⟨A9, c9, rfl⟩ := Kd.N_slice ho; have HN9 := Aside0.mk ho; have HY9 := Aside0.mk hb; have HJ9 := Aside0.mk (Kd.R_over' (e' := 23) (zr HJ.out) (Kd.N_typed (Kd.N_below HL.out zg)) (by decide) hgr); have HZ9 := Aside0.mk (blk_below ZA1.out hb); have hz_ := blk_below ZA0.out hb; obtain ⟨t0, t1, t2, t3⟩ := zc4 hz_; obtain ⟨s0, s1, s2, s3⟩ := zc4 HZ9.out; obtain ⟨f0, f1, f2, f3⟩ := zf4 HZ9.out; clear ho hb hgr hat hz_))
     refine bodyPost_ret (results_ctt rfl _ _ b1 28 _ (0, 0) _ rfl (set4_blk HZ9.out _ _ _ _) Try.underlying28 rfl (by kernel_rfl)) rfl ?_
     obtain ⟨_, hc9, _⟩ := Kd.N_reads' HN9.out
     obtain ⟨_, hc7, _⟩ := Kd.R_reads' HJ9.out
     refine ⟨_, rfl, ?_, set4_below (below_step (below_step HB.out HX.out) HY9.out) (by have := HE.out; omega) _ _ _ _⟩
     exact stF_set4 (by rw [← HE1.out]; exact Kd.F_below (Kd.F_below HO0.out HX.out) HY9.out) HCO.out.1 (Kd.N_F HN9.out) hc9 (Kd.R_F HJ9.out) hc7 HE1.out (by simp) rfl _ _ _ _
    rw [if_neg c4] at h
    have d4 : decide (j < 0) = false := decide_eq_false c4
    have HZ8 := Aside0.mk (blk_below ZA1.out HY.out)
    have HB8 := Aside0.mk (blk_below ZA0.out HY.out)
    by_cases c6 : fu ≤ 0
    ·
     rw [if_pos c6] at h
     simp only [Option.some.injEq, Prod.mk.injEq] at h
     obtain ⟨rfl, rfl, rfl, rfl, rfl, rfl⟩ := h
     have d5 : decide (fu ≤ 0) = true := decide_eq_true c6
     obtain ⟨t0, t1, t2, t3⟩ := zc4 HB8.out; obtain ⟨s0, s1, s2, s3⟩ := zc4 HZ8.out; obtain ⟨f0, f1, f2, f3⟩ := zf4 HZ8.out
     go_wp2
     refine bodyPost_ret (results_ctt rfl _ _ b1 28 _ (0, 0) _ rfl (set4_blk HZ8.out _ _ _ _) Try.underlying28 rfl (by kernel_rfl)) rfl ?_
     exact ⟨_, rfl, LV.out (below_step HX.out HY.out), set4_below (below_step (below_step HB.out HX.out) HY.out) (by have := HE.out; omega) _ _ _ _⟩
    rw [if_neg c6] at h
    unfold oneE at h
    by_cases c7_ : 0 ≤ j ∧ j < (rules.length : Int)
    case neg => rw [if_neg c7_] at h; cases h
    rw [if_pos c7_] at h
    obtain ⟨t, hT, h⟩ := Option.bind_eq_some_iff.mp h
    obtain ⟨t2, hT2⟩ : ∃ t2, t2 = t.reverse := ⟨_, rfl⟩
    have hl2 : t2.length = t.length := by rw [hT2, List.length_reverse]
    rw [← hT2, ← hl2] at h
    by_cases c8_ : (ops.take (ops.length - 1)).length + t2.length < 2513169434900
    case neg => rw [if_neg c8_] at h; cases h
    rw [if_pos c8_] at h
    simp only [Option.some.injEq, Prod.mk.injEq] at h
    obtain ⟨rfl, rfl, rfl, rfl, rfl, rfl⟩ := h
    have HLL := Aside0.mk c8_
    have d5 : decide (fu ≤ 0) = false := decide_eq_false c6
    have HR8 := Aside0.mk (Kd.C_below (Kd.C_below HR0.out HX.out) HY.out)
    obtain ⟨rd_, Al, cl, Ar, cr, eR, r0, r1, r2, _, _, lr, gr⟩ := at_T73 HR8.out j c7_.1 c7_.2
    subst eR
    obtain ⟨_, hc8, hC8⟩ := Kd.S_reads' HBS.out
    have C5 := fun (W : World) (hW : Below w8.heap.size w8 W) => aumbryref07_Todo.calls k Ar cr (rd_T73 rules j).f2 A8 c8 bs t W (Kd.C_below gr hW) lr (Kd.C_below hC8 hW) hc8 hT
    have p1 : (0 ≤ j) = True := eq_true c7_.1
    have p2 : (j < (rules.length : Int)) = True := eq_true c7_.2
    have HV8 := Aside0.mk (Below.refl w8.heap.size w8)
    have HO8 := Aside0.mk (Kd.F_below (Kd.F_below HOT0.out HX.out) HY.out)
    have HS8 := Aside0.mk (Nat.le_trans HS1.out.2 HY.out.size)
    have HTU := Aside0.mk (And.intro hT2 hl2)
    have HR2 := Aside0.mk r2
    obtain ⟨rest, hrest⟩ : ∃ rest, rest = ops.take (ops.length - 1) := ⟨_, rfl⟩
    rw [← hrest] at HO8 HLL HE1
    have HRS := Aside0.mk hrest
    clear c4 c6 c7_ c8_ hT hl2 hT2 hC8 gr r0 r1 hrest
    generalize rd_T73 rules j = ru at r2 lr C5 HR2
    have hbz : b1 < w8.heap.size ∧ w.heap.size ≤ w8.heap.size := ⟨blk_lt HZ8.out, HS8.out⟩
    have HBZ := Aside0.mk hbz
    clear hbz
    go_upto_region 27 with (first | (at_builtin; (with_reducible refine gate_builtin (b := .append) (xs := #[.tmp 147, .tmp 148]) rfl ?_); refine Kd.N_append_rows k70 (w0 := w8) w8.heap.size rfl (.tmp 147) (.tmp 148) 24 70 (.agg #[.int .i64 0, .string ⟨#[]⟩, .int .i64 0, .slice none 0 0]) 56 rfl Try.underlying24 info70 rfl (by decide) (by decide) (.slice none 0 0) [] rest _ _ _ (fun k => (P k ∨ w.heap.size ≤ k) ∧ k ≠ b1) (fun k => P k ∧ k < w.heap.size) rfl rfl ?aO HO8.out (fun k hk => ⟨⟨.inl hk.1, by have := HE.out; have := hk.2; omega⟩, by simp [Value.ownBlock]⟩) ?aF ?aB ?aS ?aL ?_; (case aO => exact Kd.N_nil _ _ _ _ _); (case aB => exact HV8.out); (case aS => exact Nat.le_refl _); (case aL => have := HLL.out; have := HE1.out; simp; omega); (case aF => exact (fun k hk => ⟨.inr (by have := HBZ.out; omega), by have := HBZ.out; omega⟩)); intro v9 w9 ho hb hgr hat; rw [List.nil_append] at ho; obtain ⟨A9, c9, rfl⟩ := Kd.N_slice ho; have HN9 := Aside0.mk ho; have HV9 := Aside0.mk hb; clear ho hb hgr hat))
    have HW9 := Aside0.mk (Below.refl w9.heap.size w9)
    have r3 := pw_cell_below HV9.out HR2.out
    clear r2
    go_wp2_with (first | (go_at_call 36; (with_reducible refine (C5 _ ?side1).mono ?_); (case side1 => exact (zq HV9.out)); rintro e w10 ⟨v10, rfl, hN, hb⟩; obtain ⟨A10, c10, rfl⟩ := Kd.N_slice hN; have HN10 := Aside0.mk hN; have HW10 := Aside0.mk (below_step (zq HW9.out) hb); have C6 := fun (W : World) (hW : Below w10.heap.size w10 W) => turned_calls (P := fun k => w9.heap.size ≤ k) (A0 := A10) (c0 := c10) (l := t) (w := W) (Kd.N_F (Kd.N_mono (Kd.N_below HN10.out hW) (fun k hk => Nat.le_trans (below_sz (zq HW9.out) hb) hk))) (by have h1_ := HLL.out; have h2_ := HTU.out.2; omega); clear hN hb) | (go_at_call 35; (with_reducible refine (C6 _ ?side2).mono ?_); (case side2 => exact (zq (Below.refl _ _))); rintro e w11 ⟨v11, rfl, hN, hb⟩; rw [← HTU.out.1] at hN; obtain ⟨A11, c11, rfl⟩ := Kd.N_slice hN; have HW11 := Aside0.mk (below_step (zq HW10.out) hb); have HF11 := Aside0.mk (Kd.N_F (Kd.N_mono (ok' := fun k => w9.heap.size ≤ k) hN (fun k hk => hk.elim id (fun h => Nat.le_trans (below_sz (zq HW10.out) hb) h)))); have HN11 := Aside0.mk (Kd.N_below HN9.out HW11.out); clear hN hb) | (at_builtin; (with_reducible refine gate_builtin (b := .append) (xs := #[.tmp 150, .tmp 158]) rfl ?_); refine Kd.N_append_rows k70 (w0 := w8) w8.heap.size rfl (.tmp 150) (.tmp 158) 24 70 (.agg #[.int .i64 0, .string ⟨#[]⟩, .int .i64 0, .slice none 0 0]) 56 rfl Try.underlying24 info70 rfl (by decide) (by decide) (Value.slice A9 rest.length c9) rest t2 A11 t2.length c11 (fun k => (P k ∨ w.heap.size ≤ k) ∧ k ≠ b1) (fun k => w9.heap.size ≤ k) rfl rfl ?aO ?aR (fun k hk => ⟨⟨.inr (by have := HBZ.out; have := HV9.out.size; omega), by have := HBZ.out; have := HV9.out.size; omega⟩, fun he => by have := Kd.N_lt HN9.out _ he.symm; omega⟩) ?aF ?aB ?aS ?aL ?_; (case aO => exact (Kd.N_below HN11.out zg)); (case aR => exact (Kd.F_below HF11.out zg)); (case aB => exact (by repeat (first | exact below_step HV9.out HW11.out | apply below_alloc | apply pw_below_drewN | apply below_drew1))); (case aS => exact (show Below w8.heap.size w8 _ from (by repeat (first | exact below_step HV9.out HW11.out | apply below_alloc | apply pw_below_drewN | apply below_drew1))).size); (case aL => have := HLL.out; omega); (case aF => exact (fun k hk => okfresh (by repeat (first | exact below_step HV9.out HW11.out | apply below_alloc | apply pw_below_drewN | apply below_drew1)) HBZ.out hk)); intro v12 w12 ho hb hgr hat; obtain ⟨A12, c12, rfl⟩ := Kd.N_slice ho; have HN12 := Aside0.mk ho; have HV12 := Aside0.mk hb; have HZ12 := Aside0.mk (blk_below HZ8.out hb); have hz_ := blk_below HB8.out hb; obtain ⟨t0, t1, t2, t3⟩ := zc4 hz_; obtain ⟨s0, s1, s2, s3⟩ := zc4 HZ12.out; obtain ⟨f0, f1, f2, f3⟩ := zf4 HZ12.out; clear ho hb hgr hat hz_))
    refine bodyPost_ret (results_ctt rfl _ _ b1 28 _ (0, 0) _ rfl (set4_blk HZ12.out _ _ _ _) Try.underlying28 rfl (by kernel_rfl)) rfl ?_
    rw [← HRS.out]
    obtain ⟨_, hc12, _⟩ := Kd.N_reads' HN12.out
    obtain ⟨_, hc7, _⟩ := Kd.R_reads' HJ.out
    obtain ⟨_, hc5, _⟩ := Kd.N_reads' HL.out
    refine ⟨_, rfl, ?_, set4_below (below_step (below_step (below_step HB.out HX.out) HY.out) HV12.out) (by have := HE.out; omega) _ _ _ _⟩
    exact stF_set4 (Kd.N_F HN12.out) hc12 (Kd.F_below (Kd.N_F HL.out) HV12.out) hc5 (Kd.F_below (Kd.R_F HJ.out) HV12.out) hc7 (by simp) rfl rfl _ _ _ _
end Go.Proofs.Ytdlkhpfgkghhmaa.P

-- ==== PF18
namespace Go.Proofs.Ytdlkhpfgkghhmaa.P
open Go.RowKit Go.Proofs.YtdlkhpfgkghhmaaW.PrintWords Go.Proofs.YtdlkhpfgkghhmaaW.PrintLast Go.Proofs.YtdlkhpfgkghhmaaW.PrintMore
attribute [local go_sem] max2_int min2_int max_two min_two max_three min_three max_four min_four

mutual
def aumbryref07_Right.l0 : Nat → Int → Int → List (S70) → List (List (S54)) → Int → List ByteArray → Option (Bool)
 | 0, _, _, _, _, _, _ => none
 | k + 1, x3, x4, x102000, x102001, x102002, x102003 => if x4 ≥ 0 then (if 0 ≤ x4 then (if x4 < (x102000.length : Int) then (if ((rd_T70 x102000 x4).f0) = 1 then (if (((rd_T70 x102000 x4).f2).length : Int) > 0 then (some false) else ((aumbryref03_Kind.f k ((rd_T70 x102000 x4).f1.f0)).bind fun t104 => (if t104 = 1 then (if ((rd_T70 x102000 x4).f1.f1) < 0 then (some false) else (if ((rd_T70 x102000 x4).f1.f1) > 4 then (some false) else (if ((rd_T70 x102000 x4).f1.f1) > x3 then (some false) else (aumbryref07_Right.l0 k (wrap64 ((wrap64 (x3 - ((rd_T70 x102000 x4).f1.f1))) + 1)) (wrap64 (x4 - 1)) x102000 x102001 x102002 x102003)))) else (some false)))) else (if ((rd_T70 x102000 x4).f0) = 2 then (if ((rd_T70 x102000 x4).f1.f0).toList = ([] : List UInt8) then (if ((rd_T70 x102000 x4).f1.f1) = 0 then ((aumbryref07_Ground.f k ((rd_T70 x102000 x4).f2)).bind fun t105 => (if t105 = true then (aumbryref07_Right.l0 k (wrap64 (x3 + 1)) (wrap64 (x4 - 1)) x102000 x102001 x102002 x102003) else (some false))) else (some false)) else (some false)) else (some false))) else (none)) else (none)) else (aumbryref07_Right.l1 k x3 (x102001.length : Int) 0 x102000 x102001 x102002 x102003)
def aumbryref07_Right.l1 : Nat → Int → Int → Int → List (S70) → List (List (S54)) → Int → List ByteArray → Option (Bool)
 | 0, _, _, _, _, _, _, _ => none
 | k + 1, x3, x86, x87, x102000, x102001, x102002, x102003 => if x87 < x86 then (if 0 ≤ x87 then (if x87 < (x102001.length : Int) then ((aumbryref07_Ground.f k (rd_L3 x102001 x87)).bind fun t107 => (if t107 = true then (aumbryref07_Right.l1 k x3 x86 (wrap64 (x87 + 1)) x102000 x102001 x102002 x102003) else (some false))) else (none)) else (none)) else (aumbryref07_Right.l2 k x3 (x102003.length : Int) 0 x102000 x102001 x102002 x102003)
def aumbryref07_Right.l2 : Nat → Int → Int → Int → List (S70) → List (List (S54)) → Int → List ByteArray → Option (Bool)
 | 0, _, _, _, _, _, _, _ => none
 | k + 1, x3, x100, x101, x102000, x102001, x102002, x102003 => if x101 < x100 then (if 0 ≤ x101 then (if x101 < (x102003.length : Int) then ((aumbryref03_Kind.f k (rdOf ByteArray.empty x102003 x101)).bind fun t109 => (if t109 = 1 then (if x101 > 0 then (if 0 ≤ (wrap64 (x101 - 1)) then (if (wrap64 (x101 - 1)) < (x102003.length : Int) then (if ((Op.bytesLess ((rdOf ByteArray.empty x102003 (wrap64 (x101 - 1))).toList) ((rdOf ByteArray.empty x102003 x101).toList)) = true) then (aumbryref07_Right.l2 k x3 x100 (wrap64 (x101 + 1)) x102000 x102001 x102002 x102003) else (some false)) else (none)) else (none)) else (aumbryref07_Right.l2 k x3 x100 (wrap64 (x101 + 1)) x102000 x102001 x102002 x102003)) else (some false))) else (none)) else (none)) else (if x3 = 1 then (some (decide (x102002 ≥ 0))) else (some false))
end
def aumbryref07_Right.f (k : Nat) (l0_0 : List (S70)) (l0_1 : List (List (S54))) (a0_2 : Int) (l0_3 : List ByteArray) : Option (Bool) := aumbryref07_Right.l0 k (l0_1.length : Int) (wrap64 ((l0_0.length : Int) - 1)) l0_0 l0_1 a0_2 l0_3

-- ==== PF20

def rewrite_Run.f (k : Nat) (l0 : List (S73)) (l1_0 : List (S70)) (l1_1 : List (List (S54))) (a1_2 : Int) (l1_3 : List (ByteArray)) (a2 : Int) : Option ((List (S70)) × (List (List (S54))) × Int × (List (ByteArray)) × Int) := (runF k k l0 l1_0 l1_1 a1_2 l1_3 a2).bind fun r => some (r.2.ops, r.2.vals, r.2.st, r.2.hd, r.1)
theorem rewrite_Run.calls (k : Nat) (A0 : Option Addr) (c0 : Nat) (l0 : List (S73)) (A1_0 : Option Addr) (c1_0 : Nat) (l1_0 : List (S70)) (A1_1 : Option Addr) (c1_1 : Nat) (l1_1 : List (List (S54))) (a1_2 : Int) (A1_3 : Option Addr) (c1_3 : Nat) (l1_3 : List (ByteArray)) (a2 : Int) (r1 : List (S70)) (r2 : List (List (S54))) (r3 : Int) (r4 : List (ByteArray)) (r5 : Int) (w : World) (hr0 : Kd.C k73 w A0 l0.length l0) (hc0 : l0.length ≤ c0) (hr1_0 : Kd.C k70 w A1_0 l1_0.length l1_0) (hc1_0 : l1_0.length ≤ c1_0) (hr1_1 : Kd.C (Kd.slice 54 k54) w A1_1 l1_1.length l1_1) (hc1_1 : l1_1.length ≤ c1_1) (hr1_3 : Kd.C Kd.string w A1_3 l1_3.length l1_3) (hc1_3 : l1_3.length ≤ c1_3) (h : rewrite_Run.f k l0 l1_0 l1_1 a1_2 l1_3 a2 = some (r1, r2, r3, r4, r5)) :
 Calls Try.prog 20 #[.slice A0 l0.length c0, .agg #[.slice A1_0 l1_0.length c1_0, .slice A1_1 l1_1.length c1_1, .int .i64 a1_2, .slice A1_3 l1_3.length c1_3], .int .i64 a2, .nilIface] w fun e w' => ∃ v0_ v1_ v3_ : Value, e = .returned (.tuple #[.agg #[v0_, v1_, .int .i64 r3, v3_], .int .i64 r5]) ∧ Kd.N k70 70 w' w.heap.size (fun k_ => (w.heap.size ≤ k_) ∧ some k_ ≠ (v1_ : Value).ownBlock ∧ some k_ ≠ (v3_ : Value).ownBlock) v0_ r1 ∧ Kd.N (Kd.slice 54 k54) 23 w' w.heap.size (fun k_ => (w.heap.size ≤ k_) ∧ some k_ ≠ (v0_ : Value).ownBlock ∧ some k_ ≠ (v3_ : Value).ownBlock) v1_ r2 ∧ Kd.R Kd.string 9 w' w.heap.size (fun k_ => (w.heap.size ≤ k_)) v3_ r4 ∧ Below w.heap.size w w' := by
 unfold rewrite_Run.f at h
 obtain ⟨r, hr, h⟩ := zB h
 simp only [Option.some.injEq, Prod.mk.injEq] at h
 obtain ⟨rfl, rfl, rfl, rfl, rfl⟩ := h
 refine (run_calls hr0 hc0 hr1_0 hc1_0 hr1_1 hc1_1 hr1_3 hc1_3 hr).mono ?_
 rintro e w' ⟨⟨v0, v1, v3, he, ⟨h0, h1, h2⟩⟩, hb⟩
 exact ⟨v0, v1, v3, he, h0, h1, h2, hb⟩



-- ==== PF12

def rewrite_Start.f (k : Nat) (l0 : List (S54)) : Option ((List (S70)) × (List (List (S54))) × Int × (List (ByteArray)) × Int) := startF k l0
theorem rewrite_Start.mono : ∀ a0 k, LeO (rewrite_Start.f k a0) (rewrite_Start.f (k + 1) a0) := fun a0 k => startF_mono k a0
theorem rewrite_Start.calls (k : Nat) (A0 : Option Addr) (c0 : Nat) (l0 : List (S54)) (r1 : List (S70)) (r2 : List (List (S54))) (r3 : Int) (r4 : List (ByteArray)) (r5 : Int) (w : World) (hr0 : Kd.C k54 w A0 l0.length l0) (hc0 : l0.length ≤ c0) (h : rewrite_Start.f k l0 = some (r1, r2, r3, r4, r5)) :
 Calls Try.prog 12 #[.slice A0 l0.length c0] w fun e w' => ∃ v0_ v1_ v3_ : Value, e = .returned (.tuple #[.agg #[v0_, v1_, .int .i64 r3, v3_], .int .i64 r5]) ∧ Kd.N k70 70 w' w.heap.size (fun k_ => (w.heap.size ≤ k_) ∧ some k_ ≠ (v1_ : Value).ownBlock ∧ some k_ ≠ (v3_ : Value).ownBlock) v0_ r1 ∧ Kd.N (Kd.slice 54 k54) 23 w' w.heap.size (fun k_ => (w.heap.size ≤ k_) ∧ some k_ ≠ (v0_ : Value).ownBlock ∧ some k_ ≠ (v3_ : Value).ownBlock) v1_ r2 ∧ Kd.R Kd.string 9 w' w.heap.size (fun k_ => (w.heap.size ≤ k_)) v3_ r4 ∧ Below w.heap.size w w' := by
 refine (start_calls k A0 c0 l0 r1 r2 r3 r4 r5 w hr0 hc0 h).mono ?_
 rintro e w' ⟨v0, v1, v3, he, ⟨h0, h1, h2⟩, hb⟩
 exact ⟨v0, v1, v3, he, h0, h1, h2, hb⟩



-- ==== PF24

def rewrite_Normal.f (k : Nat) (l0 : List (S73)) (l1 : List (S54)) (a2 : Int) : Option ((List (S54)) × Int × Int) := normF k k l0 l1 a2
theorem rewrite_Normal.mono : ∀ a0 a1 a2 k, LeO (rewrite_Normal.f k a0 a1 a2) (rewrite_Normal.f (k + 1) a0 a1 a2) := fun a0 a1 a2 k => normF_mono k a0 a1 a2
theorem rewrite_Normal.calls (k : Nat) (A0 : Option Addr) (c0 : Nat) (l0 : List (S73)) (A1 : Option Addr) (c1 : Nat) (l1 : List (S54)) (a2 : Int) (r1 : List (S54)) (r2 : Int) (r3 : Int) (w : World) (hr0 : Kd.C k73 w A0 l0.length l0) (hc0 : l0.length ≤ c0) (hr1 : Kd.C k54 w A1 l1.length l1) (hc1 : l1.length ≤ c1) (h : rewrite_Normal.f k l0 l1 a2 = some (r1, r2, r3)) :
 Calls Try.prog 24 #[.slice A0 l0.length c0, .slice A1 l1.length c1, .int .i64 a2] w fun e w' => ∃ v0_ : Value, e = .returned (.tuple #[v0_, .int .i64 r2, .int .i64 r3]) ∧ Kd.V k54 54 w' w.heap.size (fun k_ => (w.heap.size ≤ k_)) v0_ r1 ∧ Below w.heap.size w w' := by
 refine (normal_calls hr0 hc0 hr1 hc1 h).mono ?_
 rintro e w' ⟨A, c, he, hl, hF, hb⟩
 exact ⟨_, he, Kd.V_mk hl hF, hb⟩



-- ==== PF11

def aumbrylaw07_wakes.f (k : Nat)  : Option (Bool) := (rewrite_Normal.f k (([(⟨1, (([(⟨(⟨#[102]⟩ : ByteArray), 1⟩ : S54), (⟨(⟨#[88]⟩ : ByteArray), 0⟩ : S54)] : List (S54))), (([(⟨(⟨#[115]⟩ : ByteArray), 1⟩ : S54), (⟨(⟨#[88]⟩ : ByteArray), 0⟩ : S54)] : List (S54)))⟩ : S73)] : List (S73))) (([(⟨(⟨#[102]⟩ : ByteArray), 1⟩ : S54), (⟨(⟨#[97]⟩ : ByteArray), 0⟩ : S54)] : List (S54))) 5).bind fun bt113 => ((rewrite_Start.f k (([(⟨(⟨#[103]⟩ : ByteArray), 2⟩ : S54), (⟨(⟨#[97]⟩ : ByteArray), 0⟩ : S54), (⟨(⟨#[98]⟩ : ByteArray), 0⟩ : S54)] : List (S54)))).bind fun bt121 => (if bt113.2.2 = 0 then (if bt113.2.1 = 1 then (if (bt113.1.length : Int) = 2 then (if 0 < (bt113.1.length : Int) then (if ((rd_T54 bt113.1 0).f0).toList = ([115] : List UInt8) then (if bt121.2.2.2.2 = 0 then (if (bt121.1.length : Int) = 3 then (if 0 < (bt121.1.length : Int) then (if ((rd_T70 bt121.1 0).f1.f0).toList = ([103] : List UInt8) then (if 2 < (bt121.1.length : Int) then (some (((rd_T70 bt121.1 2).f1.f0).toList == ([97] : List UInt8))) else (none)) else (some false)) else (none)) else (some false)) else (some false)) else (some false)) else (none)) else (some false)) else (some false)) else (some false)))
theorem aumbrylaw07_wakes.mono : ∀ k, LeO (aumbrylaw07_wakes.f k ) (aumbrylaw07_wakes.f (k + 1) ) := by
 intro  k
 unfold aumbrylaw07_wakes.f
 repeat' first
  | (with_reducible exact rewrite_Normal.mono _ _ _ _)
  | (with_reducible exact rewrite_Start.mono _ _)
  | (with_reducible exact LeO.refl _)
  | (with_reducible exact LeO.none _)
  | (with_reducible refine LeO.ite ?_ ?_)
  | (with_reducible refine LeO.bind ?_ (fun _ => ?_))
theorem aumbrylaw07_wakes.ev_true : Ev (fun k => aumbrylaw07_wakes.f k) true := Ev.of (g := fun k => aumbrylaw07_wakes.f k) aumbrylaw07_wakes.mono (k := 40) (by kernel_rfl)
theorem aumbrylaw07_wakes.is_true (k : Nat) (r : Bool) (h : aumbrylaw07_wakes.f k = some r) : r = true := by
 obtain ⟨K1, h1⟩ := Ev.of (g := fun k => aumbrylaw07_wakes.f k) aumbrylaw07_wakes.mono h
 obtain ⟨K2, h2⟩ := aumbrylaw07_wakes.ev_true
 exact zS ((h1 (max K1 K2) (Nat.le_max_left _ _)).symm.trans (h2 _ (Nat.le_max_right _ _)))
theorem aumbrylaw07_wakes.calls (k : Nat)  (r : Bool) (w : World) (h : aumbrylaw07_wakes.f k  = some r) :
 Calls Try.prog 11 #[] w fun e w' => e = .returned (.bool r) ∧ Below w.heap.size w w' := by
 have HRT := zM (aumbrylaw07_wakes.is_true k r h)
 have hu54 := Try.underlying54
 have hu73 := Try.underlying73
 have hu28 := Try.underlying28
 have HB := zM (Below.refl w.heap.size w)
 have H : ((rewrite_Normal.f k (([(⟨1, (([(⟨(⟨#[102]⟩ : ByteArray), 1⟩ : S54), (⟨(⟨#[88]⟩ : ByteArray), 0⟩ : S54)] : List (S54))), (([(⟨(⟨#[115]⟩ : ByteArray), 1⟩ : S54), (⟨(⟨#[88]⟩ : ByteArray), 0⟩ : S54)] : List (S54)))⟩ : S73)] : List (S73))) (([(⟨(⟨#[102]⟩ : ByteArray), 1⟩ : S54), (⟨(⟨#[97]⟩ : ByteArray), 0⟩ : S54)] : List (S54))) 5).bind fun bt113 => ((rewrite_Start.f k (([(⟨(⟨#[103]⟩ : ByteArray), 2⟩ : S54), (⟨(⟨#[97]⟩ : ByteArray), 0⟩ : S54), (⟨(⟨#[98]⟩ : ByteArray), 0⟩ : S54)] : List (S54)))).bind fun bt121 => (if bt113.2.2 = 0 then (if bt113.2.1 = 1 then (if (bt113.1.length : Int) = 2 then (if 0 < (bt113.1.length : Int) then (if ((rd_T54 bt113.1 0).f0).toList = ([115] : List UInt8) then (if bt121.2.2.2.2 = 0 then (if (bt121.1.length : Int) = 3 then (if 0 < (bt121.1.length : Int) then (if ((rd_T70 bt121.1 0).f1.f0).toList = ([103] : List UInt8) then (if 2 < (bt121.1.length : Int) then (some (((rd_T70 bt121.1 2).f1.f0).toList == ([97] : List UInt8))) else (none)) else (some false)) else (none)) else (some false)) else (some false)) else (some false)) else (none)) else (some false)) else (some false)) else (some false)))) = some r := h
 clear h
 obtain ⟨y101, hy101⟩ : ∃ y_ : List (S54), y_ = (([(⟨(⟨#[102]⟩ : ByteArray), 1⟩ : S54), (⟨(⟨#[88]⟩ : ByteArray), 0⟩ : S54)] : List (S54))) := ⟨_, rfl⟩
 replace H : ((rewrite_Normal.f k (([(⟨1, y101, (([(⟨(⟨#[115]⟩ : ByteArray), 1⟩ : S54), (⟨(⟨#[88]⟩ : ByteArray), 0⟩ : S54)] : List (S54)))⟩ : S73)] : List (S73))) (([(⟨(⟨#[102]⟩ : ByteArray), 1⟩ : S54), (⟨(⟨#[97]⟩ : ByteArray), 0⟩ : S54)] : List (S54))) 5).bind fun bt113 => ((rewrite_Start.f k (([(⟨(⟨#[103]⟩ : ByteArray), 2⟩ : S54), (⟨(⟨#[97]⟩ : ByteArray), 0⟩ : S54), (⟨(⟨#[98]⟩ : ByteArray), 0⟩ : S54)] : List (S54)))).bind fun bt121 => (if bt113.2.2 = 0 then (if bt113.2.1 = 1 then (if (bt113.1.length : Int) = 2 then (if 0 < (bt113.1.length : Int) then (if ((rd_T54 bt113.1 0).f0).toList = ([115] : List UInt8) then (if bt121.2.2.2.2 = 0 then (if (bt121.1.length : Int) = 3 then (if 0 < (bt121.1.length : Int) then (if ((rd_T70 bt121.1 0).f1.f0).toList = ([103] : List UInt8) then (if 2 < (bt121.1.length : Int) then (some (((rd_T70 bt121.1 2).f1.f0).toList == ([97] : List UInt8))) else (none)) else (some false)) else (none)) else (some false)) else (some false)) else (some false)) else (none)) else (some false)) else (some false)) else (some false)))) = some r := by first | (rw [hy101]; with_reducible exact H) | (have H2_ := (Option.bind_some _ _).symm.trans H; rw [hy101]; with_reducible exact H2_) | (have H2_ := (Option.bind_some _ _).symm.trans H; with_reducible exact H2_) | with_reducible exact H | (rw [hy101]; exact H) | exact H
 have Ny101 := zM hy101
 clear hy101
 obtain ⟨y104, hy104⟩ : ∃ y_ : List (S54), y_ = (([(⟨(⟨#[115]⟩ : ByteArray), 1⟩ : S54), (⟨(⟨#[88]⟩ : ByteArray), 0⟩ : S54)] : List (S54))) := ⟨_, rfl⟩
 replace H : ((rewrite_Normal.f k (([(⟨1, y101, y104⟩ : S73)] : List (S73))) (([(⟨(⟨#[102]⟩ : ByteArray), 1⟩ : S54), (⟨(⟨#[97]⟩ : ByteArray), 0⟩ : S54)] : List (S54))) 5).bind fun bt113 => ((rewrite_Start.f k (([(⟨(⟨#[103]⟩ : ByteArray), 2⟩ : S54), (⟨(⟨#[97]⟩ : ByteArray), 0⟩ : S54), (⟨(⟨#[98]⟩ : ByteArray), 0⟩ : S54)] : List (S54)))).bind fun bt121 => (if bt113.2.2 = 0 then (if bt113.2.1 = 1 then (if (bt113.1.length : Int) = 2 then (if 0 < (bt113.1.length : Int) then (if ((rd_T54 bt113.1 0).f0).toList = ([115] : List UInt8) then (if bt121.2.2.2.2 = 0 then (if (bt121.1.length : Int) = 3 then (if 0 < (bt121.1.length : Int) then (if ((rd_T70 bt121.1 0).f1.f0).toList = ([103] : List UInt8) then (if 2 < (bt121.1.length : Int) then (some (((rd_T70 bt121.1 2).f1.f0).toList == ([97] : List UInt8))) else (none)) else (some false)) else (none)) else (some false)) else (some false)) else (some false)) else (none)) else (some false)) else (some false)) else (some false)))) = some r := by first | (rw [hy104]; with_reducible exact H) | (have H2_ := (Option.bind_some _ _).symm.trans H; rw [hy104]; with_reducible exact H2_) | (have H2_ := (Option.bind_some _ _).symm.trans H; with_reducible exact H2_) | with_reducible exact H | (rw [hy104]; exact H) | exact H
 have Ny104 := zM hy104
 clear hy104
 obtain ⟨y107, hy107⟩ : ∃ y_ : List (S73), y_ = (([(⟨1, y101, y104⟩ : S73)] : List (S73))) := ⟨_, rfl⟩
 replace H : ((rewrite_Normal.f k y107 (([(⟨(⟨#[102]⟩ : ByteArray), 1⟩ : S54), (⟨(⟨#[97]⟩ : ByteArray), 0⟩ : S54)] : List (S54))) 5).bind fun bt113 => ((rewrite_Start.f k (([(⟨(⟨#[103]⟩ : ByteArray), 2⟩ : S54), (⟨(⟨#[97]⟩ : ByteArray), 0⟩ : S54), (⟨(⟨#[98]⟩ : ByteArray), 0⟩ : S54)] : List (S54)))).bind fun bt121 => (if bt113.2.2 = 0 then (if bt113.2.1 = 1 then (if (bt113.1.length : Int) = 2 then (if 0 < (bt113.1.length : Int) then (if ((rd_T54 bt113.1 0).f0).toList = ([115] : List UInt8) then (if bt121.2.2.2.2 = 0 then (if (bt121.1.length : Int) = 3 then (if 0 < (bt121.1.length : Int) then (if ((rd_T70 bt121.1 0).f1.f0).toList = ([103] : List UInt8) then (if 2 < (bt121.1.length : Int) then (some (((rd_T70 bt121.1 2).f1.f0).toList == ([97] : List UInt8))) else (none)) else (some false)) else (none)) else (some false)) else (some false)) else (some false)) else (none)) else (some false)) else (some false)) else (some false)))) = some r := by first | (rw [hy107]; with_reducible exact H) | (have H2_ := (Option.bind_some _ _).symm.trans H; rw [hy107]; with_reducible exact H2_) | (have H2_ := (Option.bind_some _ _).symm.trans H; with_reducible exact H2_) | with_reducible exact H | (rw [hy107]; exact H) | exact H
 have Ny107 := zM hy107
 clear hy107
 obtain ⟨y110, hy110⟩ : ∃ y_ : List (S54), y_ = (([(⟨(⟨#[102]⟩ : ByteArray), 1⟩ : S54), (⟨(⟨#[97]⟩ : ByteArray), 0⟩ : S54)] : List (S54))) := ⟨_, rfl⟩
 replace H : ((rewrite_Normal.f k y107 y110 5).bind fun bt113 => ((rewrite_Start.f k (([(⟨(⟨#[103]⟩ : ByteArray), 2⟩ : S54), (⟨(⟨#[97]⟩ : ByteArray), 0⟩ : S54), (⟨(⟨#[98]⟩ : ByteArray), 0⟩ : S54)] : List (S54)))).bind fun bt121 => (if bt113.2.2 = 0 then (if bt113.2.1 = 1 then (if (bt113.1.length : Int) = 2 then (if 0 < (bt113.1.length : Int) then (if ((rd_T54 bt113.1 0).f0).toList = ([115] : List UInt8) then (if bt121.2.2.2.2 = 0 then (if (bt121.1.length : Int) = 3 then (if 0 < (bt121.1.length : Int) then (if ((rd_T70 bt121.1 0).f1.f0).toList = ([103] : List UInt8) then (if 2 < (bt121.1.length : Int) then (some (((rd_T70 bt121.1 2).f1.f0).toList == ([97] : List UInt8))) else (none)) else (some false)) else (none)) else (some false)) else (some false)) else (some false)) else (none)) else (some false)) else (some false)) else (some false)))) = some r := by first | (rw [hy110]; with_reducible exact H) | (have H2_ := (Option.bind_some _ _).symm.trans H; rw [hy110]; with_reducible exact H2_) | (have H2_ := (Option.bind_some _ _).symm.trans H; with_reducible exact H2_) | with_reducible exact H | (rw [hy110]; exact H) | exact H
 have Ny110 := zM hy110
 clear hy110
 replace H := zB H
 obtain ⟨⟨t113, t116, t117⟩, A10, H⟩ := H
 try dsimp only at H
 have A1 := zM A10
 clear A10
 obtain ⟨y118, hy118⟩ : ∃ y_ : List (S54), y_ = (([(⟨(⟨#[103]⟩ : ByteArray), 2⟩ : S54), (⟨(⟨#[97]⟩ : ByteArray), 0⟩ : S54), (⟨(⟨#[98]⟩ : ByteArray), 0⟩ : S54)] : List (S54))) := ⟨_, rfl⟩
 replace H : ((rewrite_Start.f k y118).bind fun bt121 => (if t117 = 0 then (if t116 = 1 then (if (t113.length : Int) = 2 then (if 0 < (t113.length : Int) then (if ((rd_T54 t113 0).f0).toList = ([115] : List UInt8) then (if bt121.2.2.2.2 = 0 then (if (bt121.1.length : Int) = 3 then (if 0 < (bt121.1.length : Int) then (if ((rd_T70 bt121.1 0).f1.f0).toList = ([103] : List UInt8) then (if 2 < (bt121.1.length : Int) then (some (((rd_T70 bt121.1 2).f1.f0).toList == ([97] : List UInt8))) else (none)) else (some false)) else (none)) else (some false)) else (some false)) else (some false)) else (none)) else (some false)) else (some false)) else (some false))) = some r := by first | (rw [hy118]; with_reducible exact H) | (have H2_ := (Option.bind_some _ _).symm.trans H; rw [hy118]; with_reducible exact H2_) | (have H2_ := (Option.bind_some _ _).symm.trans H; with_reducible exact H2_) | with_reducible exact H | (rw [hy118]; exact H) | exact H
 have Ny118 := zM hy118
 clear hy118
 replace H := zB H
 obtain ⟨⟨t121, t124, t127, t128, t131⟩, A20, H⟩ := H
 try dsimp only at H
 have A2 := zM A20
 clear A20
 by_cases c3 : t117 = 0
 ·
  rw [if_pos c3] at H
  have c3b0 : (t117 == 0) = true := zG c3
  have c3b1 : (t117 != 0) = false := zH c3
  clear c3
  by_cases c4 : t116 = 1
  ·
   rw [if_pos c4] at H
   have c4b0 : (t116 == 1) = true := zG c4
   have c4b1 : (t116 != 1) = false := zH c4
   clear c4
   by_cases c5 : (t113.length : Int) = 2
   ·
    rw [if_pos c5] at H
    have c5b0 : ((t113.length : Int) == 2) = true := zG c5
    have c5b1 : ((t113.length : Int) != 2) = false := zH c5
    clear c5
    by_cases c6 : 0 < (t113.length : Int)
    ·
     rw [if_pos c6] at H
     have c6b0 : decide (0 < (t113.length : Int)) = true := zQ c6
     have c6b1 : decide (0 < t113.length) = true := zQ (by omega)
     clear c6
     by_cases c7 : ((rd_T54 t113 0).f0).toList = ([115] : List UInt8)
     ·
      rw [if_pos c7] at H
      have c7b0 : (((rd_T54 t113 0).f0).toList == ([115] : List UInt8)) = true := zG c7
      have c7b1 : (((rd_T54 t113 0).f0).toList != ([115] : List UInt8)) = false := zH c7
      clear c7
      by_cases c8 : t131 = 0
      ·
       rw [if_pos c8] at H
       have c8b0 : (t131 == 0) = true := zG c8
       have c8b1 : (t131 != 0) = false := zH c8
       clear c8
       by_cases c9 : (t121.length : Int) = 3
       ·
        rw [if_pos c9] at H
        have c9b0 : ((t121.length : Int) == 3) = true := zG c9
        have c9b1 : ((t121.length : Int) != 3) = false := zH c9
        clear c9
        by_cases c10 : 0 < (t121.length : Int)
        ·
         rw [if_pos c10] at H
         have c10b0 : decide (0 < (t121.length : Int)) = true := zQ c10
         have c10b1 : decide (0 < t121.length) = true := zQ (by omega)
         clear c10
         by_cases c11 : ((rd_T70 t121 0).f1.f0).toList = ([103] : List UInt8)
         ·
          rw [if_pos c11] at H
          have c11b0 : (((rd_T70 t121 0).f1.f0).toList == ([103] : List UInt8)) = true := zG c11
          have c11b1 : (((rd_T70 t121 0).f1.f0).toList != ([103] : List UInt8)) = false := zH c11
          clear c11
          by_cases c12 : 2 < (t121.length : Int)
          ·
           rw [if_pos c12] at H
           have c12b0 : decide (2 < (t121.length : Int)) = true := zQ c12
           have c12b1 : decide (2 < t121.length) = true := zQ (by omega)
           clear c12
           obtain rfl := zS H
           go_enter Try.func11, Try.ntmps11
           go_wp2_with (first | ((with_reducible refine gate_dst (N := 9) rfl ?_); (try (refine gate_guard (by rfl) ?_; dsimp only)); refine Kd.R_lit k54 _ 54 ?hg (N := 9) ?hd (xs := ([(⟨(⟨#[102]⟩ : ByteArray), 1⟩ : S54), (⟨(⟨#[88]⟩ : ByteArray), 0⟩ : S54)] : List (S54))) (inner := [.string (⟨#[102]⟩ : ByteArray), .int .i64 1, .string (⟨#[88]⟩ : ByteArray), .int .i64 0]) (ok := fun _ => True) (okp := fun _ => True) ?hr ?hp (fun _ hk => hk) trivial (Below.refl _ _) (Nat.le_refl _) (by simp) ?_; (case hd => rfl); (case hg => rfl); (case hr => first | (go_simp; done) | (go_simp; rfl)); (case hp => exact (Reps.c2 (show Kd.M k54 _ _ _ (⟨(⟨#[102]⟩ : ByteArray), 1⟩ : S54) [.string (⟨#[102]⟩ : ByteArray), .int .i64 1] from (k54_mkM _ _ _ (⟨(⟨#[102]⟩ : ByteArray), 1⟩ : S54) )) (Reps.c2 (show Kd.M k54 _ _ _ (⟨(⟨#[88]⟩ : ByteArray), 0⟩ : S54) [.string (⟨#[88]⟩ : ByteArray), .int .i64 0] from (k54_mkM _ _ _ (⟨(⟨#[88]⟩ : ByteArray), 0⟩ : S54) )) (Reps.none _ _)))); intro v102 w13 ho14 hb hg_ hnew_; clear hg_ hnew_; (first | rw [← Ny101.out] at ho14 | (simp only [Int.reduceToNat] at ho14; rw [← Ny101.out] at ho14)); have HO103 := zM (Kd.R_lower ho14 (below_size zb)); replace HB := zM (below_step zb hb); clear hb ho14) | ((with_reducible refine gate_dst (N := 12) rfl ?_); (try (refine gate_guard (by rfl) ?_; dsimp only)); refine Kd.R_lit k54 _ 54 ?hg (N := 12) ?hd (xs := ([(⟨(⟨#[115]⟩ : ByteArray), 1⟩ : S54), (⟨(⟨#[88]⟩ : ByteArray), 0⟩ : S54)] : List (S54))) (inner := [.string (⟨#[115]⟩ : ByteArray), .int .i64 1, .string (⟨#[88]⟩ : ByteArray), .int .i64 0]) (ok := fun _ => True) (okp := fun _ => True) ?hr ?hp (fun _ hk => hk) trivial (Below.refl _ _) (Nat.le_refl _) (by simp) ?_; (case hd => rfl); (case hg => rfl); (case hr => first | (go_simp; done) | (go_simp; rfl)); (case hp => exact (Reps.c2 (show Kd.M k54 _ _ _ (⟨(⟨#[115]⟩ : ByteArray), 1⟩ : S54) [.string (⟨#[115]⟩ : ByteArray), .int .i64 1] from (k54_mkM _ _ _ (⟨(⟨#[115]⟩ : ByteArray), 1⟩ : S54) )) (Reps.c2 (show Kd.M k54 _ _ _ (⟨(⟨#[88]⟩ : ByteArray), 0⟩ : S54) [.string (⟨#[88]⟩ : ByteArray), .int .i64 0] from (k54_mkM _ _ _ (⟨(⟨#[88]⟩ : ByteArray), 0⟩ : S54) )) (Reps.none _ _)))); intro v105 w15 ho16 hb hg_ hnew_; clear hg_ hnew_; (first | rw [← Ny104.out] at ho16 | (simp only [Int.reduceToNat] at ho16; rw [← Ny104.out] at ho16)); have HO106 := zM (Kd.R_lower (Kd.R_new' ho16 (Kd.R_lt (zr HO103.out))) (below_size zb)); replace HO103 := zM (Kd.R_elder' (zr HO103.out) (Kd.R_base ho16) hb); replace HB := zM (below_step zb hb); clear hb ho16; obtain ⟨Ao17, co17, eo17⟩ := Kd.R_slice HO106.out; subst eo17; obtain ⟨Ao18, co18, eo18⟩ := Kd.R_slice HO103.out; subst eo18) | ((with_reducible refine gate_dst (N := 14) rfl ?_); (try (refine gate_guard (by rfl) ?_; dsimp only)); refine Kd.N_lit k73 _ 73 ?hg (N' := 14) ?hd (xs := ([(⟨1, y101, y104⟩ : S73)] : List (S73))) (inner := [.int .i64 1, .slice Ao18 y101.length co18, .slice Ao17 y104.length co17]) (ok := (fun _ => True)) (okp := (fun _ => True)) ?hr ?hp (fun _ hk => hk) ((show ∀ k_, w15.heap.size ≤ k_ → (fun _ => True) k_ from fun k_ hk => trivial) _ (Nat.le_refl _)) (Below.refl _ _) (Nat.le_refl _) (by simp) ?_; (case hd => rfl); (case hg => rfl); (case hr => first | (go_simp; done) | (go_simp; rfl)); (case hp => exact (Reps.c3 (show Kd.FK k73 _ _ (⟨1, y101, y104⟩ : S73) [.int .i64 1, .slice Ao18 y101.length co18, .slice Ao17 y104.length co17] from (k73_mkF _ _ (⟨1, y101, y104⟩ : S73) (Kd.R_reads' (Kd.R_mono (ok' := (fun _ => True)) (HO103.out) (fun k_ hk => trivial))).2.1 (Kd.R_F (Kd.R_mono (ok' := (fun _ => True)) (HO103.out) (fun k_ hk => trivial))) (Kd.R_reads' (Kd.R_mono (ok' := (fun _ => True)) (HO106.out) (fun k_ hk => trivial))).2.1 (Kd.R_F (Kd.R_mono (ok' := (fun _ => True)) (HO106.out) (fun k_ hk => trivial))))) (Reps.none _ _))); intro v108 w19 ho20 hb hg_ hnew_; clear hg_ hnew_; (first | rw [← Ny107.out] at ho20 | (simp only [Int.reduceToNat] at ho20; rw [← Ny107.out] at ho20)); have HO109 := zM (Kd.N_lower ho20 (below_size zb)); replace HB := zM (below_step zb hb); clear HO103 HO106; clear hb ho20) | ((with_reducible refine gate_dst (N := 19) rfl ?_); (try (refine gate_guard (by rfl) ?_; dsimp only)); refine Kd.R_lit k54 _ 54 ?hg (N := 19) ?hd (xs := ([(⟨(⟨#[102]⟩ : ByteArray), 1⟩ : S54), (⟨(⟨#[97]⟩ : ByteArray), 0⟩ : S54)] : List (S54))) (inner := [.string (⟨#[102]⟩ : ByteArray), .int .i64 1, .string (⟨#[97]⟩ : ByteArray), .int .i64 0]) (ok := fun _ => True) (okp := fun _ => True) ?hr ?hp (fun _ hk => hk) trivial (Below.refl _ _) (Nat.le_refl _) (by simp) ?_; (case hd => rfl); (case hg => rfl); (case hr => first | (go_simp; done) | (go_simp; rfl)); (case hp => exact (Reps.c2 (show Kd.M k54 _ _ _ (⟨(⟨#[102]⟩ : ByteArray), 1⟩ : S54) [.string (⟨#[102]⟩ : ByteArray), .int .i64 1] from (k54_mkM _ _ _ (⟨(⟨#[102]⟩ : ByteArray), 1⟩ : S54) )) (Reps.c2 (show Kd.M k54 _ _ _ (⟨(⟨#[97]⟩ : ByteArray), 0⟩ : S54) [.string (⟨#[97]⟩ : ByteArray), .int .i64 0] from (k54_mkM _ _ _ (⟨(⟨#[97]⟩ : ByteArray), 0⟩ : S54) )) (Reps.none _ _)))); intro v111 w21 ho22 hb hg_ hnew_; clear hg_ hnew_; (first | rw [← Ny110.out] at ho22 | (simp only [Int.reduceToNat] at ho22; rw [← Ny110.out] at ho22)); replace HO109 := zM (Kd.N_elder' (Kd.N_below HO109.out zg) (Kd.R_base ho22) hb); have HO112 := zM (Kd.R_lower ho22 (below_size zb)); replace HB := zM (below_step zb hb); clear hb ho22; obtain ⟨Ao23, co23, eo23⟩ := Kd.N_slice HO109.out; subst eo23; obtain ⟨Ao24, co24, eo24⟩ := Kd.R_slice HO112.out; subst eo24) | ((with_reducible refine gate_callee (f := 24) rfl ?_); refine goesL_ (some 20) rfl rfl Try.func24 (by kernel_rfl) rfl #[.slice Ao23 y107.length co23, .slice Ao24 y110.length co24, .int .i64 5] rfl zl ?_; (with_reducible refine (rewrite_Normal.calls k _ _ y107 _ _ y110 5 t113 t116 t117 _ ?side1 ?side2 ?side3 ?side4 A1.out).mono ?_); (case side1 => exact Kd.C_below (Kd.N_reads' HO109.out).2.2 zg); (case side2 => exact (Kd.N_reads' HO109.out).2.1); (case side3 => exact Kd.C_below (Kd.R_reads' HO112.out).2.2 zg); (case side4 => exact (Kd.R_reads' HO112.out).2.1); rintro e w25 ⟨v114, rfl, ho0, hb⟩; refine ⟨_, rfl, ?_⟩; have HO115 := zM (Kd.V_lower (Kd.V_mono (ok' := fun k_ => some k_ ≠ (.slice Ao23 y107.length co23 : Value).ownBlock ∧ some k_ ≠ (.slice Ao24 y110.length co24 : Value).ownBlock) ho0 (fun k_ hk_ => ⟨(Kd.fresh' (Kd.N_lt (Kd.N_below HO109.out zg)) k_ hk_), (Kd.fresh' (Kd.R_lt (zr HO112.out)) k_ hk_)⟩)) (below_size zb)); replace HO109 := zM (Kd.N_below (Kd.N_below HO109.out zg) hb); replace HO112 := zM (Kd.R_below (zr HO112.out) hb); replace HB := zM (below_step zb hb); (try clear hb); (try clear ho0)) | ((with_reducible refine gate_dst (N := 28) rfl ?_); (try (refine gate_guard (by rfl) ?_; dsimp only)); refine Kd.R_lit k54 _ 54 ?hg (N := 28) ?hd (xs := ([(⟨(⟨#[103]⟩ : ByteArray), 2⟩ : S54), (⟨(⟨#[97]⟩ : ByteArray), 0⟩ : S54), (⟨(⟨#[98]⟩ : ByteArray), 0⟩ : S54)] : List (S54))) (inner := [.string (⟨#[103]⟩ : ByteArray), .int .i64 2, .string (⟨#[97]⟩ : ByteArray), .int .i64 0, .string (⟨#[98]⟩ : ByteArray), .int .i64 0]) (ok := fun _ => True) (okp := fun _ => True) ?hr ?hp (fun _ hk => hk) trivial (Below.refl _ _) (Nat.le_refl _) (by simp) ?_; (case hd => rfl); (case hg => rfl); (case hr => first | (go_simp; done) | (go_simp; rfl)); (case hp => exact (Reps.c2 (show Kd.M k54 _ _ _ (⟨(⟨#[103]⟩ : ByteArray), 2⟩ : S54) [.string (⟨#[103]⟩ : ByteArray), .int .i64 2] from (k54_mkM _ _ _ (⟨(⟨#[103]⟩ : ByteArray), 2⟩ : S54) )) (Reps.c2 (show Kd.M k54 _ _ _ (⟨(⟨#[97]⟩ : ByteArray), 0⟩ : S54) [.string (⟨#[97]⟩ : ByteArray), .int .i64 0] from (k54_mkM _ _ _ (⟨(⟨#[97]⟩ : ByteArray), 0⟩ : S54) )) (Reps.c2 (show Kd.M k54 _ _ _ (⟨(⟨#[98]⟩ : ByteArray), 0⟩ : S54) [.string (⟨#[98]⟩ : ByteArray), .int .i64 0] from (k54_mkM _ _ _ (⟨(⟨#[98]⟩ : ByteArray), 0⟩ : S54) )) (Reps.none _ _))))); intro v119 w26 ho27 hb hg_ hnew_; clear hg_ hnew_; (first | rw [← Ny118.out] at ho27 | (simp only [Int.reduceToNat] at ho27; rw [← Ny118.out] at ho27)); replace HO109 := zM (Kd.N_elder' (Kd.N_below HO109.out zg) (Kd.R_base ho27) hb); replace HO115 := zM (Kd.V_elder' (Kd.V_below HO115.out zg) (Kd.R_base ho27) hb); have HO120 := zM (Kd.R_lower (Kd.R_new' ho27 (Kd.R_lt (zr HO112.out))) (below_size zb)); replace HO112 := zM (Kd.R_elder' (zr HO112.out) (Kd.R_base ho27) hb); replace HB := zM (below_step zb hb); clear hb ho27; obtain ⟨Ao28, co28, eo28⟩ := Kd.R_slice HO120.out; subst eo28) | ((with_reducible refine gate_callee (f := 12) rfl ?_); refine goesL_ (some 29) rfl rfl Try.func12 (by kernel_rfl) rfl #[.slice Ao28 y118.length co28] rfl zl ?_; (with_reducible refine (rewrite_Start.calls k _ _ y118 t121 t124 t127 t128 t131 _ ?side1 ?side2 A2.out).mono ?_); (case side1 => exact Kd.C_below (Kd.R_reads' HO120.out).2.2 zg); (case side2 => exact (Kd.R_reads' HO120.out).2.1); rintro e w29 ⟨v122, v125, v129, rfl, ho0, ho1, ho2, hb⟩; refine ⟨_, rfl, ?_⟩; replace HO115 := zM (Kd.V_mono (Kd.V_told (Kd.V_told (Kd.V_told (Kd.V_old (Kd.V_below HO115.out zg) hb) (Kd.N_base ho0)) (Kd.N_base ho1)) (Kd.R_base ho2)) (fun _ h_ => h_.1)); have HO123 := zM (Kd.N_lower (Kd.N_mono (ok' := fun k_ => some k_ ≠ (v125 : Value).ownBlock ∧ some k_ ≠ (v129 : Value).ownBlock ∧ some k_ ≠ (.slice Ao23 y107.length co23 : Value).ownBlock ∧ some k_ ≠ (.slice Ao24 y110.length co24 : Value).ownBlock ∧ some k_ ≠ (.slice Ao28 y118.length co28 : Value).ownBlock) ho0 (fun k_ hk_ => ⟨hk_.2.1, hk_.2.2, (Kd.fresh' (Kd.N_lt (Kd.N_below HO109.out zg)) k_ hk_.1), (Kd.fresh' (Kd.R_lt (zr HO112.out)) k_ hk_.1), (Kd.fresh' (Kd.R_lt (zr HO120.out)) k_ hk_.1)⟩)) (below_size zb)); have HO126 := zM (Kd.N_lower (Kd.N_mono (ok' := fun k_ => some k_ ≠ (v122 : Value).ownBlock ∧ some k_ ≠ (v129 : Value).ownBlock ∧ some k_ ≠ (.slice Ao23 y107.length co23 : Value).ownBlock ∧ some k_ ≠ (.slice Ao24 y110.length co24 : Value).ownBlock ∧ some k_ ≠ (.slice Ao28 y118.length co28 : Value).ownBlock) ho1 (fun k_ hk_ => ⟨hk_.2.1, hk_.2.2, (Kd.fresh' (Kd.N_lt (Kd.N_below HO109.out zg)) k_ hk_.1), (Kd.fresh' (Kd.R_lt (zr HO112.out)) k_ hk_.1), (Kd.fresh' (Kd.R_lt (zr HO120.out)) k_ hk_.1)⟩)) (below_size zb)); replace HO109 := zM (Kd.N_mono (Kd.N_told (Kd.N_told (Kd.N_told (Kd.N_old (Kd.N_below HO109.out zg) hb) (Kd.N_base ho0)) (Kd.N_base ho1)) (Kd.R_base ho2)) (fun _ h_ => h_.1)); replace HO112 := zM (Kd.R_below (zr HO112.out) hb); replace HO120 := zM (Kd.R_below (zr HO120.out) hb); have HO130 := zM (Kd.R_lower (Kd.R_mono (ok' := fun k_ => True) ho2 (fun _ hk_ => trivial)) (below_size zb)); replace HB := zM (below_step zb hb); (try clear hb); (try clear ho0); (try clear ho1); (try clear ho2)) | ((with_reducible refine gate_dst (N := 5) rfl ?_); (try (refine gate_guard (by rfl) ?_; dsimp only)); refine box_event ?hg (N := 5) ?hd (cs := #[.slice none 0 0, .slice none 0 0, .int .i64 0, .slice none 0 0]) (t := 28) ?hr ?_; (case hd => rfl); (case hg => rfl); (case hr => first | (go_simp; done) | (go_simp; rfl)); intro gb132 hg w30 hbox hb; replace HO109 := zM (Kd.N_below (Kd.N_elderB (Kd.N_below HO109.out zg) gb132 (Nat.le_of_eq hg.symm)) hb); replace HO112 := zM (Kd.R_below (zr HO112.out) hb); replace HO115 := zM (Kd.V_below (Kd.V_elderB (Kd.V_below HO115.out zg) gb132 (Nat.le_of_eq hg.symm)) hb); replace HO120 := zM (Kd.R_below (zr HO120.out) hb); replace HO123 := zM (Kd.N_below (Kd.N_elderB (Kd.N_below HO123.out zg) gb132 (Nat.le_of_eq hg.symm)) hb); replace HO126 := zM (Kd.N_below (Kd.N_elderB (Kd.N_below HO126.out zg) gb132 (Nat.le_of_eq hg.symm)) hb); replace HO130 := zM (Kd.R_below (zr HO130.out) hb); have BK132 := zM (hbox); have GW132 := zM (zh hg : w.heap.size ≤ gb132); have GE132 := zM (zh hg : w.heap.size ≤ gb132); replace HB := zM (below_step zb hb); clear hb hbox hg; obtain ⟨Ao31, co31, eo31⟩ := Kd.N_slice HO123.out; subst eo31; have hcz32_0 : w30.cell? ⟨gb132, 0, none⟩ = some (.slice none 0 0) := (zX BK132.out 0).trans rfl; have hcz32_1 : w30.cell? ⟨gb132, 1, none⟩ = some (.slice none 0 0) := (zX BK132.out 1).trans rfl; have hcz32_2 : w30.cell? ⟨gb132, 2, none⟩ = some (.int .i64 0) := (zX BK132.out 2).trans rfl; have hcz32_3 : w30.cell? ⟨gb132, 3, none⟩ = some (.slice none 0 0) := (zX BK132.out 3).trans rfl; have hfz32_0 := zY BK132.out 0; have hfz32_1 := zY BK132.out 1; have hfz32_2 := zY BK132.out 2; have hfz32_3 := zY BK132.out 3; obtain ⟨Ao33, co33, eo33⟩ := Kd.N_slice HO126.out; subst eo33; obtain ⟨Ao34, co34, eo34⟩ := Kd.R_slice HO130.out; subst eo34) | ((with_reducible refine gate_store (t := 28) (p := 5) rfl ?_); refine store_event (t := 28) (p := 5) (v := ?vo_w35) (w1 := ((((w30.setCell ⟨gb132, 0, none⟩ (.slice Ao31 t121.length co31)).setCell ⟨gb132, 1, none⟩ (.slice Ao33 t124.length co33)).setCell ⟨gb132, 2, none⟩ (.int .i64 t127)).setCell ⟨gb132, 3, none⟩ (.slice Ao34 t128.length co34))) ?hg ?ho ?hn ?hr ?_; (case ho => rfl); (case hg => rfl); (case hn => rfl); (case hr => first | (go_simp; done) | (go_simp; rfl)); intro w35 hw; have n0_ : Aside0 (Kd.N k73 73 w35 w.heap.size (fun k_ => some k_ ≠ (.slice Ao24 y110.length co24 : Value).ownBlock ∧ some k_ ≠ (.slice Ao28 y118.length co28 : Value).ownBlock ∧ some k_ ≠ (.slice Ao31 t121.length co31 : Value).ownBlock ∧ some k_ ≠ (.slice Ao33 t124.length co33 : Value).ownBlock ∧ some k_ ≠ (.slice Ao34 t128.length co34 : Value).ownBlock ∧ k_ ≠ gb132) (.slice Ao23 y107.length co23) y107) := ⟨(by rw [hw]; exact (by (with_reducible repeat (first | apply Kd.N_alloc | apply Kd.N_drewN | apply Kd.N_drew)); exact Kd.N_mono (Kd.N_far (p := ⟨gb132, 3, none⟩) (Kd.N_far (p := ⟨gb132, 2, none⟩) (Kd.N_far (p := ⟨gb132, 1, none⟩) (Kd.N_far (p := ⟨gb132, 0, none⟩) (Kd.N_mono HO109.out (fun k_ hk => (⟨hk, hk.2⟩ : _ ∧ k_ ≠ gb132))) (fun _ hk => hk.2) (.slice Ao31 t121.length co31)) (fun _ hk => hk.2) (.slice Ao33 t124.length co33)) (fun _ hk => hk.2) (.int .i64 t127)) (fun _ hk => hk.2) (.slice Ao34 t128.length co34)) (fun _ hk => ⟨hk.1.1.1.1.1.1.2, ⟨hk.1.1.1.1.1.2, ⟨hk.1.1.1.1.2, ⟨hk.1.1.1.2, ⟨hk.1.1.2, hk.1.2⟩⟩⟩⟩⟩)))⟩; have n1_ : Aside0 (Kd.R k54 54 w35 w.heap.size (fun k_ => some k_ ≠ (.slice Ao28 y118.length co28 : Value).ownBlock) (.slice Ao24 y110.length co24) y110) := ⟨(by rw [hw]; exact (by (with_reducible repeat (first | apply Kd.R_alloc | apply Kd.R_drewN | apply Kd.R_drew)); exact Kd.R_mono (Kd.R_far (p := ⟨gb132, 3, none⟩) (Kd.R_far (p := ⟨gb132, 2, none⟩) (Kd.R_far (p := ⟨gb132, 1, none⟩) (Kd.R_far (p := ⟨gb132, 0, none⟩) (Kd.R_types HO112.out BK132.out (by decide)) (fun _ hk => hk.2) (.slice Ao31 t121.length co31)) (fun _ hk => hk.2) (.slice Ao33 t124.length co33)) (fun _ hk => hk.2) (.int .i64 t127)) (fun _ hk => hk.2) (.slice Ao34 t128.length co34)) (fun _ hk => hk.1.2)))⟩; have n2_ : Aside0 (Kd.V k54 54 w35 w.heap.size (fun k_ => some k_ ≠ (.slice Ao23 y107.length co23 : Value).ownBlock ∧ some k_ ≠ (.slice Ao24 y110.length co24 : Value).ownBlock ∧ some k_ ≠ (.slice Ao28 y118.length co28 : Value).ownBlock ∧ some k_ ≠ (.slice Ao31 t121.length co31 : Value).ownBlock ∧ some k_ ≠ (.slice Ao33 t124.length co33 : Value).ownBlock ∧ some k_ ≠ (.slice Ao34 t128.length co34 : Value).ownBlock ∧ k_ ≠ gb132) v114 t113) := ⟨(by rw [hw]; exact (by (with_reducible repeat (first | apply Kd.V_alloc | apply Kd.V_drewN | apply Kd.V_drew)); exact Kd.V_mono (Kd.V_far (p := ⟨gb132, 3, none⟩) (Kd.V_far (p := ⟨gb132, 2, none⟩) (Kd.V_far (p := ⟨gb132, 1, none⟩) (Kd.V_far (p := ⟨gb132, 0, none⟩) (Kd.V_mono HO115.out (fun k_ hk => (⟨hk, hk.2⟩ : _ ∧ k_ ≠ gb132))) (fun _ hk => hk.2) (.slice Ao31 t121.length co31)) (fun _ hk => hk.2) (.slice Ao33 t124.length co33)) (fun _ hk => hk.2) (.int .i64 t127)) (fun _ hk => hk.2) (.slice Ao34 t128.length co34)) (fun _ hk => ⟨hk.1.1.1.1.1.1.1, ⟨hk.1.1.1.1.1.1.2, ⟨hk.1.1.1.1.1.2, ⟨hk.1.1.1.1.2, ⟨hk.1.1.1.2, ⟨hk.1.1.2, hk.1.2⟩⟩⟩⟩⟩⟩)))⟩; have n3_ : Aside0 (Kd.R k54 54 w35 w.heap.size (fun k_ => some k_ ≠ (.slice Ao24 y110.length co24 : Value).ownBlock) (.slice Ao28 y118.length co28) y118) := ⟨(by rw [hw]; exact (by (with_reducible repeat (first | apply Kd.R_alloc | apply Kd.R_drewN | apply Kd.R_drew)); exact Kd.R_mono (Kd.R_far (p := ⟨gb132, 3, none⟩) (Kd.R_far (p := ⟨gb132, 2, none⟩) (Kd.R_far (p := ⟨gb132, 1, none⟩) (Kd.R_far (p := ⟨gb132, 0, none⟩) (Kd.R_types HO120.out BK132.out (by decide)) (fun _ hk => hk.2) (.slice Ao31 t121.length co31)) (fun _ hk => hk.2) (.slice Ao33 t124.length co33)) (fun _ hk => hk.2) (.int .i64 t127)) (fun _ hk => hk.2) (.slice Ao34 t128.length co34)) (fun _ hk => hk.1.2)))⟩; have n4_ : Aside0 (Kd.N k70 70 w35 w.heap.size (fun k_ => some k_ ≠ (.slice Ao23 y107.length co23 : Value).ownBlock ∧ some k_ ≠ (.slice Ao24 y110.length co24 : Value).ownBlock ∧ some k_ ≠ (.slice Ao28 y118.length co28 : Value).ownBlock ∧ some k_ ≠ (.slice Ao33 t124.length co33 : Value).ownBlock ∧ some k_ ≠ (.slice Ao34 t128.length co34 : Value).ownBlock ∧ k_ ≠ gb132) (.slice Ao31 t121.length co31) t121) := ⟨(by rw [hw]; exact (by (with_reducible repeat (first | apply Kd.N_alloc | apply Kd.N_drewN | apply Kd.N_drew)); exact Kd.N_mono (Kd.N_far (p := ⟨gb132, 3, none⟩) (Kd.N_far (p := ⟨gb132, 2, none⟩) (Kd.N_far (p := ⟨gb132, 1, none⟩) (Kd.N_far (p := ⟨gb132, 0, none⟩) (Kd.N_mono HO123.out (fun k_ hk => (⟨hk, hk.2⟩ : _ ∧ k_ ≠ gb132))) (fun _ hk => hk.2) (.slice Ao31 t121.length co31)) (fun _ hk => hk.2) (.slice Ao33 t124.length co33)) (fun _ hk => hk.2) (.int .i64 t127)) (fun _ hk => hk.2) (.slice Ao34 t128.length co34)) (fun _ hk => ⟨hk.1.1.2.2.1, ⟨hk.1.1.2.2.2.1, ⟨hk.1.1.2.2.2.2, ⟨hk.1.1.1, ⟨hk.1.1.2.1, hk.1.2⟩⟩⟩⟩⟩)))⟩; have n5_ : Aside0 (Kd.N (Kd.slice 54 k54) 23 w35 w.heap.size (fun k_ => some k_ ≠ (.slice Ao23 y107.length co23 : Value).ownBlock ∧ some k_ ≠ (.slice Ao24 y110.length co24 : Value).ownBlock ∧ some k_ ≠ (.slice Ao28 y118.length co28 : Value).ownBlock ∧ some k_ ≠ (.slice Ao31 t121.length co31 : Value).ownBlock ∧ some k_ ≠ (.slice Ao34 t128.length co34 : Value).ownBlock ∧ k_ ≠ gb132) (.slice Ao33 t124.length co33) t124) := ⟨(by rw [hw]; exact (by (with_reducible repeat (first | apply Kd.N_alloc | apply Kd.N_drewN | apply Kd.N_drew)); exact Kd.N_mono (Kd.N_far (p := ⟨gb132, 3, none⟩) (Kd.N_far (p := ⟨gb132, 2, none⟩) (Kd.N_far (p := ⟨gb132, 1, none⟩) (Kd.N_far (p := ⟨gb132, 0, none⟩) (Kd.N_mono HO126.out (fun k_ hk => (⟨hk, hk.2⟩ : _ ∧ k_ ≠ gb132))) (fun _ hk => hk.2) (.slice Ao31 t121.length co31)) (fun _ hk => hk.2) (.slice Ao33 t124.length co33)) (fun _ hk => hk.2) (.int .i64 t127)) (fun _ hk => hk.2) (.slice Ao34 t128.length co34)) (fun _ hk => ⟨hk.1.1.2.2.1, ⟨hk.1.1.2.2.2.1, ⟨hk.1.1.2.2.2.2, ⟨hk.1.1.1, ⟨hk.1.1.2.1, hk.1.2⟩⟩⟩⟩⟩)))⟩; have n6_ : Aside0 (Kd.R Kd.string 9 w35 w.heap.size (fun _ => True) (.slice Ao34 t128.length co34) t128) := ⟨(by rw [hw]; exact (by (with_reducible repeat (first | apply Kd.R_alloc | apply Kd.R_drewN | apply Kd.R_drew)); exact Kd.R_mono (Kd.R_far (p := ⟨gb132, 3, none⟩) (Kd.R_far (p := ⟨gb132, 2, none⟩) (Kd.R_far (p := ⟨gb132, 1, none⟩) (Kd.R_far (p := ⟨gb132, 0, none⟩) (Kd.R_types HO130.out BK132.out (by decide)) (fun _ hk => hk.2) (.slice Ao31 t121.length co31)) (fun _ hk => hk.2) (.slice Ao33 t124.length co33)) (fun _ hk => hk.2) (.int .i64 t127)) (fun _ hk => hk.2) (.slice Ao34 t128.length co34)) (fun _ hk => trivial)))⟩; have n7_ : Aside0 (w35.heap[gb132]? = some (.cells #[.slice Ao31 t121.length co31, .slice Ao33 t124.length co33, .int .i64 t127, .slice Ao34 t128.length co34] 28 (0, 0))) := ⟨(by rw [hw]; exact (by refine zk ?_; refine blk_put (cs := #[.slice Ao31 t121.length co31, .slice Ao33 t124.length co33, .int .i64 t127, .slice none 0 0]) ?_ 3 _ rfl; refine zk ?_; refine blk_put (cs := #[.slice Ao31 t121.length co31, .slice Ao33 t124.length co33, .int .i64 0, .slice none 0 0]) ?_ 2 _ rfl; refine zk ?_; refine blk_put (cs := #[.slice Ao31 t121.length co31, .slice none 0 0, .int .i64 0, .slice none 0 0]) ?_ 1 _ rfl; refine zk ?_; refine blk_put (cs := #[.slice none 0 0, .slice none 0 0, .int .i64 0, .slice none 0 0]) ?_ 0 _ rfl; refine zk ?_; exact BK132.out))⟩; have n8_ : Aside0 (Below w.heap.size w w35) := ⟨(by rw [hw]; exact zb)⟩; clear hw; clear HO109; clear HO112; clear HO115; clear HO120; clear HO123; clear HO126; clear HO130; clear BK132; clear HB; have HO109 := n0_; have HO112 := n1_; have HO115 := n2_; have HO120 := n3_; have HO123 := n4_; have HO126 := n5_; have HO130 := n6_; have BK132 := n7_; have HB := n8_; clear n0_ n1_ n2_ n3_ n4_ n5_ n6_ n7_ n8_; obtain ⟨Ao36, co36, eo36⟩ := Kd.V_slice HO115.out; subst eo36; have p133 : 0 ≤ (0 : Int) := (by omega); have q133 : 0 < (t113.length : Int) := zT zv; obtain ⟨ad133, e133, hx133_0, hx133_1⟩ := at_T54 (Kd.V_reads' HO115.out).2.2 0 p133 q133; cases e133; have qi133 : (0 < t113.length) = True := eq_true (by omega); (try rw [show ((0 : Int)).toNat = 0 from rfl] at hx133_0); (try rw [show 0 * 2 = 0 from rfl] at hx133_0); (try rw [Addr.add_zero'] at hx133_0); (try rw [show ((0 : Int)).toNat = 0 from rfl] at hx133_1); (try rw [show 0 * 2 = 0 from rfl] at hx133_1); (try rw [Addr.add_zero'] at hx133_1); replace p133 := eq_true p133; replace q133 := eq_true q133; have hcz37_0 : w35.cell? ⟨gb132, 0, none⟩ = some (.slice Ao31 t121.length co31) := (zX BK132.out 0).trans rfl; have hcz37_1 : w35.cell? ⟨gb132, 1, none⟩ = some (.slice Ao33 t124.length co33) := (zX BK132.out 1).trans rfl; have hcz37_2 : w35.cell? ⟨gb132, 2, none⟩ = some (.int .i64 t127) := (zX BK132.out 2).trans rfl; have hcz37_3 : w35.cell? ⟨gb132, 3, none⟩ = some (.slice Ao34 t128.length co34) := (zX BK132.out 3).trans rfl; have hfz37_0 := zY BK132.out 0; have hfz37_1 := zY BK132.out 1; have hfz37_2 := zY BK132.out 2; have hfz37_3 := zY BK132.out 3; have p134 : 0 ≤ (0 : Int) := (by omega); have q134 : 0 < (t121.length : Int) := zT zv; obtain ⟨ad134, A134_3, c134_3, e134, hx134_0, hx134_1, hx134_2, hx134_3, hl134_3, hi134_3⟩ := at_T70 (Kd.N_reads' HO123.out).2.2 0 p134 q134; cases e134; obtain ⟨ce134, hce134, hMe134, hcc134⟩ := Kd.N_get HO123.out z70 0 p134 (by first | exact q134 | exact zT zv | (have e_ := (Kd.N_reads' HO123.out).1; omega)); obtain ⟨ua134_3, uc134_3, rfl, ul134_3, ge134_3⟩ := k70_openF hMe134; have hv134_3 := hcc134 3 _ rfl; rw [add_field _ _ 3 (by omega)] at hv134_3; replace hv134_3 := zS (hv134_3.symm.trans hx134_3); injection hv134_3 with hva_ hvn_ hvc_; rw [hva_] at ge134_3; rw [hvc_] at ul134_3; have HL134_3 := zM (show Kd.V k54 54 _ w.heap.size _ _ ((rd_T70 t121 0).f2) from Kd.V_mk ul134_3 ge134_3); clear hva_ hvn_ hvc_ ge134_3 ul134_3; clear hcc134 hce134; have qi134 : (0 < t121.length) = True := eq_true (by omega); (try rw [show ((0 : Int)).toNat = 0 from rfl] at hx134_0); (try rw [show 0 * 4 = 0 from rfl] at hx134_0); (try rw [Addr.add_zero'] at hx134_0); (try rw [show ((0 : Int)).toNat = 0 from rfl] at hx134_1); (try rw [show 0 * 4 = 0 from rfl] at hx134_1); (try rw [Addr.add_zero'] at hx134_1); (try rw [show ((0 : Int)).toNat = 0 from rfl] at hx134_2); (try rw [show 0 * 4 = 0 from rfl] at hx134_2); (try rw [Addr.add_zero'] at hx134_2); (try rw [show ((0 : Int)).toNat = 0 from rfl] at hx134_3); (try rw [show 0 * 4 = 0 from rfl] at hx134_3); (try rw [Addr.add_zero'] at hx134_3); have HR134_3 := zM hi134_3; have HC134_3 := zM hl134_3; clear hi134_3 hl134_3; replace p134 := eq_true p134; replace q134 := eq_true q134; have p135 : 0 ≤ (2 : Int) := (by omega); have q135 : 2 < (t121.length : Int) := zT zv; obtain ⟨ad135, A135_3, c135_3, e135, hx135_0, hx135_1, hx135_2, hx135_3, hl135_3, hi135_3⟩ := at_T70 (Kd.N_reads' HO123.out).2.2 2 p135 q135; obtain rfl : ad134 = ad135 := (by injection e135); obtain ⟨ce135, hce135, hMe135, hcc135⟩ := Kd.N_get HO123.out z70 2 p135 (by first | exact q135 | exact zT zv | (have e_ := (Kd.N_reads' HO123.out).1; omega)); obtain ⟨ua135_3, uc135_3, rfl, ul135_3, ge135_3⟩ := k70_openF hMe135; have hv135_3 := hcc135 3 _ rfl; rw [add_field _ _ 3 (by omega)] at hv135_3; replace hv135_3 := zS (hv135_3.symm.trans hx135_3); injection hv135_3 with hva_ hvn_ hvc_; rw [hva_] at ge135_3; rw [hvc_] at ul135_3; have HL135_3 := zM (show Kd.V k54 54 _ w.heap.size _ _ ((rd_T70 t121 2).f2) from Kd.V_mk ul135_3 ge135_3); clear hva_ hvn_ hvc_ ge135_3 ul135_3; clear hcc135 hce135; (try simp only [show (2 : Int).toNat = 2 from rfl, Nat.reduceMul, Nat.reduceEqDiff, Go.Addr.add, ↓reduceIte] at hx135_0); (try simp only [show (2 : Int).toNat = 2 from rfl, Nat.reduceMul, Nat.reduceEqDiff, Go.Addr.add, ↓reduceIte] at hx135_1); (try simp only [show (2 : Int).toNat = 2 from rfl, Nat.reduceMul, Nat.reduceEqDiff, Go.Addr.add, ↓reduceIte] at hx135_2); (try simp only [show (2 : Int).toNat = 2 from rfl, Nat.reduceMul, Nat.reduceEqDiff, Go.Addr.add, ↓reduceIte] at hx135_3); have qi135 : (2 < t121.length) = True := eq_true (by omega); (try rw [show ((2 : Int)).toNat = 2 from rfl] at hx135_0); (try rw [show 2 * 4 = 8 from rfl] at hx135_0); (try rw [show ((2 : Int)).toNat = 2 from rfl] at hx135_1); (try rw [show 2 * 4 = 8 from rfl] at hx135_1); (try rw [show ((2 : Int)).toNat = 2 from rfl] at hx135_2); (try rw [show 2 * 4 = 8 from rfl] at hx135_2); (try rw [show ((2 : Int)).toNat = 2 from rfl] at hx135_3); (try rw [show 2 * 4 = 8 from rfl] at hx135_3); have HR135_3 := zM hi135_3; have HC135_3 := zM hl135_3; clear hi135_3 hl135_3; replace p135 := eq_true p135; replace q135 := eq_true q135))
           go_ret
           exact ⟨zw, zb⟩
          ·
           rw [if_neg c12] at H
           exact absurd H (by simp)
         ·
          rw [if_neg c11] at H
          have c11b0 : (((rd_T70 t121 0).f1.f0).toList == ([103] : List UInt8)) = false := zE c11
          have c11b1 : (((rd_T70 t121 0).f1.f0).toList != ([103] : List UInt8)) = true := zF c11
          exact absurd ((zS H).trans HRT.out) (by decide)
        ·
         rw [if_neg c10] at H
         exact absurd H (by simp)
       ·
        rw [if_neg c9] at H
        have c9b0 : ((t121.length : Int) == 3) = false := zE c9
        have c9b1 : ((t121.length : Int) != 3) = true := zF c9
        exact absurd ((zS H).trans HRT.out) (by decide)
      ·
       rw [if_neg c8] at H
       have c8b0 : (t131 == 0) = false := zE c8
       have c8b1 : (t131 != 0) = true := zF c8
       exact absurd ((zS H).trans HRT.out) (by decide)
     ·
      rw [if_neg c7] at H
      have c7b0 : (((rd_T54 t113 0).f0).toList == ([115] : List UInt8)) = false := zE c7
      have c7b1 : (((rd_T54 t113 0).f0).toList != ([115] : List UInt8)) = true := zF c7
      exact absurd ((zS H).trans HRT.out) (by decide)
    ·
     rw [if_neg c6] at H
     exact absurd H (by simp)
   ·
    rw [if_neg c5] at H
    have c5b0 : ((t113.length : Int) == 2) = false := zE c5
    have c5b1 : ((t113.length : Int) != 2) = true := zF c5
    exact absurd ((zS H).trans HRT.out) (by decide)
  ·
   rw [if_neg c4] at H
   have c4b0 : (t116 == 1) = false := zE c4
   have c4b1 : (t116 != 1) = true := zF c4
   exact absurd ((zS H).trans HRT.out) (by decide)
 ·
  rw [if_neg c3] at H
  have c3b0 : (t117 == 0) = false := zE c3
  have c3b1 : (t117 != 0) = true := zF c3
  exact absurd ((zS H).trans HRT.out) (by decide)

end Go.Proofs.Ytdlkhpfgkghhmaa.P

-- ==== Sa2
namespace Go.Proofs.Ytdlkhpfgkghhmaa.P
open Go.RowKit Go.Proofs.YtdlkhpfgkghhmaaW.PrintWords Go.Proofs.YtdlkhpfgkghhmaaW.PrintLast Go.Proofs.YtdlkhpfgkghhmaaW.PrintMore
theorem right_calls {k co cv ch : Nat} {w : World} {Ao Av Ah : Option Addr} {ops : List S70} {vals : List (List S54)} {st : Int} {hd : List ByteArray} {r : Bool}
 (hO : Kd.C k70 w Ao ops.length ops) (hV : Kd.C (Kd.slice 54 k54) w Av vals.length vals) (hH : Kd.C Kd.string w Ah hd.length hd) (h : aumbryref07_Right.f k ops vals st hd = some r) :
 Calls Try.prog 18 #[.agg #[.slice Ao ops.length co, .slice Av vals.length cv, .int .i64 st, .slice Ah hd.length ch]] w fun e w' => e = .returned (.bool r) ∧ Below w.heap.size w w' := by
 unfold aumbryref07_Right.f at h
 have HO := Aside0.mk hO
 have HV := Aside0.mk hV
 have HH := Aside0.mk hH
 have HL := Aside0.mk h
 have HM := Aside0.mk (show (ops.length : Int) ≤ 9223372036854775807 by have := hO.2.1; omega)
 have HMV := Aside0.mk (show (vals.length : Int) ≤ 9223372036854775807 by have := hV.2.1; omega)
 have HMH := Aside0.mk (show (hd.length : Int) ≤ 9223372036854775807 by have := hH.2.1; omega)
 obtain ⟨sa, hsa⟩ : ∃ s : Array Value, s = #[.slice Ao ops.length co, .slice Av vals.length cv, .int .i64 st, .slice Ah hd.length ch] := ⟨_, rfl⟩
 have HZ := Aside0.mk (show (w.alloc (.cells #[.slice Ao ops.length co, .slice Av vals.length cv, .int .i64 st, .slice Ah hd.length ch] 28)).heap[w.heap.size]? = some (.cells sa 28 (0, 0)) by rw [hsa]; exact heap_alloc_new w _)
 have HB := Aside0.mk (below_alloc (Below.refl w.heap.size w) (.cells #[.slice Ao ops.length co, .slice Av vals.length cv, .int .i64 st, .slice Ah hd.length ch] 28))
 clear hO hV hH h
 go_enter Try.func18, Try.ntmps18
 go_wp2
 generalize (w.alloc (.cells #[.slice Ao ops.length co, .slice Av vals.length cv, .int .i64 st, .slice Ah hd.length ch] 28)) = W0 at HZ HB ⊢
 go_loopg [3, 4] ops.length (fun kq v3 v4 w' => ∃ (x3 x4 : Int) (kk : Nat), v3 = .int .i64 x3 ∧ v4 = .int .i64 x4 ∧ Aside0 (-1 ≤ x4 ∧ x4 + 1 = (kq : Int) ∧ x4 < (ops.length : Int)) ∧ Aside0 (aumbryref07_Right.l0 kk x3 x4 ops vals st hd = some r) ∧ Aside0 (w'.heap[w.heap.size]? = some (.cells sa 28 (0, 0))) ∧ Aside0 (Below w.heap.size w w'))
 case atStart =>
  have e_ : wrap64 ((ops.length : Int) - 1) = (ops.length : Int) - 1 := (by have := HM.out; unfold wrap64; omega)
  exact ⟨_, _, k, rfl, rfl, ⟨by rw [e_]; omega⟩, HL, HZ, HB⟩
 case round =>
  clear HL HZ HB
  obtain ⟨x3, x4, kk, rfl, rfl, HX, HL, HZ, HB⟩ := hrel
  cases kk with
  | zero => exact absurd HL.out (by simp [aumbryref07_Right.l0])
  | succ kk =>
  have z0 : wr.cell? ⟨w.heap.size, 0, none⟩ = some (.slice Ao ops.length co) := (blk_cell HZ.out 0).trans (by rw [hsa]; rfl)
  have z1 : wr.cell? ⟨w.heap.size, 1, none⟩ = some (.slice Av vals.length cv) := (blk_cell HZ.out 1).trans (by rw [hsa]; rfl)
  cases gk with
  | succ k1 =>
   have hi : 0 ≤ x4 ∧ x4 < (ops.length : Int) := by have := HX.out; omega
   have hl := HL.out
   rw [aumbryref07_Right.l0, if_pos hi.1, if_pos hi.1, if_pos hi.2] at hl
   obtain ⟨ad, A3, c3, eA, a0, a1, a2, a3, al, ag⟩ := at_T70 (Kd.C_below HO.out HB.out) x4 hi.1 hi.2
   subst eA
   have p1 : (0 ≤ x4) = True := eq_true hi.1
   have p2 : (x4 < (ops.length : Int)) = True := eq_true hi.2
   have p3 : decide (0 ≤ x4) = true := decide_eq_true hi.1
   have p4 : decide (x4 ≥ 0) = true := decide_eq_true hi.1
   generalize rd_T70 ops x4 = o at a0 a1 a2 a3 al ag hl
   go_upto_region 6 with fail
   have hbb := below_alloc (Below.refl wr.heap.size wr) (.cells #[.int .i64 o.f0, .string o.f1.f0, .int .i64 o.f1.f1, .slice A3 o.f2.length c3] 70)
   have HX6 := Aside0.mk (show (wr.alloc (.cells #[.int .i64 o.f0, .string o.f1.f0, .int .i64 o.f1.f1, .slice A3 o.f2.length c3] 70)).heap[wr.heap.size]? = some (.cells #[.int .i64 o.f0, .string o.f1.f0, .int .i64 o.f1.f1, .slice A3 o.f2.length c3] 70 (0, 0)) from heap_alloc_new wr _)
   have HZ6 := Aside0.mk (blk_below HZ.out hbb)
   have HB6 := Aside0.mk (below_step HB.out hbb)
   have HG6 := Aside0.mk (Kd.C_below ag hbb)
   have HAL := Aside0.mk al
   clear z0 z1 a0 a1 a2 a3 ag al HZ HB hbb HL
   generalize (wr.alloc (.cells #[.int .i64 o.f0, .string o.f1.f0, .int .i64 o.f1.f1, .slice A3 o.f2.length c3] 70)) = w6 at HX6 HZ6 HB6 HG6 ⊢
   generalize wr.heap.size = bx at HX6 ⊢
   have y0 : w6.cell? ⟨bx, 0, none⟩ = some (.int .i64 o.f0) := (blk_cell HX6.out 0).trans rfl
   have y1 : w6.cell? ⟨bx, 1, none⟩ = some (.string o.f1.f0) := (blk_cell HX6.out 1).trans rfl
   have y2 : w6.cell? ⟨bx, 2, none⟩ = some (.int .i64 o.f1.f1) := (blk_cell HX6.out 2).trans rfl
   have y3 : w6.cell? ⟨bx, 3, none⟩ = some (.slice A3 o.f2.length c3) := (blk_cell HX6.out 3).trans rfl
   by_cases c1 : o.f0 = 1
   ·
    rw [if_pos c1] at hl
    have d1 : (o.f0 == 1) = true := beq_iff_eq.mpr c1
    by_cases c2 : (o.f2.length : Int) > 0
    ·
     rw [if_pos c2] at hl
     obtain rfl := Option.some.inj hl
     have d2 : decide ((o.f2.length : Int) > 0) = true := decide_eq_true c2
     have d3 : decide (0 < o.f2.length) = true := decide_eq_true (by omega)
     go_wp2
     go_ret
     exact ⟨rfl, by repeat (first | exact HB6.out | apply pw_below_drewN | apply below_drew1)⟩
    ·
     rw [if_neg c2] at hl
     have d2 : decide ((o.f2.length : Int) > 0) = false := decide_eq_false c2
     have d3 : decide (0 < o.f2.length) = false := decide_eq_false (by omega)
     obtain ⟨t, ht, hl⟩ := Option.bind_eq_some_iff.mp hl
     have K1 := fun (W : World) => aumbryref03_Kind.calls kk o.f1.f0 t W ht
     by_cases c4 : t = 1
     ·
      rw [if_pos c4] at hl
      have d4 : (t != 1) = false := bne_eq_false_iff_eq.mpr c4
      by_cases c5 : o.f1.f1 < 0
      ·
       rw [if_pos c5] at hl
       obtain rfl := Option.some.inj hl
       have d5 : decide (o.f1.f1 < 0) = true := decide_eq_true c5
       go_wp2_with (go_at_call 45; (with_reducible refine (K1 _).mono ?_); rintro e w7 ⟨rfl, nd, rfl⟩)
       go_ret
       exact ⟨rfl, by repeat (first | exact HB6.out | apply pw_below_drewN | apply below_drew1)⟩
      ·
       rw [if_neg c5] at hl
       have d5 : decide (o.f1.f1 < 0) = false := decide_eq_false c5
       by_cases c6 : o.f1.f1 > 4
       ·
        rw [if_pos c6] at hl
        obtain rfl := Option.some.inj hl
        have d6 : decide (o.f1.f1 > 4) = true := decide_eq_true c6
        go_wp2_with (go_at_call 45; (with_reducible refine (K1 _).mono ?_); rintro e w7 ⟨rfl, nd, rfl⟩)
        go_ret
        exact ⟨rfl, by repeat (first | exact HB6.out | apply pw_below_drewN | apply below_drew1)⟩
       ·
        rw [if_neg c6] at hl
        have d6 : decide (o.f1.f1 > 4) = false := decide_eq_false c6
        by_cases c7 : o.f1.f1 > x3
        ·
         rw [if_pos c7] at hl
         obtain rfl := Option.some.inj hl
         have d7 : decide (o.f1.f1 > x3) = true := decide_eq_true c7
         go_wp2_with (go_at_call 45; (with_reducible refine (K1 _).mono ?_); rintro e w7 ⟨rfl, nd, rfl⟩)
         go_ret
         exact ⟨rfl, by repeat (first | exact HB6.out | apply pw_below_drewN | apply below_drew1)⟩
        ·
         rw [if_neg c7] at hl
         have d7 : decide (o.f1.f1 > x3) = false := decide_eq_false c7
         go_wp2_with (go_at_call 45; (with_reducible refine (K1 _).mono ?_); rintro e w7 ⟨rfl, nd, rfl⟩)
         go_roundg k1
         case measure => have := HX.out; omega
         case rel => exact ⟨_, _, kk, rfl, rfl, ⟨by rw [show wrap64 (x4 - 1) = x4 - 1 by (have := HX.out; have := HM.out; unfold wrap64; omega)]; have := HX.out; omega⟩, ⟨hl⟩, ⟨by simpa using HZ6.out⟩, ⟨by repeat (first | exact HB6.out | apply pw_below_drewN | apply below_drew1)⟩⟩
     ·
      rw [if_neg c4] at hl
      obtain rfl := Option.some.inj hl
      have d4 : (t != 1) = true := bne_iff_ne.mpr c4
      go_wp2_with (go_at_call 45; (with_reducible refine (K1 _).mono ?_); rintro e w7 ⟨rfl, nd, rfl⟩)
      go_ret
      exact ⟨rfl, by repeat (first | exact HB6.out | apply pw_below_drewN | apply below_drew1)⟩
   ·
    rw [if_neg c1] at hl
    have d1 : (o.f0 == 1) = false := beq_eq_false_iff_ne.mpr c1
    by_cases c2 : o.f0 = 2
    ·
     rw [if_pos c2] at hl
     have d2 : (o.f0 == 2) = true := beq_iff_eq.mpr c2
     by_cases e3 : o.f1.f0.toList = ([] : List UInt8)
     ·
      rw [if_pos e3] at hl
      have d3 : (o.f1.f0.toList != ([] : List UInt8)) = false := bne_eq_false_iff_eq.mpr e3
      by_cases c4 : o.f1.f1 = 0
      ·
       rw [if_pos c4] at hl
       have d4 : (o.f1.f1 != 0) = false := bne_eq_false_iff_eq.mpr c4
       obtain ⟨t, ht, hl⟩ := Option.bind_eq_some_iff.mp hl
       have G1 := fun (W : World) (hW : Below w6.heap.size w6 W) => aumbryref07_Ground.calls kk A3 c3 o.f2 t W (Kd.C_below HG6.out hW) HAL.out ht
       by_cases c5 : t = true
       ·
        rw [if_pos c5] at hl
        subst c5
        go_wp2_with (go_at_call 23; (with_reducible refine (G1 _ ?side1).mono ?_); (case side1 => exact (by repeat (first | exact Below.refl _ _ | apply pw_below_drewN | apply below_drew1))); rintro e w7 ⟨rfl, hb7⟩)
        go_roundg k1
        case measure => have := HX.out; omega
        case rel => exact ⟨_, _, kk, rfl, rfl, ⟨by rw [show wrap64 (x4 - 1) = x4 - 1 by (have := HX.out; have := HM.out; unfold wrap64; omega)]; have := HX.out; omega⟩, ⟨hl⟩, ⟨blk_below HZ6.out hb7⟩, ⟨below_step HB6.out hb7⟩⟩
       ·
        rw [if_neg c5] at hl
        obtain rfl := Option.some.inj hl
        have d5 : t = false := Bool.eq_false_iff.mpr c5
        subst d5
        go_wp2_with (go_at_call 23; (with_reducible refine (G1 _ ?side1).mono ?_); (case side1 => exact (by repeat (first | exact Below.refl _ _ | apply pw_below_drewN | apply below_drew1))); rintro e w7 ⟨rfl, hb7⟩)
        go_ret
        exact ⟨rfl, below_step HB6.out hb7⟩
      ·
       rw [if_neg c4] at hl
       obtain rfl := Option.some.inj hl
       have d4 : (o.f1.f1 != 0) = true := bne_iff_ne.mpr c4
       go_wp2
       go_ret
       exact ⟨rfl, by repeat (first | exact HB6.out | apply pw_below_drewN | apply below_drew1)⟩
     ·
      rw [if_neg e3] at hl
      obtain rfl := Option.some.inj hl
      have d3 : (o.f1.f0.toList != ([] : List UInt8)) = true := bne_iff_ne.mpr e3
      go_wp2
      go_ret
      exact ⟨rfl, by repeat (first | exact HB6.out | apply pw_below_drewN | apply below_drew1)⟩
    ·
     rw [if_neg c2] at hl
     obtain rfl := Option.some.inj hl
     have d2 : (o.f0 == 2) = false := beq_eq_false_iff_ne.mpr c2
     go_wp2
     go_ret
     exact ⟨rfl, by repeat (first | exact HB6.out | apply pw_below_drewN | apply below_drew1)⟩
  | zero =>
   have hx4 : x4 = -1 := by have := HX.out; omega
   subst hx4
   have hl := HL.out
   rw [aumbryref07_Right.l0, if_neg (by omega)] at hl
   have HL1 := Aside0.mk hl
   clear hl HL HX
   go_wp2
   go_loopg [87] vals.length (fun kq v87 w' => ∃ (x : Int) (kk : Nat), v87 = .int .i64 x ∧ Aside0 (0 ≤ x ∧ x + kq = (vals.length : Int)) ∧ Aside0 (aumbryref07_Right.l1 kk x3 (vals.length : Int) x ops vals st hd = some r) ∧ Aside0 (w'.heap[w.heap.size]? = some (.cells sa 28 (0, 0))) ∧ Aside0 (Below w.heap.size w w'))
   case atStart => exact ⟨0, kk, rfl, ⟨by omega⟩, HL1, HZ, HB⟩
   case round =>
    clear HL1 HZ HB z0 z1
    obtain ⟨x, kj, rfl, HX, HL, HZ, HB⟩ := hrel
    cases kj with
    | zero => exact absurd HL.out (by simp [aumbryref07_Right.l1])
    | succ kj =>
    have y0 : wr.cell? ⟨w.heap.size, 1, none⟩ = some (.slice Av vals.length cv) := (blk_cell HZ.out 1).trans (by rw [hsa]; rfl)
    have hl := HL.out
    rw [aumbryref07_Right.l1] at hl
    cases gk with
    | succ k2 =>
     have hi : 0 ≤ x ∧ x < (vals.length : Int) := by have := HX.out; omega
     rw [if_pos hi.2, if_pos hi.1, if_pos hi.2] at hl
     obtain ⟨ad, A3, c3, eA, a0, al, ag⟩ := at_L3 (Kd.C_below HV.out HB.out) x hi.1 hi.2
     subst eA
     have p1 : (0 ≤ x) = True := eq_true hi.1
     have p2 : (x < (vals.length : Int)) = True := eq_true hi.2
     have p3 : decide (x < (vals.length : Int)) = true := decide_eq_true hi.2
     generalize rd_L3 vals x = v at a0 al ag hl
     obtain ⟨t, ht, hl⟩ := Option.bind_eq_some_iff.mp hl
     have G1 := fun (W : World) (hW : Below wr.heap.size wr W) => aumbryref07_Ground.calls kj A3 c3 v t W (Kd.C_below ag hW) al ht
     by_cases c5 : t = true
     ·
      rw [if_pos c5] at hl
      subst c5
      go_wp2_with (go_at_call 23; (with_reducible refine (G1 _ ?side1).mono ?_); (case side1 => exact (by repeat (first | exact Below.refl _ _ | apply pw_below_drewN | apply below_drew1))); rintro e w7 ⟨rfl, hb7⟩)
      go_roundg k2
      case measure => have := HX.out; omega
      case rel => exact ⟨x + 1, kj, by have e_ : wrap64 (x + 1) = x + 1 := (by have := HX.out; have := HMV.out; unfold wrap64; omega); first | rfl | rw [e_] | (simp [e_]; done), ⟨by have := HX.out; omega⟩, ⟨by rw [show x + 1 = wrap64 (x + 1) by (have := HX.out; have := HMV.out; unfold wrap64; omega)]; exact hl⟩, ⟨blk_below HZ.out hb7⟩, ⟨below_step HB.out hb7⟩⟩
     ·
      rw [if_neg c5] at hl
      obtain rfl := Option.some.inj hl
      have d5 : t = false := Bool.eq_false_iff.mpr c5
      subst d5
      go_wp2_with (go_at_call 23; (with_reducible refine (G1 _ ?side1).mono ?_); (case side1 => exact (by repeat (first | exact Below.refl _ _ | apply pw_below_drewN | apply below_drew1))); rintro e w7 ⟨rfl, hb7⟩)
      go_ret
      exact ⟨rfl, below_step HB.out hb7⟩
    | zero =>
     have hxl : x = (vals.length : Int) := by have := HX.out; omega
     subst hxl
     rw [if_neg (by omega)] at hl
     have HL2 := Aside0.mk hl
     have p3 : decide ((vals.length : Int) < (vals.length : Int)) = false := decide_eq_false (by omega)
     have z3 : wr.cell? ⟨w.heap.size, 3, none⟩ = some (.slice Ah hd.length ch) := (blk_cell HZ.out 3).trans (by rw [hsa]; rfl)
     clear hl HL HX
     go_wp2
     go_loopg [101] hd.length (fun kq v101 w' => ∃ (x : Int) (kk : Nat), v101 = .int .i64 x ∧ Aside0 (0 ≤ x ∧ x + kq = (hd.length : Int)) ∧ Aside0 (aumbryref07_Right.l2 kk x3 (hd.length : Int) x ops vals st hd = some r) ∧ Aside0 (w'.heap[w.heap.size]? = some (.cells sa 28 (0, 0))) ∧ Aside0 (Below w.heap.size w w'))
     case atStart => exact ⟨0, kj, rfl, ⟨by omega⟩, HL2, HZ, HB⟩
     case round =>
      clear HL2 HZ HB y0 z3 p3
      obtain ⟨x, ki, rfl, HX, HL, HZ, HB⟩ := hrel
      cases ki with
      | zero => exact absurd HL.out (by simp [aumbryref07_Right.l2])
      | succ ki =>
      have y0 : wr.cell? ⟨w.heap.size, 3, none⟩ = some (.slice Ah hd.length ch) := (blk_cell HZ.out 3).trans (by rw [hsa]; rfl)
      have y2 : wr.cell? ⟨w.heap.size, 2, none⟩ = some (.int .i64 st) := (blk_cell HZ.out 2).trans (by rw [hsa]; rfl)
      have hl := HL.out
      rw [aumbryref07_Right.l2] at hl
      cases gk with
      | succ k3 =>
       have hi : 0 ≤ x ∧ x < (hd.length : Int) := by have := HX.out; omega
       rw [if_pos hi.2, if_pos hi.1, if_pos hi.2] at hl
       obtain ⟨ad, eA, a0⟩ := Kd.at_string (Kd.C_below HH.out HB.out) x hi.1 hi.2
       subst eA
       have p1 : (0 ≤ x) = True := eq_true hi.1
       have p2 : (x < (hd.length : Int)) = True := eq_true hi.2
       have p3 : decide (x < (hd.length : Int)) = true := decide_eq_true hi.2
       obtain ⟨t, ht, hl⟩ := Option.bind_eq_some_iff.mp hl
       have K1 := fun (W : World) => aumbryref03_Kind.calls ki (rdOf ByteArray.empty hd x) t W ht
       by_cases c4 : t = 1
       ·
        rw [if_pos c4] at hl
        have d4 : (t != 1) = false := bne_eq_false_iff_eq.mpr c4
        by_cases c5 : x > 0
        ·
         rw [if_pos c5] at hl
         obtain ⟨j, hj⟩ : ∃ j : Int, j = x - 1 := ⟨_, rfl⟩
         have hw : wrap64 (x - 1) = j := (by have := HX.out; have := HMH.out; unfold wrap64; omega)
         have hw2 : IntKind.i64.wrap (x - 1) = j := (i64_w _).trans hw
         rw [hw, if_pos (by omega), if_pos (by omega)] at hl
         obtain ⟨ad', eA', b0⟩ := Kd.at_string (Kd.C_below HH.out HB.out) j (by omega) (by omega)
         injection eA' with eA'
         subst eA'
         have d5 : decide (x > 0) = true := decide_eq_true c5
         have d6 : decide (0 < x) = true := decide_eq_true c5
         have q1 : (0 ≤ j) = True := eq_true (by omega)
         have q2 : (j < (hd.length : Int)) = True := eq_true (by omega)
         clear hj
         generalize rdOf ByteArray.empty hd x = s1 at a0 hl K1
         generalize rdOf ByteArray.empty hd j = s0 at b0 hl
         by_cases c7 : Op.bytesLess s0.toList s1.toList = true
         ·
          rw [if_pos c7] at hl
          have bg := run_geS_f c7
          go_wp2
          go_quiet (first | (go_at_call 45; (with_reducible refine (K1 _).mono ?_); rintro e w7 ⟨rfl, nd, rfl⟩; exact ⟨rfl, _, World.drewN_drewN _ _ _⟩))
          go_wp2
          go_roundg k3
          case measure => have := HX.out; omega
          case rel => exact ⟨x + 1, ki, by have e_ : wrap64 (x + 1) = x + 1 := (by have := HX.out; have := HMH.out; unfold wrap64; omega); first | rfl | rw [e_] | (simp [e_]; done), ⟨by have := HX.out; omega⟩, ⟨by rw [show x + 1 = wrap64 (x + 1) by (have := HX.out; have := HMH.out; unfold wrap64; omega)]; exact hl⟩, ⟨by simpa using HZ.out⟩, ⟨by repeat (first | exact HB.out | apply pw_below_drewN | apply below_drew1)⟩⟩
         ·
          rw [if_neg c7] at hl
          obtain rfl := Option.some.inj hl
          have bg := run_geS_t (Bool.eq_false_iff.mpr c7)
          go_wp2
          go_quiet (first | (go_at_call 45; (with_reducible refine (K1 _).mono ?_); rintro e w7 ⟨rfl, nd, rfl⟩; exact ⟨rfl, _, World.drewN_drewN _ _ _⟩))
          go_wp2
          go_ret
          exact ⟨rfl, by repeat (first | exact HB.out | apply pw_below_drewN | apply below_drew1)⟩
        ·
         rw [if_neg c5] at hl
         have d5 : decide (x > 0) = false := decide_eq_false c5
         have d6 : decide (0 < x) = false := decide_eq_false c5
         go_wp2
         go_quiet (first | (go_at_call 45; (with_reducible refine (K1 _).mono ?_); rintro e w7 ⟨rfl, nd, rfl⟩; exact ⟨rfl, _, World.drewN_drewN _ _ _⟩))
         go_wp2
         go_roundg k3
         case measure => have := HX.out; omega
         case rel => exact ⟨x + 1, ki, by have e_ : wrap64 (x + 1) = x + 1 := (by have := HX.out; have := HMH.out; unfold wrap64; omega); first | rfl | rw [e_] | (simp [e_]; done), ⟨by have := HX.out; omega⟩, ⟨by rw [show x + 1 = wrap64 (x + 1) by (have := HX.out; have := HMH.out; unfold wrap64; omega)]; exact hl⟩, ⟨by simpa using HZ.out⟩, ⟨by repeat (first | exact HB.out | apply pw_below_drewN | apply below_drew1)⟩⟩
       ·
        rw [if_neg c4] at hl
        obtain rfl := Option.some.inj hl
        have d4 : (t != 1) = true := bne_iff_ne.mpr c4
        go_wp2
        go_quiet (first | (go_at_call 45; (with_reducible refine (K1 _).mono ?_); rintro e w7 ⟨rfl, nd, rfl⟩; exact ⟨rfl, _, World.drewN_drewN _ _ _⟩))
        go_wp2
        go_ret
        exact ⟨rfl, by repeat (first | exact HB.out | apply pw_below_drewN | apply below_drew1)⟩
      | zero =>
       have hxl : x = (hd.length : Int) := by have := HX.out; omega
       subst hxl
       rw [if_neg (by omega)] at hl
       have p3 : decide ((hd.length : Int) < (hd.length : Int)) = false := decide_eq_false (by omega)
       by_cases c4 : x3 = 1
       ·
        rw [if_pos c4] at hl
        obtain rfl := Option.some.inj hl
        have d4 : (x3 == 1) = true := beq_iff_eq.mpr c4
        go_wp2
        go_ret
        exact ⟨rfl, HB.out⟩
       ·
        rw [if_neg c4] at hl
        obtain rfl := Option.some.inj hl
        have d4 : (x3 == 1) = false := beq_eq_false_iff_ne.mpr c4
        go_wp2
        go_ret
        exact ⟨rfl, HB.out⟩

-- ==== Sb3
abbrev R5 := List S70 × List (List S54) × Int × List ByteArray × Int
def goL : Nat → List S73 → Int → List S70 → List (List S54) → Int → List ByteArray → Option R5
 | 0, _, _, _, _, _, _ => none
 | k + 1, rules, fu, ops, vals, st, hd => if 0 < ops.length then (oneF k rules ops vals st hd fu).bind fun r => if r.2.2.2.2.2 = 0 then goL k rules r.2.2.2.2.1 r.1 r.2.1 r.2.2.1 r.2.2.2.1 else some (ops, vals, st, hd, r.2.2.2.2.2) else some (ops, vals, st, hd, 0)
theorem set4_off {W : World} {b : Nat} (b1 b2 b3 b4 : Value) : ∀ k, k ≠ b → ((((W.setCell ⟨b, 0, none⟩ b1).setCell ⟨b, 1, none⟩ b2).setCell ⟨b, 2, none⟩ b3).setCell ⟨b, 3, none⟩ b4).heap[k]? = W.heap[k]? := fun k hk =>
 (Below.heap_setCell _ _ _ k hk).trans ((Below.heap_setCell _ _ _ k hk).trans ((Below.heap_setCell _ _ _ k hk).trans (Below.heap_setCell _ _ _ k hk)))
theorem stF_put4 {W : World} {ok : Nat → Prop} {b : Nat} {v : Value} {ops : List S70} {vals : List (List S54)} {st : Int} {hd : List ByteArray} (h : StF W ok v ops vals st hd) (hb : ∀ k, ok k → k ≠ b) (b1 b2 b3 b4 : Value) : StF ((((W.setCell ⟨b, 0, none⟩ b1).setCell ⟨b, 1, none⟩ b2).setCell ⟨b, 2, none⟩ b3).setCell ⟨b, 3, none⟩ b4) ok v ops vals st hd :=
 stF_step h (fun k hk _ => set4_off _ _ _ _ k (hb k hk))
theorem go_calls {k c0 : Nat} {P : Nat → Prop} {A0 : Option Addr} {rules : List S73} {v : Value} {ops ops' : List S70} {vals vals' : List (List S54)} {st st' fu e' : Int} {hd hd' : List ByteArray} {w : World}
 (hR : Kd.C k73 w A0 rules.length rules) (hc0 : rules.length ≤ c0) (hS : StF w P v ops vals st hd) (h : goL k rules fu ops vals st hd = some (ops', vals', st', hd', e')) :
 Calls Try.prog 51 #[.slice A0 rules.length c0, v, .int .i64 fu, .slice none 0 0] w fun e w' => ∃ v', e = .returned (.tuple #[v', .int .i64 e']) ∧ StF w' (fun k => P k ∨ w.heap.size ≤ k) v' ops' vals' st' hd' ∧ Below w.heap.size w w' := by
 have HR := Aside0.mk hR
 have HC0 := Aside0.mk hc0
 have HL := Aside0.mk h
 obtain ⟨Ao, co, Av, cv, Ah, ch, e0, hO⟩ := hS
 subst e0
 have hB := below_alloc (below_alloc (Below.refl w.heap.size w) (.cells #[.slice Ao ops.length co, .slice Av vals.length cv, .int .i64 st, .slice Ah hd.length ch] 28)) (.cells #[.slice none 0 0, .slice none 0 0, .int .i64 0, .slice none 0 0] 28)
 have HS := Aside0.mk (show StF ((w.alloc (.cells #[.slice Ao ops.length co, .slice Av vals.length cv, .int .i64 st, .slice Ah hd.length ch] 28)).alloc (.cells #[.slice none 0 0, .slice none 0 0, .int .i64 0, .slice none 0 0] 28)) (fun k => (P k ∨ w.heap.size ≤ k) ∧ k ≠ w.heap.size ∧ k ≠ w.heap.size + 1) (.agg #[.slice Ao ops.length co, .slice Av vals.length cv, .int .i64 st, .slice Ah hd.length ch]) ops vals st hd from stF_below (stF_mono (show StF w P (.agg #[.slice Ao ops.length co, .slice Av vals.length cv, .int .i64 st, .slice Ah hd.length ch]) ops vals st hd from ⟨_, _, _, _, _, _, rfl, hO⟩) (fun k hk hlt => ⟨.inl hk, by omega, by omega⟩)) hB)
 have HZ0 := Aside0.mk (show ((w.alloc (.cells #[.slice Ao ops.length co, .slice Av vals.length cv, .int .i64 st, .slice Ah hd.length ch] 28)).alloc (.cells #[.slice none 0 0, .slice none 0 0, .int .i64 0, .slice none 0 0] 28)).heap[w.heap.size]? = some (.cells #[.slice Ao ops.length co, .slice Av vals.length cv, .int .i64 st, .slice Ah hd.length ch] 28 (0, 0)) from ((below_alloc (Below.refl _ _) _).block _ (by simp)).trans (heap_alloc_new w _))
 have HZ1 := Aside0.mk (show ((w.alloc (.cells #[.slice Ao ops.length co, .slice Av vals.length cv, .int .i64 st, .slice Ah hd.length ch] 28)).alloc (.cells #[.slice none 0 0, .slice none 0 0, .int .i64 0, .slice none 0 0] 28)).heap[w.heap.size + 1]? = some (.cells #[.slice none 0 0, .slice none 0 0, .int .i64 0, .slice none 0 0] 28 (0, 0)) from by simpa using heap_alloc_new (w.alloc _) _)
 have HB := Aside0.mk hB
 clear hR hc0 h hO hB
 go_enter Try.func51, Try.ntmps51
 go_wp2
 go_loopg [2] k (fun kq v2 w' => ∃ (fu2 : Int) (ops2 : List S70) (vals2 : List (List S54)) (st2 : Int) (hd2 : List ByteArray) (Ao2 : Option Addr) (co2 : Nat) (Av2 : Option Addr) (cv2 : Nat) (Ah2 : Option Addr) (ch2 : Nat), v2 = .int .i64 fu2 ∧ Aside0 (goL kq rules fu2 ops2 vals2 st2 hd2 = some (ops', vals', st', hd', e')) ∧ Aside0 (StF w' (fun k => (P k ∨ w.heap.size ≤ k) ∧ k ≠ w.heap.size ∧ k ≠ w.heap.size + 1) (.agg #[.slice Ao2 ops2.length co2, .slice Av2 vals2.length cv2, .int .i64 st2, .slice Ah2 hd2.length ch2]) ops2 vals2 st2 hd2) ∧ Aside0 (w'.heap[w.heap.size]? = some (.cells #[.slice Ao2 ops2.length co2, .slice Av2 vals2.length cv2, .int .i64 st2, .slice Ah2 hd2.length ch2] 28 (0, 0))) ∧ Aside0 (w'.heap[w.heap.size + 1]? = some (.cells #[.slice none 0 0, .slice none 0 0, .int .i64 0, .slice none 0 0] 28 (0, 0))) ∧ Aside0 (Below w.heap.size w w'))
 case atStart => exact ⟨fu, ops, vals, st, hd, _, _, _, _, _, _, rfl, HL, HS, HZ0, HZ1, HB⟩
 case round =>
  clear HL HS HZ0 HZ1 HB
  obtain ⟨fu2, ops2, vals2, st2, hd2, Ao2, co2, Av2, cv2, Ah2, ch2, rfl, HL, HS, HZ0, HZ1, HB⟩ := hrel
  cases gk with
  | zero => exact absurd HL.out (by simp [goL])
  | succ k1 =>
  have hl := HL.out
  rw [goL] at hl
  by_cases c1 : 0 < ops2.length
  ·
   rw [if_pos c1] at hl
   obtain ⟨⟨ops3, vals3, st3, hd3, fu3, e3⟩, ho, hl⟩ := Option.bind_eq_some_iff.mp hl
   simp only at hl
   have d1 : decide ((ops2.length : Int) > 0) = true := decide_eq_true (by omega)
   have d2 : decide (0 < ops2.length) = true := decide_eq_true c1
   have C1 := one_calls (Kd.C_below HR.out HB.out) HC0.out HS.out ho
   have hsz := blk_lt HZ1.out
   obtain ⟨t0, t1, t2, t3⟩ := zc4 HZ0.out
   clear HL ho c1
   go_upto_region 3 with (first | (go_at_call 77; (with_reducible refine C1.mono ?_); rintro e w5 ⟨v5, rfl, hS5, hb5⟩; obtain ⟨Ao3, co3, Av3, cv3, Ah3, ch3, e5, hO5⟩ := hS5; subst e5))
   have HS5 := Aside0.mk (stF_below (stF_mono (ok' := (fun k => (P k ∨ w.heap.size ≤ k) ∧ k ≠ w.heap.size ∧ k ≠ w.heap.size + 1)) (show StF w5 _ (.agg #[.slice Ao3 ops3.length co3, .slice Av3 vals3.length cv3, .int .i64 st3, .slice Ah3 hd3.length ch3]) ops3 vals3 st3 hd3 from ⟨_, _, _, _, _, _, rfl, hO5⟩) (fun k hk _ => hk.elim id (fun h => ⟨.inr (by omega), by omega, by omega⟩))) (below_alloc (Below.refl _ _) (.cells #[.slice Ao3 ops3.length co3, .slice Av3 vals3.length cv3, .int .i64 st3, .slice Ah3 hd3.length ch3] 28)))
   have HX := Aside0.mk (show Below wr.heap.size wr (w5.alloc (.cells #[.slice Ao3 ops3.length co3, .slice Av3 vals3.length cv3, .int .i64 st3, .slice Ah3 hd3.length ch3] 28)) from below_alloc hb5 _)
   have HZ3 := Aside0.mk (show (w5.alloc (.cells #[.slice Ao3 ops3.length co3, .slice Av3 vals3.length cv3, .int .i64 st3, .slice Ah3 hd3.length ch3] 28)).heap[w5.heap.size]? = some (.cells #[.slice Ao3 ops3.length co3, .slice Av3 vals3.length cv3, .int .i64 st3, .slice Ah3 hd3.length ch3] 28 (0, 0)) from heap_alloc_new w5 _)
   clear t0 t1 t2 t3 hb5 hO5 C1
   generalize (w5.alloc (.cells #[.slice Ao3 ops3.length co3, .slice Av3 vals3.length cv3, .int .i64 st3, .slice Ah3 hd3.length ch3] 28)) = w6 at HS5 HX HZ3 ⊢
   generalize w5.heap.size = b3 at HZ3 ⊢
   have HS6 := Aside0.mk (stF_below HS.out HX.out)
   have HY0 := Aside0.mk (blk_below HZ0.out HX.out)
   have HY1 := Aside0.mk (blk_below HZ1.out HX.out)
   have HB6 := Aside0.mk (below_step HB.out HX.out)
   by_cases c3 : e3 = 0
   ·
    rw [if_pos c3] at hl
    have d3 : (e3 != 0) = false := bne_eq_false_iff_eq.mpr c3
    have HLL := Aside0.mk hl
    obtain ⟨t0, t1, t2, t3⟩ := zc4 HZ3.out
    obtain ⟨s0, s1, s2, s3, f0, f1, f2, f3⟩ := zcf HY0.out
    clear c3 hl
    go_wp2
    go_roundg k1
    case measure => omega
    case rel => exact ⟨fu3, ops3, vals3, st3, hd3, _, _, _, _, _, _, rfl, HLL, ⟨stF_put4 HS5.out (fun k hk => hk.2.1) _ _ _ _⟩, ⟨set4_blk HY0.out _ _ _ _⟩, ⟨(set4_off _ _ _ _ _ (by omega)).trans HY1.out⟩, ⟨set4_below HB6.out (Nat.le_refl _) _ _ _ _⟩⟩
   ·
    rw [if_neg c3] at hl
    simp only [Option.some.injEq, Prod.mk.injEq] at hl
    obtain ⟨rfl, rfl, rfl, rfl, rfl⟩ := hl
    have d3 : (e3 != 0) = true := bne_iff_ne.mpr c3
    obtain ⟨t0, t1, t2, t3⟩ := zc4 HY0.out; obtain ⟨s0, s1, s2, s3⟩ := zc4 HY1.out; obtain ⟨f0, f1, f2, f3⟩ := zf4 HY1.out
    clear c3
    go_wp2
    refine bodyPost_ret (results_ct rfl _ _ (w.heap.size + 1) 28 _ (0, 0) _ rfl (set4_blk HY1.out _ _ _ _) Try.underlying28 rfl (by kernel_rfl)) rfl ?_
    exact ⟨_, rfl, stF_mono (stF_put4 HS6.out (fun k hk => hk.2.2) _ _ _ _) (fun k hk _ => hk.1), set4_below HB6.out (Nat.le_succ _) _ _ _ _⟩
  ·
   rw [if_neg c1] at hl
   simp only [Option.some.injEq, Prod.mk.injEq] at hl
   obtain ⟨rfl, rfl, rfl, rfl, rfl⟩ := hl
   have d1 : decide ((ops2.length : Int) > 0) = false := decide_eq_false (by omega)
   have d2 : decide (0 < ops2.length) = false := decide_eq_false c1
   obtain ⟨t0, t1, t2, t3⟩ := zc4 HZ0.out; obtain ⟨s0, s1, s2, s3⟩ := zc4 HZ1.out; obtain ⟨f0, f1, f2, f3⟩ := zf4 HZ1.out
   clear c1 HL
   go_wp2
   refine bodyPost_ret (results_ct rfl _ _ (w.heap.size + 1) 28 _ (0, 0) _ rfl (set4_blk HZ1.out _ _ _ _) Try.underlying28 rfl (by kernel_rfl)) rfl ?_
   exact ⟨_, rfl, stF_mono (stF_put4 HS.out (fun k hk => hk.2.2) _ _ _ _) (fun k hk _ => hk.1), set4_below HB.out (Nat.le_succ _) _ _ _ _⟩
end Go.Proofs.Ytdlkhpfgkghhmaa.P
