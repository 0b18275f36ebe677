/- RewriteInner: the law answers true at every input that the given row speaks of. Conditions: those of the given row, none besides. (Part 1 of 6; written by programs of this session, which drive the kit's print, and by hand.) -/
import Derived.Test.YtdlkhpfgkghhmaaProg
import Derived.Below
import Derived.Deep.Draws
import Derived.Deep.AppendLies
import Derived.Maps.AppendAt
import Derived.OwnWalk
import Derived.Laws.BytesArg
import Derived.Laws.MakeOwn
import Derived.Laws.OwnMore
import Derived.Deep.OwnRows
import Derived.Tactics
import Derived.Lib.ConvBytes
import Derived.Laws.Slices
import Derived.WalkKit
import Derived.KernelRfl
import Derived.RowKit3
import Derived.Deep.LoopGhost
import Derived.Deep.QuietTactic
import Derived.BigQuiet
import Derived.WideLaws
import Derived.Deep.DeepCutAuto
import Derived.Deep.CutBlock
import Derived.Deep.RegionHeld3
import Derived.Laws.Rows
import Derived.Lib.AppendStr
import Derived.ArgAppend
import Derived.Laws.IdiomCopy
import Derived.OrdersHeld
import Derived.Laws.BitsLemmas
import Derived.RowKit
import Derived.Test.YtdlkhpfgkghhmaaZRewriteInnerWWords
import Derived.Test.YtdlkhpfgkghhmaaZRewriteInnerWLast
import Derived.Test.YtdlkhpfgkghhmaaZRewriteInnerWTab
import Derived.Test.YtdlkhpfgkghhmaaZRewriteInnerWApart
import Derived.Test.YtdlkhpfgkghhmaaZRewriteInnerWFoot
import Derived.Test.YtdlkhpfgkghhmaaZRewriteInnerWKept
import Derived.Test.YtdlkhpfgkghhmaaZRewriteInnerWShare
import Derived.Test.YtdlkhpfgkghhmaaZRewriteInnerWN
import Derived.Test.YtdlkhpfgkghhmaaZRewriteInnerWEqStruct
import Derived.Test.YtdlkhpfgkghhmaaZRewriteInnerWRepsOne
import Derived.Test.YtdlkhpfgkghhmaaZRewriteInnerWInv
import Derived.Test.YtdlkhpfgkghhmaaZRewriteInnerWGuard
import Derived.Test.YtdlkhpfgkghhmaaZRewriteInnerWNEv
import Derived.Test.YtdlkhpfgkghhmaaZRewriteInnerWMore
import Derived.Deep.RegionLaw
import Derived.RegionTactic
import Derived.ChangeAlike
import Derived.BigRegion
import Derived.IntWalk
import Derived.Outline
import Derived.WalkSpells
import Derived.Shelf.Spec.SlicesInsert
import Derived.Shelf.Spec.SlicesInsertGrow
import Derived.Maps.OwnSet
import Derived.Maps.OwnOps
set_option maxHeartbeats 8000000
set_option maxRecDepth 100000
set_option linter.unusedVariables false
set_option linter.unusedSimpArgs false
-- ==== P0
namespace Go.Proofs.Ytdlkhpfgkghhmaa.P
open Go.RowKit Go.Proofs.YtdlkhpfgkghhmaaW.PrintWords Go.Proofs.YtdlkhpfgkghhmaaW.PrintLast Go.Proofs.YtdlkhpfgkghhmaaW.PrintMore
attribute [local go_sem] max2_int min2_int max_two min_two max_three min_three max_four min_four



def errW : Option Int → Value
 | none => .nilIface
 | some c => .iface 0 (.int .i64 c)
theorem errW_none : errW none = .nilIface := rfl
theorem errW_some (c : Int) : errW (some c) = .iface 0 (.int .i64 c) := rfl

theorem info9 : (Try.prog.info? 9).map (fun i => (i.zero, i.size, i.bytes)) = some (some (.string ⟨#[]⟩), 1, 16) := by kernel_rfl
theorem info23 : (Try.prog.info? 23).map (fun i => (i.zero, i.size, i.bytes)) = some (some (.slice none 0 0), 1, 24) := by kernel_rfl
theorem info54 : (Try.prog.info? 54).map (fun i => (i.zero, i.size, i.bytes)) = some (some (.agg #[(.string ⟨#[]⟩), (.int .i64 0)]), 2, 24) := by kernel_rfl
theorem info70 : (Try.prog.info? 70).map (fun i => (i.zero, i.size, i.bytes)) = some (some (.agg #[(.int .i64 0), (.string ⟨#[]⟩), (.int .i64 0), (.slice none 0 0)]), 4, 56) := by kernel_rfl
theorem info73 : (Try.prog.info? 73).map (fun i => (i.zero, i.size, i.bytes)) = some (some (.agg #[(.int .i64 0), (.slice none 0 0), (.slice none 0 0)]), 3, 56) := by kernel_rfl
theorem info104 : (Try.prog.info? 104).map (fun i => (i.zero, i.size, i.bytes)) = some (some (.agg #[(.string ⟨#[]⟩), (.slice none 0 0)]), 2, 40) := by kernel_rfl
/-! #### struct type 54 -/
structure S54 where
 f0 : ByteArray
 f1 : Int
def z54 : S54 := ⟨(⟨#[]⟩ : ByteArray), (0 : Int)⟩
def k54 : Kd S54 := Kd.iso (Kd.pair Kd.string (Kd.int .i64)) (fun x : S54 => (x.f0, x.f1))
theorem k54_heap : Kd.Heap k54 := Kd.heap_iso _ (Kd.heap_pair Kd.heap_string (Kd.heap_int .i64))
theorem k54_open {w : World} {x : S54} {cs : List Value} (h : k54.K w x cs) : cs = [.string x.f0, .int .i64 x.f1] := by
 obtain ⟨_, _, rfl, rfl, rfl⟩ := h
 exact rfl
theorem k54_openM {w : World} {base : Nat} {ok : Nat → Prop} {x : S54} {cs : List Value} (h : k54.M w base ok x cs) : cs = [.string x.f0, .int .i64 x.f1] := by
 obtain ⟨_, _, rfl, rfl, rfl⟩ := h
 exact rfl
theorem k54_mk (w : World) (x : S54)  : k54.K w x [.string x.f0, .int .i64 x.f1] := ⟨[.string x.f0], [.int .i64 x.f1], rfl, rfl, rfl⟩
theorem k54_mkM (w : World) (base : Nat) (ok : Nat → Prop) (x : S54)  : k54.M w base ok x [.string x.f0, .int .i64 x.f1] := ⟨[.string x.f0], [.int .i64 x.f1], rfl, rfl, rfl⟩
def rd_T54 (xs : List S54) (i : Int) : S54 := xs.getD i.toNat z54
theorem at_T54 {w : World} {A : Option Addr} {n : Nat} {xs : List S54} (h : Kd.C k54 w A n xs) (i : Int) (h0 : 0 ≤ i) (h1 : i < n) : ∃ ad , A = some ad ∧ w.cell? (ad.add (i.toNat * 2)) = some (.string (rd_T54 xs i).f0) ∧ w.cell? ⟨(ad.add (i.toNat * 2)).block, (ad.add (i.toNat * 2)).off + 1, none⟩ = some (.int .i64 (rd_T54 xs i).f1) := by
 obtain ⟨ad, c, e, _, hK, hc0⟩ := Kd.C_get h z54 i h0 h1
 have hc : ∀ j u, c[j]? = some u → w.cell? (ad.add (i.toNat * 2 + j)) = some u := hc0
 obtain rfl := k54_open hK
 exact ⟨ad, e, hc 0 _ rfl, by rw [← add_field _ _ 1 (by omega)]; exact hc 1 _ rfl⟩

def rd_L3 (xs : List (List S54)) (i : Int) : (List S54) := xs.getD i.toNat ([] : List S54)
theorem at_L3 {w : World} {A : Option Addr} {n : Nat} {xs : List (List S54)} (h : Kd.C (Kd.slice 54 k54) w A n xs) (i : Int) (h0 : 0 ≤ i) (h1 : i < n) : ∃ ad A0 c0, A = some ad ∧ w.cell? (ad.add i.toNat) = some (.slice A0 (rd_L3 xs i).length c0) ∧ (rd_L3 xs i).length ≤ c0 ∧ k54.C w A0 (rd_L3 xs i).length (rd_L3 xs i) := by
 obtain ⟨ad, c, e, _, hK, hc0⟩ := Kd.C_get h ([] : List S54) i h0 h1
 have hc : ∀ j u, c[j]? = some u → w.cell? (ad.add (i.toNat * 1 + j)) = some u := hc0
 obtain ⟨A0, c0, rfl, l0, g0⟩ := hK
 exact ⟨ad, A0, c0, e, by have hq := hc 0 _ rfl; rwa [Nat.mul_one, Nat.add_zero] at hq, l0, g0⟩

/-! #### struct type 70 -/
structure S70 where
 f0 : Int
 f1 : S54
 f2 : (List S54)
def z70 : S70 := ⟨(0 : Int), z54, ([] : List S54)⟩
def k70 : Kd S70 := Kd.iso (Kd.pair (Kd.int .i64) (Kd.pair k54 (Kd.slice 54 k54))) (fun x : S70 => (x.f0, x.f1, x.f2))
theorem k70_open {w : World} {x : S70} {cs : List Value} (h : k70.K w x cs) : ∃ A3 c3, cs = [.int .i64 x.f0, .string x.f1.f0, .int .i64 x.f1.f1, .slice A3 x.f2.length c3] ∧ x.f2.length ≤ c3 ∧ k54.C w A3 x.f2.length x.f2 := by
 obtain ⟨_, _, rfl, rfl, ⟨_, _, rfl, s1, ⟨A3, c3, rfl, l3, g3⟩⟩⟩ := h
 obtain rfl := k54_open s1
 exact ⟨A3, c3, rfl, l3, g3⟩
theorem k70_openM {w : World} {base : Nat} {ok : Nat → Prop} {x : S70} {cs : List Value} (h : k70.M w base ok x cs) : ∃ v3, cs = [.int .i64 x.f0, .string x.f1.f0, .int .i64 x.f1.f1, v3] ∧ k54.R 54 w base ok v3 x.f2 := by
 obtain ⟨_, _, rfl, rfl, ⟨_, _, rfl, s1, ⟨v3, rfl, g3⟩⟩⟩ := h
 obtain rfl := k54_openM s1
 exact ⟨v3, rfl, g3⟩
theorem k70_mk (w : World) (x : S70) {A3 : Option Addr} {c3 : Nat} (l3 : x.f2.length ≤ c3) (g3 : k54.C w A3 x.f2.length x.f2) : k70.K w x [.int .i64 x.f0, .string x.f1.f0, .int .i64 x.f1.f1, .slice A3 x.f2.length c3] := ⟨[.int .i64 x.f0], [.string x.f1.f0, .int .i64 x.f1.f1, .slice A3 x.f2.length c3], rfl, rfl, ⟨[.string x.f1.f0, .int .i64 x.f1.f1], [.slice A3 x.f2.length c3], rfl, (k54_mk w x.f1 ), ⟨A3, c3, rfl, l3, g3⟩⟩⟩
theorem k70_mkM (w : World) (base : Nat) (ok : Nat → Prop) (x : S70) {v3 : Value} (g3 : k54.R 54 w base ok v3 x.f2) : k70.M w base ok x [.int .i64 x.f0, .string x.f1.f0, .int .i64 x.f1.f1, v3] := ⟨[.int .i64 x.f0], [.string x.f1.f0, .int .i64 x.f1.f1, v3], rfl, rfl, ⟨[.string x.f1.f0, .int .i64 x.f1.f1], [v3], rfl, (k54_mkM w base ok x.f1 ), ⟨v3, rfl, g3⟩⟩⟩
theorem k70_openF {W : World} {ok : Nat → Prop} {x : S70} {cs : List Value} (h : Kd.FK k70 W ok x cs) : ∃ A3 c3, cs = [.int .i64 x.f0, .string x.f1.f0, .int .i64 x.f1.f1, .slice A3 x.f2.length c3] ∧ x.f2.length ≤ c3 ∧ Kd.F k54 W ok A3 x.f2.length x.f2 := by
 obtain ⟨A3, c3, rfl, l3, _⟩ := k70_open (Kd.FK_now h)
 exact ⟨A3, c3, rfl, l3, (fun W' hW => by obtain ⟨A3_, c3_, he, l3_, g3_⟩ := k70_open (h W' hW); injection (Option.some.inj (show some (Value.slice A3 x.f2.length c3) = some (Value.slice A3_ x.f2.length c3_) from congrArg (fun l => l[3]?) he)) with ha_ _ _; rw [ha_]; exact g3_)⟩
theorem k70_mkF (W : World) (ok : Nat → Prop) (x : S70) {A3 : Option Addr} {c3 : Nat} (l3 : x.f2.length ≤ c3) (g3 : Kd.F k54 W ok A3 x.f2.length x.f2) : Kd.FK k70 W ok x [.int .i64 x.f0, .string x.f1.f0, .int .i64 x.f1.f1, .slice A3 x.f2.length c3] := fun W2 hW => k70_mk W2 x l3 (g3 W2 hW)
def rd_T70 (xs : List S70) (i : Int) : S70 := xs.getD i.toNat z70
theorem at_T70 {w : World} {A : Option Addr} {n : Nat} {xs : List S70} (h : Kd.C k70 w A n xs) (i : Int) (h0 : 0 ≤ i) (h1 : i < n) : ∃ ad A3 c3, A = some ad ∧ w.cell? (ad.add (i.toNat * 4)) = some (.int .i64 (rd_T70 xs i).f0) ∧ w.cell? ⟨(ad.add (i.toNat * 4)).block, (ad.add (i.toNat * 4)).off + 1, none⟩ = some (.string (rd_T70 xs i).f1.f0) ∧ w.cell? ⟨(ad.add (i.toNat * 4)).block, (ad.add (i.toNat * 4)).off + 2, none⟩ = some (.int .i64 (rd_T70 xs i).f1.f1) ∧ w.cell? ⟨(ad.add (i.toNat * 4)).block, (ad.add (i.toNat * 4)).off + 3, none⟩ = some (.slice A3 (rd_T70 xs i).f2.length c3) ∧ (rd_T70 xs i).f2.length ≤ c3 ∧ k54.C w A3 (rd_T70 xs i).f2.length (rd_T70 xs i).f2 := by
 obtain ⟨ad, c, e, _, hK, hc0⟩ := Kd.C_get h z70 i h0 h1
 have hc : ∀ j u, c[j]? = some u → w.cell? (ad.add (i.toNat * 4 + j)) = some u := hc0
 obtain ⟨A3, c3, rfl, l3, g3⟩ := k70_open hK
 exact ⟨ad, A3, c3, e, hc 0 _ rfl, by rw [← add_field _ _ 1 (by omega)]; exact hc 1 _ rfl, by rw [← add_field _ _ 2 (by omega)]; exact hc 2 _ rfl, by rw [← add_field _ _ 3 (by omega)]; exact hc 3 _ rfl, l3, g3⟩

/-! #### struct type 28 -/
structure S28 where
 f0 : (List S70)
 f1 : (List (List S54))
 f2 : Int
 f3 : (List ByteArray)
/-! #### struct type 73 -/
structure S73 where
 f0 : Int
 f1 : (List S54)
 f2 : (List S54)
def z73 : S73 := ⟨(0 : Int), ([] : List S54), ([] : List S54)⟩
def k73 : Kd S73 := Kd.iso (Kd.pair (Kd.int .i64) (Kd.pair (Kd.slice 54 k54) (Kd.slice 54 k54))) (fun x : S73 => (x.f0, x.f1, x.f2))
theorem k73_open {w : World} {x : S73} {cs : List Value} (h : k73.K w x cs) : ∃ A1 c1 A2 c2, cs = [.int .i64 x.f0, .slice A1 x.f1.length c1, .slice A2 x.f2.length c2] ∧ x.f1.length ≤ c1 ∧ k54.C w A1 x.f1.length x.f1 ∧ x.f2.length ≤ c2 ∧ k54.C w A2 x.f2.length x.f2 := by
 obtain ⟨_, _, rfl, rfl, ⟨_, _, rfl, ⟨A1, c1, rfl, l1, g1⟩, ⟨A2, c2, rfl, l2, g2⟩⟩⟩ := h
 exact ⟨A1, c1, A2, c2, rfl, l1, g1, l2, g2⟩
theorem k73_mk (w : World) (x : S73) {A1 : Option Addr} {c1 : Nat} (l1 : x.f1.length ≤ c1) (g1 : k54.C w A1 x.f1.length x.f1) {A2 : Option Addr} {c2 : Nat} (l2 : x.f2.length ≤ c2) (g2 : k54.C w A2 x.f2.length x.f2) : k73.K w x [.int .i64 x.f0, .slice A1 x.f1.length c1, .slice A2 x.f2.length c2] := ⟨[.int .i64 x.f0], [.slice A1 x.f1.length c1, .slice A2 x.f2.length c2], rfl, rfl, ⟨[.slice A1 x.f1.length c1], [.slice A2 x.f2.length c2], rfl, ⟨A1, c1, rfl, l1, g1⟩, ⟨A2, c2, rfl, l2, g2⟩⟩⟩
theorem k73_mkM (w : World) (base : Nat) (ok : Nat → Prop) (x : S73) {v1 : Value} (g1 : k54.R 54 w base ok v1 x.f1) {v2 : Value} (g2 : k54.R 54 w base ok v2 x.f2) : k73.M w base ok x [.int .i64 x.f0, v1, v2] := ⟨[.int .i64 x.f0], [v1, v2], rfl, rfl, ⟨[v1], [v2], rfl, ⟨v1, rfl, g1⟩, ⟨v2, rfl, g2⟩⟩⟩
theorem k73_mkF (W : World) (ok : Nat → Prop) (x : S73) {A1 : Option Addr} {c1 : Nat} (l1 : x.f1.length ≤ c1) (g1 : Kd.F k54 W ok A1 x.f1.length x.f1) {A2 : Option Addr} {c2 : Nat} (l2 : x.f2.length ≤ c2) (g2 : Kd.F k54 W ok A2 x.f2.length x.f2) : Kd.FK k73 W ok x [.int .i64 x.f0, .slice A1 x.f1.length c1, .slice A2 x.f2.length c2] := fun W2 hW => k73_mk W2 x l1 (g1 W2 hW) l2 (g2 W2 hW)
def rd_T73 (xs : List S73) (i : Int) : S73 := xs.getD i.toNat z73
theorem at_T73 {w : World} {A : Option Addr} {n : Nat} {xs : List S73} (h : Kd.C k73 w A n xs) (i : Int) (h0 : 0 ≤ i) (h1 : i < n) : ∃ ad A1 c1 A2 c2, A = some ad ∧ w.cell? (ad.add (i.toNat * 3)) = some (.int .i64 (rd_T73 xs i).f0) ∧ w.cell? ⟨(ad.add (i.toNat * 3)).block, (ad.add (i.toNat * 3)).off + 1, none⟩ = some (.slice A1 (rd_T73 xs i).f1.length c1) ∧ w.cell? ⟨(ad.add (i.toNat * 3)).block, (ad.add (i.toNat * 3)).off + 2, none⟩ = some (.slice A2 (rd_T73 xs i).f2.length c2) ∧ (rd_T73 xs i).f1.length ≤ c1 ∧ k54.C w A1 (rd_T73 xs i).f1.length (rd_T73 xs i).f1 ∧ (rd_T73 xs i).f2.length ≤ c2 ∧ k54.C w A2 (rd_T73 xs i).f2.length (rd_T73 xs i).f2 := by
 obtain ⟨ad, c, e, _, hK, hc0⟩ := Kd.C_get h z73 i h0 h1
 have hc : ∀ j u, c[j]? = some u → w.cell? (ad.add (i.toNat * 3 + j)) = some u := hc0
 obtain ⟨A1, c1, A2, c2, rfl, l1, g1, l2, g2⟩ := k73_open hK
 exact ⟨ad, A1, c1, A2, c2, e, hc 0 _ rfl, by rw [← add_field _ _ 1 (by omega)]; exact hc 1 _ rfl, by rw [← add_field _ _ 2 (by omega)]; exact hc 2 _ rfl, l1, g1, l2, g2⟩

/-! #### struct type 104 -/
structure S104 where
 f0 : ByteArray
 f1 : (List S54)
def z104 : S104 := ⟨(⟨#[]⟩ : ByteArray), ([] : List S54)⟩
def k104 : Kd S104 := Kd.iso (Kd.pair Kd.string (Kd.slice 54 k54)) (fun x : S104 => (x.f0, x.f1))
theorem k104_open {w : World} {x : S104} {cs : List Value} (h : k104.K w x cs) : ∃ A1 c1, cs = [.string x.f0, .slice A1 x.f1.length c1] ∧ x.f1.length ≤ c1 ∧ k54.C w A1 x.f1.length x.f1 := by
 obtain ⟨_, _, rfl, rfl, ⟨A1, c1, rfl, l1, g1⟩⟩ := h
 exact ⟨A1, c1, rfl, l1, g1⟩
theorem k104_openM {w : World} {base : Nat} {ok : Nat → Prop} {x : S104} {cs : List Value} (h : k104.M w base ok x cs) : ∃ v1, cs = [.string x.f0, v1] ∧ k54.R 54 w base ok v1 x.f1 := by
 obtain ⟨_, _, rfl, rfl, ⟨v1, rfl, g1⟩⟩ := h
 exact ⟨v1, rfl, g1⟩
theorem k104_mkM (w : World) (base : Nat) (ok : Nat → Prop) (x : S104) {v1 : Value} (g1 : k54.R 54 w base ok v1 x.f1) : k104.M w base ok x [.string x.f0, v1] := ⟨[.string x.f0], [v1], rfl, rfl, ⟨v1, rfl, g1⟩⟩
def rd_T104 (xs : List S104) (i : Int) : S104 := xs.getD i.toNat z104
theorem at_T104 {w : World} {A : Option Addr} {n : Nat} {xs : List S104} (h : Kd.C k104 w A n xs) (i : Int) (h0 : 0 ≤ i) (h1 : i < n) : ∃ ad A1 c1, A = some ad ∧ w.cell? (ad.add (i.toNat * 2)) = some (.string (rd_T104 xs i).f0) ∧ w.cell? ⟨(ad.add (i.toNat * 2)).block, (ad.add (i.toNat * 2)).off + 1, none⟩ = some (.slice A1 (rd_T104 xs i).f1.length c1) ∧ (rd_T104 xs i).f1.length ≤ c1 ∧ k54.C w A1 (rd_T104 xs i).f1.length (rd_T104 xs i).f1 := by
 obtain ⟨ad, c, e, _, hK, hc0⟩ := Kd.C_get h z104 i h0 h1
 have hc : ∀ j u, c[j]? = some u → w.cell? (ad.add (i.toNat * 2 + j)) = some u := hc0
 obtain ⟨A1, c1, rfl, l1, g1⟩ := k104_open hK
 exact ⟨ad, A1, c1, e, hc 0 _ rfl, by rw [← add_field _ _ 1 (by omega)]; exact hc 1 _ rfl, l1, g1⟩

/-! #### struct type 52 -/
structure S52 where
 f0 : (List S54)
 f1 : (List S54)
 f2 : (List ByteArray)
end Go.Proofs.Ytdlkhpfgkghhmaa.P

-- ==== A0
namespace Go.Proofs.Ytdlkhpfgkghhmaa.P
open Go.RowKit Go.Proofs.YtdlkhpfgkghhmaaW.PrintWords
theorem zA {w W : World} (h : Below w.heap.size w W) (o : Obj) : Below w.heap.size w (W.alloc o) := below_alloc h o
theorem zN {B : Nat} {w W : World} (h : Below B w W) (n : Nat) : Below B w (W.drewN n) := pw_below_drewN h n
theorem zD {base : Nat} {w W : World} (h : Below base w W) : Below base w W.drew := below_drew1 h
theorem zM {p : Prop} (h : p) : Aside0 p := ⟨h⟩
theorem zT {p : Prop} [Decidable p] (h : decide p = true) : p := of_decide_eq_true h
theorem zB {α β : Type} {x : Option α} {f : α → Option β} {b : β} (h : x.bind f = some b) : ∃ a, x = some a ∧ f a = some b := Option.bind_eq_some_iff.mp h
theorem zE {α : Type} [BEq α] [LawfulBEq α] {a b : α} (h : a ≠ b) : (a == b) = false := beq_eq_false_iff_ne.mpr h
theorem zF {α : Type} [BEq α] [LawfulBEq α] {a b : α} (h : a ≠ b) : (a != b) = true := bne_iff_ne.mpr h
theorem zG {α : Type} [BEq α] [LawfulBEq α] {a b : α} (h : a = b) : (a == b) = true := beq_iff_eq.mpr h
theorem zH {α : Type} [BEq α] [LawfulBEq α] {a b : α} (h : a = b) : (a != b) = false := bne_eq_false_iff_eq.mpr h
theorem zQ {p : Prop} [Decidable p] (h : p) : decide p = true := decide_eq_true h
theorem zR {p : Prop} [Decidable p] (h : ¬ p) : decide p = false := decide_eq_false h
theorem zS {α : Type} {a b : α} (h : some a = some b) : a = b := Option.some.inj h
theorem zX {w : World} {g : Nat} {t : TypeId} {cs : Array Value} (h : w.heap[g]? = some (.cells cs t (0, 0))) (i : Nat) : w.cell? ⟨g, i, none⟩ = cs[i]? := blk_cell h i
theorem zY {w : World} {g : Nat} {t : TypeId} {cs : Array Value} (h : w.heap[g]? = some (.cells cs t (0, 0))) (i : Nat) : w.frozen? ⟨g, i, none⟩ = false := blk_frozen h i
theorem zg {w W : World} (h : Below w.heap.size w W := by with_reducible (repeat (first | apply zA | apply zN | apply zD)); exact Below.refl _ _) : Below w.heap.size w W := h
theorem zk {w W : World} {g : Nat} {o : Obj} (h : w.heap[g]? = some o) (s : Below w.heap.size w W := by exact zg) : W.heap[g]? = some o := blk_below h s
theorem zr {α : Type} {d : Kd α} {e base : Nat} {w W : World} {ok : Nat → Prop} {v : Value} {xs : List α} (h : d.R e w base ok v xs) (s : Below w.heap.size w W := by exact zg) : d.R e W base ok v xs := Kd.R_below h s
theorem zb {w W : World} (h : Below w.heap.size w W := by repeat (first | (with_reducible first | exact HB.out | apply zA | apply zN | apply zD | refine below_set ?_ (Aside0.out (by assumption)) | refine below_set ?_ (IsS93.ge HI0.out)) | exact HB.out)) : Below w.heap.size w W := h
theorem zv {p : Prop} (h : p := by first | (with_reducible assumption) | assumption) : p := h
theorem zl {p : Prop} (h : p := by (try simp only [List.map_toArray, List.map_cons, List.map_nil]); first | done | rfl) : p := h
theorem zy {p : Prop} (h : p := by first | rfl | (simp; done) | (simp [*]; done)) : p := h
theorem zd {w W : World} (h : Drawn0 w W := by repeat (first | exact Drawn0.refl _ | apply Drawn0.step)) : Drawn0 w W := h
theorem zh {w W : World} {g : Nat} (hg : g = W.heap.size) (h : Below w.heap.size w W := by exact zb) : w.heap.size ≤ g := by rw [hg]; exact h.size
theorem ze {w W : World} {g : Nat} {row : Option Nat} (h : KeepBut w W g row := by repeat (first | (with_reducible first | exact HK.out | apply KeepBut.set_ | apply keep_drewN | apply keep_drew | apply keep_alloc) | exact HK.out)) : KeepBut w W g row := h
theorem zf {w W : World} {S : Nat → Prop} (h : Kept w W S := by repeat (first | (with_reducible first | exact HK.out | apply Kept.alloc | apply Kept.drewN | apply Kept.drew) | exact HK.out)) : Kept w W S := h
theorem zw {p : Prop} (h : p := by first | rfl | (simp [errW_none, errW_some] <;> rfl) | (simp [*, errW_none, errW_some] <;> rfl)) : p := h
theorem zi {p : Prop} (h : p := by repeat (first | (with_reducible first | exact HI0.out | apply IsS93.alloc | apply IsS93.drewN | apply IsS93.drew | apply IsS93.set_0 | apply IsS93.set_1) | exact HI0.out)) : p := h
theorem zI {b : Bool} (h : b ≠ true) : b = false := Bool.eq_false_iff.mpr h
theorem zq {n : Nat} {w0 w W : World} (h : Below n w0 w) (s : Below n w0 w → Below n w0 W := by intro h_; repeat (first | exact h_ | apply pw_below_drewN | apply below_drew1 | apply below_alloc)) : Below n w0 W := s h
theorem zp1 {α : Type} (l : List α) (i : Nat) (a : α) : l.toArray.setIfInBounds i a = (l.set i a).toArray := List.setIfInBounds_toArray ..
theorem zp2 {α : Type} (a b : α) (l : List α) : (a :: l).set 0 b = b :: l := List.set_cons_zero
theorem zp3 {α : Type} (a b : α) (l : List α) (n : Nat) : (a :: l).set (n + 1) b = a :: l.set n b := List.set_cons_succ
end Go.Proofs.Ytdlkhpfgkghhmaa.P

-- ==== Rw1
namespace Go.Proofs.Ytdlkhpfgkghhmaa.P
open Go.RowKit Go.Proofs.YtdlkhpfgkghhmaaW.PrintWords Go.Proofs.YtdlkhpfgkghhmaaW.PrintLast Go.Proofs.YtdlkhpfgkghhmaaW.PrintMore

/-! ### the machine: its state, its steps -/
def IsMc (B : Nat) (W : World) (g : Nat) (rv tv : Value) (ops : List S70) (vals : List (List S54)) (st : Int) (hd : List ByteArray) (fu : Int) : Prop :=
 ∃ vo vv vh, W.heap[g]? = some (.cells #[vo, vv, .int .i64 st, vh, rv, tv, .int .i64 fu] 94 (0, 0)) ∧ B ≤ g ∧ Kd.R k70 70 W B (fun _ => True) vo ops ∧ Kd.R (Kd.slice 54 k54) 23 W B (fun _ => True) vv vals ∧ Kd.R Kd.string 9 W B (fun _ => True) vh hd

set_option maxHeartbeats 4000000 in
set_option maxRecDepth 100000 in
theorem fin_calls {B g : Nat} {w : World} {rv tv : Value} {ops : List S70} {o : S70} {vals args : List (List S54)} {st fu : Int} {hd : List ByteArray} {A : Option Addr} {c : Nat} {t : List S54}
 (h : IsMc B w g rv tv (ops ++ [o]) (vals ++ args) st hd fu) (ht : Kd.R k54 54 w B (fun _ => True) (.slice A t.length c) t) (hl : (vals.length + 1) * 24 ≤ 140737488355328) :
 Calls Try.prog 48 #[.pointer (some ⟨g, 0, none⟩), .int .i64 (args.length : Int), .slice A t.length c] w fun e w' => e = .returned (.tuple #[]) ∧ IsMc B w' g rv tv ops (vals ++ [t]) st hd fu ∧ Below B w w' := by
 obtain ⟨vo, vv, vh, hb, hg, hO, hV, hH⟩ := h
 obtain ⟨Ao, co, rfl⟩ := Kd.R_slice hO
 obtain ⟨Av, cv, rfl⟩ := Kd.R_slice hV
 obtain ⟨_, hco, hCo⟩ := Kd.R_reads' hO
 obtain ⟨_, hcv, hCv⟩ := Kd.R_reads' hV
 obtain ⟨N, hN⟩ : ∃ N, N = (ops ++ [o]).length := ⟨_, rfl⟩
 obtain ⟨M, hM⟩ : ∃ M, M = (vals ++ args).length := ⟨_, rfl⟩
 rw [← hN] at hb hco hCo hO
 rw [← hM] at hb hcv hCv hV
 have hNb := hCo.2.1
 have hMb := hCv.2.1
 have hN1 : N = ops.length + 1 := by rw [hN]; simp
 have hM1 : M = vals.length + args.length := by rw [hM]; simp
 have hc0 : w.cell? ⟨g, 0, none⟩ = some (.slice Ao N co) := (blk_cell hb 0).trans rfl
 have hc1 : w.cell? ⟨g, 1, none⟩ = some (.slice Av M cv) := (blk_cell hb 1).trans rfl
 have hf0 := blk_frozen hb 0
 have hf1 := blk_frozen hb 1
 have hw0 : IntKind.i64.wrap ((N : Int) - 1) = (N : Int) - 1 := IntWalk.i64_in _ (by omega)
 have hw1 : IntKind.i64.wrap ((M : Int) - (args.length : Int)) = (M : Int) - (args.length : Int) := IntWalk.i64_in _ (by omega)
 obtain ⟨i70, hi70, _, hs70, _⟩ := info_parts info70
 obtain ⟨i23, hi23, _, hs23, _⟩ := info_parts info23
 have hcutO := cut_to (P := Try.prog) 24 70 .i64 Try.underlying24 hi70 Ao N co ((N : Int) - 1) (by omega) (by omega) hco
 have hcutV := cut_to (P := Try.prog) 25 23 .i64 Try.underlying25 hi23 Av M cv ((M : Int) - (args.length : Int)) (by omega) (by omega) hcv
 rw [show ((N : Int) - 1).toNat = ops.length by omega] at hcutO
 rw [show ((M : Int) - (args.length : Int)).toNat = vals.length by omega] at hcutV
 have HO := Aside0.mk hO
 have HV := Aside0.mk hV
 have HH := Aside0.mk hH
 have HT := Aside0.mk ht
 have HG := Aside0.mk hg
 have HBK := Aside0.mk hb
 have HL := Aside0.mk (show N = ops.length + 1 ∧ M = vals.length + args.length from ⟨hN1, hM1⟩)
 clear hO hV hH ht hg hb hN1 hM1 hN hM hCo hCv hco hcv
 go_enter Try.func48, Try.ntmps48
 go_wp2
 go_region
 have HBK1 := Aside0.mk (show _ = _ from (by simpa using blk_set HBK.out 0 (.slice Ao ops.length co) : (w.setCell ⟨g, 0, none⟩ (.slice Ao ops.length co)).heap[g]? = some (.cells #[.slice Ao ops.length co, .slice Av M cv, .int .i64 st, vh, rv, tv, .int .i64 fu] 94 (0, 0))) : (w.setCell ⟨g, 0, none⟩ (.slice Ao ops.length co)).drew.heap[g]? = some (.cells #[.slice Ao ops.length co, .slice Av M cv, .int .i64 st, vh, rv, tv, .int .i64 fu] 94 (0, 0)))
 have HO1 := Aside0.mk (Kd.R_drew (Kd.R_set (show Kd.R k70 70 w B (fun _ => True) (.slice Ao ops.length co) ops from by have := Kd.R_take (m := ops.length) HO.out (by simp); rwa [List.take_left] at this) HBK.out (by decide) 0 (.slice Ao ops.length co)))
 have HV1 := Aside0.mk (Kd.R_drew (Kd.R_set (show Kd.R (Kd.slice 54 k54) 23 w B (fun _ => True) (.slice Av vals.length cv) vals from by have := Kd.R_take (m := vals.length) HV.out (by simp); rwa [List.take_left] at this) HBK.out (by decide) 0 (.slice Ao ops.length co)))
 have HH1 := Aside0.mk (Kd.R_drew (Kd.R_set HH.out HBK.out (by decide) 0 (.slice Ao ops.length co)))
 have HT1 := Aside0.mk (Kd.R_drew (Kd.R_set HT.out HBK.out (by decide) 0 (.slice Ao ops.length co)))
 have HB1 := Aside0.mk (below_drew1 ((Below.refl B w).setCell (p := ⟨g, 0, none⟩) HG.out (.slice Ao ops.length co)))
 generalize (w.setCell ⟨g, 0, none⟩ (.slice Ao ops.length co)).drew = w1 at HBK1 HO1 HV1 HH1 HT1 HB1 ⊢
 clear hc0 hc1 hf0 hf1
 have hc1 : w1.cell? ⟨g, 1, none⟩ = some (.slice Av M cv) := (blk_cell HBK1.out 1).trans rfl
 go_wp2
 have FM := Aside0.mk (show Kd.M (Kd.slice 54 k54) w1.drew B (fun k => True ∧ some k ≠ (Value.slice Av vals.length cv).ownBlock) t [.slice A t.length c] from Kd.M_row (Kd.R_drew (Kd.R_apartR HT1.out HV1.out (by decide))))
 have FO := Aside0.mk (show Kd.R (Kd.slice 54 k54) 23 w1.drew B (fun _ => True) (.slice Av vals.length cv) vals from Kd.R_drew HV1.out)
 have FB := Aside0.mk (show Below B w w1.drew from below_drew1 HB1.out)
 have FS := Aside0.mk (show B ≤ w1.drew.heap.size from Nat.le_trans HG.out (Nat.le_of_lt (blk_lt HBK1.out)))
 have AFT : ∀ (w4 : World), w1.drew.grownBy w4 (Value.slice Av vals.length cv).ownBlock → w4.heap[g]? = some (.cells #[.slice Ao ops.length co, .slice Av M cv, .int .i64 st, vh, rv, tv, .int .i64 fu] 94 (0, 0)) ∧ Kd.R k70 70 w4 B (fun _ => True) (.slice Ao ops.length co) ops ∧ Kd.R Kd.string 9 w4 B (fun _ => True) vh hd := fun w4 hgr =>
  ⟨blk_grown (w := w1.drew) HBK1.out hgr (Kd.R_ne FO.out HBK1.out (by decide)), Kd.R_over (Kd.R_drew HO1.out) FO.out (by decide) hgr, Kd.R_over (Kd.R_drew HH1.out) FO.out (by decide) hgr⟩
 have AF := Aside0.mk AFT
 clear AFT
 have hca : (w1.alloc (.cells #[.slice A t.length c] 23)).cell? ⟨g, 1, none⟩ = some (.slice Av M cv) := pw_cell_below (below_alloc (Below.refl _ _) _) hc1
 go_region_law ((refine Kd.R_append_step (W := w1.drew) (Kd.slice 54 k54) (w0 := w) B rfl (.tmp 37) (.tmp 39) 25 23 (.slice none 0 0) 24 rfl Try.underlying25 info23 rfl (by decide) (by decide) (.slice Av vals.length cv) vals t [.slice A t.length c] (fun _ => True) (fun k => True ∧ some k ≠ (Value.slice Av vals.length cv).ownBlock) rfl rfl FM.out (fun _ hk => hk) (fun _ _ => trivial) FO.out FB.out FS.out hl ?_; intro v2 w4 ho hb hgr hat; obtain ⟨A2, c2, rfl⟩ := Kd.R_slice ho; have HA := Aside0.mk (AF.out w4 hgr); have HV2 := Aside0.mk ho; have HB2 := Aside0.mk hb; have hf2 := blk_frozen HA.out.1 1; have hc2 := (blk_cell HA.out.1 1).trans rfl; clear ho hb hgr hat))
 all_goals
  (first | refine bodyPost_ret (results_none rfl _ _ _) rfl ?_ | refine bodyPost_end (results_none rfl _ _ _) rfl ?_)
  exact ⟨rfl, ⟨_, _, _, by simpa using blk_set HA.out.1 1 _, HG.out, Kd.R_set HA.out.2.1 HA.out.1 (by decide) 1 _, Kd.R_set HV2.out HA.out.1 (by decide) 1 _, Kd.R_set HA.out.2.2 HA.out.1 (by decide) 1 _⟩, HB2.out.setCell (p := ⟨g, 1, none⟩) HG.out _⟩

-- ==== Rw2
theorem isMc_below {B g : Nat} {W W' : World} {rv tv : Value} {ops : List S70} {vals : List (List S54)} {st fu : Int} {hd : List ByteArray} (h : IsMc B W g rv tv ops vals st hd fu) (hb' : Below W.heap.size W W') : IsMc B W' g rv tv ops vals st hd fu := by
 obtain ⟨vo, vv, vh, hb, hg, hO, hV, hH⟩ := h
 exact ⟨vo, vv, vh, (hb'.block g (blk_lt hb)).trans hb, hg, Kd.R_below hO hb', Kd.R_below hV hb', Kd.R_below hH hb'⟩
theorem isMc_lt {B g : Nat} {W : World} {rv tv : Value} {ops : List S70} {vals : List (List S54)} {st fu : Int} {hd : List ByteArray} (h : IsMc B W g rv tv ops vals st hd fu) : B ≤ W.heap.size := by
 obtain ⟨vo, vv, vh, hb, hg, _⟩ := h
 exact Nat.le_trans hg (Nat.le_of_lt (blk_lt hb))
theorem R_one (W : World) (B a : Nat) (ha : a = W.heap.size) (hB : B ≤ a) (x : S54) : Kd.R k54 54 (W.alloc (.cells #[.string x.f0, .int .i64 x.f1] 54)) B (fun _ => True) (.slice (some ⟨a, 0, none⟩) [x].length 1) [x] := by
 subst ha
 refine ⟨fun _ _ => trivial, [.string x.f0, .int .i64 x.f1], ?_, ?_⟩
 ·
  exact World.ownsRow_lit (base := B) (e := 54) (size := 2) W #[.string x.f0, .int .i64 x.f1] 1 hB (by decide) (by rfl)
 ·
  refine ⟨rfl, fun j p hj => ?_⟩
  match j, hj with
  | 0, hj => obtain rfl := Option.some.inj hj; exact k54_mkM _ _ _ x
  | j + 1, hj => simp at hj
def nodeStep (out v : List S54) : List S54 := if out.length ≤ 64 then out ++ v else out
def nodeL (c : S54) (args : List (List S54)) : List S54 := args.foldl nodeStep [c]
theorem nodeStep_le {out v : List S54} (h : out.length ≤ 128) (hv : v.length ≤ 64) : (nodeStep out v).length ≤ 128 := by
 unfold nodeStep
 split
 ·
  rw [List.length_append]; omega
 ·
  exact h
def NodeEnd (l : List S54) (base : Nat) (w' : World) (v : Value) : Prop := if l.length > 64 then v = .slice none 0 0 else Kd.R k54 54 w' base (fun _ => True) v l
set_option maxHeartbeats 4000000 in
set_option maxRecDepth 100000 in
theorem node_calls {B g : Nat} {w : World} {rv tv : Value} {ops : List S70} {vals args : List (List S54)} {st fu : Int} {hd : List ByteArray} {nm : ByteArray}
 (h : IsMc B w g rv tv ops (vals ++ args) st hd fu) (hv : ∀ v ∈ args, v.length ≤ 64) :
 Calls Try.prog 72 #[.pointer (some ⟨g, 0, none⟩), .agg #[.string nm, .int .i64 (args.length : Int)]] w fun e w' => ∃ v : Value, e = .returned v ∧
  NodeEnd (nodeL ⟨nm, args.length⟩ args) w.heap.size w' v ∧ Below w.heap.size w w' := by
 obtain ⟨vo, vv, vh, hb, hg, hO, hV, hH⟩ := h
 obtain ⟨Av, cv, rfl⟩ := Kd.R_slice hV
 obtain ⟨_, hcv, hCv⟩ := Kd.R_reads' hV
 obtain ⟨M, hM⟩ : ∃ M, M = (vals ++ args).length := ⟨_, rfl⟩
 rw [← hM] at hb hcv
 have hMb : M ≤ 9223372036854775807 := by rw [hM]; exact hCv.2.1
 have hM1 : M = vals.length + args.length := by rw [hM]; simp
 obtain ⟨i23, hi23, _, hs23, _⟩ := info_parts info23
 have hcut := cut_from (P := Try.prog) 25 23 .i64 Try.underlying25 hi23 1 hs23 Av M cv ((M : Int) - (args.length : Int)) (by omega) (by omega)
 have hC2 := Kd.C_drop (c := cv) (m := vals.length) hCv (by simp) (by rw [← hM]; exact hcv)
 rw [List.drop_left] at hC2
 rw [show ((M : Int) - (args.length : Int)).toNat = vals.length by omega] at hcut
 rw [show M - vals.length = args.length by omega] at hcut
 obtain ⟨A2, hA2⟩ : ∃ A2 : Option Addr, A2 = (if cv = vals.length then Av else Av.map (·.add (vals.length * 1))) := ⟨_, rfl⟩
 rw [← hA2] at hcut
 have hC3 : Kd.C (Kd.slice 54 k54) w A2 args.length args := by rw [hA2]; exact hC2
 have hw1 : IntKind.i64.wrap ((M : Int) - (args.length : Int)) = (M : Int) - (args.length : Int) := IntWalk.i64_in _ (by omega)
 obtain ⟨fin, hfin⟩ : ∃ fin, fin = nodeL ⟨nm, args.length⟩ args := ⟨_, rfl⟩
 rw [← hfin]
 have HC := Aside0.mk hC3
 have HV := Aside0.mk hv
 have HF := Aside0.mk hfin
 have HM := Aside0.mk (show (args.length : Int) ≤ 9223372036854775807 by omega)
 obtain ⟨bx, hbx⟩ : ∃ bx : Obj, bx = .cells #[.string nm, .int .i64 (args.length : Int)] 54 := ⟨_, rfl⟩
 have hbw := below_alloc (Below.refl w.heap.size w) (.cells #[.string nm, .int .i64 (args.length : Int)] 54)
 have hbw2 := below_alloc hbw (.cells #[.string nm, .int .i64 (args.length : Int)] 54)
 have hv1 : ((w.alloc (.cells #[.string nm, .int .i64 (args.length : Int)] 54)).alloc (.cells #[.string nm, .int .i64 (args.length : Int)] 54)).cell? ⟨g, 1, none⟩ = some (.slice Av M cv) := pw_cell_below hbw2 ((blk_cell hb 1).trans rfl)
 have hk0 := heap_alloc_new w (.cells #[.string nm, .int .i64 (args.length : Int)] 54)
 have hk1 : ((w.alloc (.cells #[.string nm, .int .i64 (args.length : Int)] 54)).alloc (.cells #[.string nm, .int .i64 (args.length : Int)] 54)).cell? ⟨w.heap.size, 1, none⟩ = some (.int .i64 (args.length : Int)) := pw_cell_below (below_alloc (Below.refl _ _) _) ((blk_cell hk0 1).trans rfl)
 have HO := Aside0.mk (R_one (w.alloc (.cells #[.string nm, .int .i64 (args.length : Int)] 54)) w.heap.size (w.heap.size + 1) (by simp) (by omega) ⟨nm, args.length⟩)
 have HB := Aside0.mk hbw2
 clear hO hV hH hb hg hC2 hC3 hA2 hCv hcv hM hM1 hv hfin hbw hbw2 hk0 hbx bx
 go_enter Try.func72, Try.ntmps72
 go_wp2
 go_region
 have HO1 := Aside0.mk (Kd.R_drew HO.out)
 have HB1 := Aside0.mk (below_drew1 HB.out)
 clear hv1 hk1 HO HB
 go_wp2
 go_loopg [5, 26] args.length (fun kq v5 v26 w' => ∃ (x : Int) (Ao : Option Addr) (co : Nat) (out : List S54), v26 = .int .i64 x ∧ v5 = .slice Ao out.length co ∧ Aside0 (0 ≤ x ∧ x + kq = (args.length : Int)) ∧ Aside0 ((args.drop x.toNat).foldl nodeStep out = fin) ∧ Aside0 (out.length ≤ 128) ∧ Aside0 (Kd.R k54 54 w' w.heap.size (fun _ => True) (.slice Ao out.length co) out) ∧ Aside0 (Below w.heap.size w w'))
 case atStart => exact ⟨0, _, _, [⟨nm, args.length⟩], rfl, rfl, ⟨by omega⟩, ⟨by rw [HF.out]; rfl⟩, ⟨by simp⟩, HO1, HB1⟩
 case round =>
  clear HO1 HB1 HF
  obtain ⟨x, Ao, co, out, rfl, rfl, HI, HF, HL, HO, HB⟩ := hrel
  cases gk with
  | succ k1 =>
   have hi : 0 ≤ x ∧ x < (args.length : Int) := by have := HI.out; omega
   obtain ⟨ad, A0, c0, rfl, hx0, hl0, hc0⟩ := at_L3 (Kd.C_below HC.out HB.out) x hi.1 hi.2
   have hd : args.drop x.toNat = rd_L3 args x :: args.drop (x.toNat + 1) := by
    rw [List.drop_eq_getElem_cons (show x.toNat < args.length by omega)]
    congr 1
    simp [rd_L3, List.getD_eq_getElem?_getD, show x.toNat < args.length by omega]
   have hf := HF.out
   rw [hd, List.foldl_cons] at hf
   have HF2 := Aside0.mk hf
   have hvl : (rd_L3 args x).length ≤ 64 := HV.out _ (by have := List.mem_of_mem_drop (i := x.toNat) (l := args) (a := rd_L3 args x) (by rw [hd]; exact List.mem_cons_self); exact this)
   have HVL := Aside0.mk hvl
   have HX := Aside0.mk hi
   have HCv := Aside0.mk hc0
   generalize rd_L3 args x = v at hx0 hl0 HF2 HVL HCv
   have hb0 : decide (x < (args.length : Int)) = true := decide_eq_true hi.2
   have hpp := eq_true hi.1
   have hqq := eq_true hi.2
   clear hd hf hvl hi hc0
   by_cases hq : out.length ≤ 64
   ·
    have hb1 : decide ((out.length : Int) ≤ 64) = true := decide_eq_true (by omega)
    have HS := Aside0.mk (show nodeStep out v = out ++ v from if_pos hq)
    clear hq
    go_wp2_with (first | (at_builtin; refine Kd.R_append_rows k54 (w0 := w) w.heap.size rfl (.tmp 33) (.tmp 34) 23 54 (.agg #[.string ⟨#[]⟩, .int .i64 0]) 24 rfl Try.underlying23 info54 rfl (by decide) (by decide) (.slice Ao out.length co) out v A0 v.length c0 (fun _ => True) (fun _ => False) rfl rfl HO.out HCv.out (fun x cs hk => ?aK) (fun _ hk => hk.elim) (fun _ _ => trivial) HB.out HB.out.size ?aL ?_; (case aK => obtain rfl := k54_open hk; exact k54_mkM _ _ _ _); (case aL => have := HL.out; have := HVL.out; omega); intro v2 w4 ho hb hgr hat; obtain ⟨A2_, c2_, rfl⟩ := Kd.R_slice ho; have HO2 := Aside0.mk ho; have HB2 := Aside0.mk hb; clear ho hb hgr hat))
    go_roundg k1
    case measure => have := HI.out; omega
    case rel => exact ⟨x + 1, _, _, out ++ v, by have e_ : wrap64 (x + 1) = x + 1 := (by have := HX.out; have := HM.out; unfold wrap64; omega); first | rfl | rw [e_] | (simp [e_]; done), by rw [List.length_append], ⟨by have := HI.out; omega⟩, ⟨by rw [show (x + 1).toNat = x.toNat + 1 by have := HX.out; omega, ← HS.out]; exact HF2.out⟩, ⟨by have := nodeStep_le HL.out HVL.out; rwa [HS.out] at this⟩, HO2, HB2⟩
   ·
    have hb1 : decide ((out.length : Int) ≤ 64) = false := decide_eq_false (by omega)
    have HS := Aside0.mk (show nodeStep out v = out from if_neg hq)
    clear hq
    go_wp2
    go_roundg k1
    case measure => have := HI.out; omega
    case rel => exact ⟨x + 1, _, _, out, by have e_ : wrap64 (x + 1) = x + 1 := (by have := HX.out; have := HM.out; unfold wrap64; omega); first | rfl | rw [e_] | (simp [e_]; done), rfl, ⟨by have := HI.out; omega⟩, ⟨by rw [show (x + 1).toNat = x.toNat + 1 by have := HX.out; omega]; have h_ := HF2.out; rw [HS.out] at h_; exact h_⟩, HL, HO, HB⟩
  | zero =>
   have hb0 : decide (x < (args.length : Int)) = false := decide_eq_false (by have := HI.out; omega)
   have hf := HF.out
   rw [List.drop_eq_nil_of_le (by have := HI.out; omega)] at hf
   have hf : out = fin := hf
   subst hf
   by_cases hq : out.length > 64
   ·
    have hb1 : decide ((64 : Int) < (out.length : Int)) = true := decide_eq_true (by omega)
    have hb2 : decide (64 < out.length) = true := decide_eq_true (by omega)
    have HQ := Aside0.mk hq
    clear hq
    go_wp2
    go_ret
    exact ⟨_, rfl, (by unfold NodeEnd; rw [if_pos HQ.out]; rfl), HB.out⟩
   ·
    have hb1 : decide ((64 : Int) < (out.length : Int)) = false := decide_eq_false (by omega)
    have hb2 : decide (64 < out.length) = false := decide_eq_false (by omega)
    have HQ := Aside0.mk hq
    clear hq
    go_wp2
    go_ret
    exact ⟨_, rfl, (by unfold NodeEnd; rw [if_neg HQ.out]; exact HO.out), HB.out⟩
end Go.Proofs.Ytdlkhpfgkghhmaa.P

-- ==== PF71
namespace Go.Proofs.Ytdlkhpfgkghhmaa.P
open Go.RowKit Go.Proofs.YtdlkhpfgkghhmaaW.PrintWords Go.Proofs.YtdlkhpfgkghhmaaW.PrintLast Go.Proofs.YtdlkhpfgkghhmaaW.PrintMore
attribute [local go_sem] max2_int min2_int max_two min_two max_three min_three max_four min_four

/-! ### api_Cell_71: function 71 -/
def api_Cell_71.f (l0 : List (S54)) : Option ((List (S54))) := if ([] : List (S54)).length + l0.length < 5864062014805 then some (([] : List (S54)) ++ l0) else none
theorem api_Cell_71.calls (A0 : Option Addr) (c0 : Nat) (l0 : List (S54)) (r : List (S54)) (w : World) (hr0 : Kd.C k54 w A0 l0.length l0) (hc0 : l0.length ≤ c0) (h : api_Cell_71.f l0 = some r) :
 Calls Try.prog 71 #[.slice A0 l0.length c0] w fun e w' => ∃ v0_ : Value, e = .returned (v0_) ∧ Kd.R k54 54 w' w.heap.size (fun _ => True) v0_ r ∧ Below w.heap.size w w' := by
 have HR0 := zM hr0
 have HC0 := zM hc0
 have HB := zM (Below.refl w.heap.size w)
 unfold api_Cell_71.f at h
 by_cases c2 : ([] : List (S54)).length + l0.length < 5864062014805
 ·
  rw [if_pos c2] at h
  have LMc2 := zM c2
  obtain rfl := zS h
  clear c2 h hc0
  have hnil := fun (W : World) (n c : Nat) => Lib.run_eql_slice_nil (P := Try.prog) W 23 54 A0 n c 0 0 Try.underlying23
  cases A0 with
  | none =>
   have hnil' : ∀ (W : World) (n c : Nat), Sem.run Try.prog (binOp BinOp.eql 23 (.slice none n c) (.slice none 0 0)) W = Result.ok (Value.bool true) W := hnil
   clear hnil
   have h0 : l0 = [] := by
    rcases Nat.eq_zero_or_pos l0.length with h0 | h0
    ·
     exact List.eq_nil_of_length_eq_zero h0
    ·
     obtain ⟨ad, h1, _⟩ := hr0.2.2 h0
     cases h1
   subst h0
   clear hr0 HR0 HC0 LMc2
   go_enter Try.func71, Try.ntmps71
   go_wp2
   go_ret
   exact ⟨_, rfl, Kd.R_nil _ _ _ _ _, Below.refl _ _⟩
  | some ad =>
   have hnil' : ∀ (W : World) (n c : Nat), Sem.run Try.prog (binOp BinOp.eql 23 (.slice (some ad) n c) (.slice none 0 0)) W = Result.ok (Value.bool false) W := hnil
   clear hnil
   clear hr0
   obtain ⟨y129, hy129⟩ : ∃ y_ : List (S54), y_ = (([] : List (S54)) ++ l0) := ⟨_, rfl⟩
   have Ny129 := zM hy129
   rw [← hy129]
   clear hy129
   have HE : ∀ W : World, Kd.R k54 54 (W.alloc (.cells #[] 54)) W.heap.size (fun _ => True) (.slice (some ⟨W.heap.size, 0, none⟩) 0 0) [] := fun W =>
    ⟨fun _ _ => trivial, [], World.ownsRow_lit (base := W.heap.size) (e := 54) (size := 2) W #[] 0 (Nat.le_refl _) (Nat.zero_le _) rfl, Reps.none _ _⟩
   have HE' := zM HE
   clear HE
   go_enter Try.func71, Try.ntmps71
   go_wp2_with (first | ((with_reducible refine gate_builtin (b := .append) (xs := #[.tmp 5, .tmp 6]) rfl ?_); at_builtin; refine Kd.R_append_rows k54 (w0 := w) w.heap.size rfl (.tmp 5) (.tmp 6) 23 54 (.agg #[(.string ⟨#[]⟩), (.int .i64 0)]) 24 rfl Try.underlying23 info54 rfl (by decide) (by omega) (.slice (some ⟨w.heap.size, 0, none⟩) 0 0) ([] : List (S54)) l0 _ _ _ (fun _ => True) (fun _ => False) rfl rfl ?aO ?aR (fun _ _ h => h) (fun _ h => h.elim) ?aF ?aB ?aS ?aL ?_; (case aR => exact Kd.C_alloc HR0.out _); (case aB => exact zb); (case aF => exact (fun _ _ => trivial)); (case aO => exact HE'.out w); (case aS => exact (below_size zb)); (case aL => have := LMc2.out; omega); intro v130 w3 ho hb hg hat; rw [← Ny129.out] at ho; replace HB := zM (hb); have HO131 := zM (ho); clear ho hb hg hat))
   go_ret
   exact ⟨_, zw, zr HO131.out, zb⟩
 ·
  rw [if_neg c2] at h
  cases h


end Go.Proofs.Ytdlkhpfgkghhmaa.P

-- ==== Rw3
namespace Go.Proofs.Ytdlkhpfgkghhmaa.P
open Go.RowKit Go.Proofs.YtdlkhpfgkghhmaaW.PrintWords Go.Proofs.YtdlkhpfgkghhmaaW.PrintLast Go.Proofs.YtdlkhpfgkghhmaaW.PrintMore
def KT (T : Nat) (w w' : World) : Prop := Kept w w' (fun k => ∃ cells, w.heap[k]? = some (.cells cells T (0, 0)))
theorem KT.refl (T : Nat) (w : World) : KT T w w := Kept.refl _ _
theorem KT.trans {T : Nat} {w w1 w2 : World} (h : KT T w w1) (k : KT T w1 w2) : KT T w w2 := by
 refine Kept.then_ h k (fun i hi => ?_)
 rcases Nat.lt_or_ge i w.heap.size with hl | hl
 ·
  by_cases hs : ∃ cells, w.heap[i]? = some (.cells cells T (0, 0))
  ·
   exact .inl hs
  ·
   obtain ⟨cells, hc⟩ := hi
   rw [h.2 i hl hs] at hc
   exact absurd ⟨cells, hc⟩ hs
 ·
  exact .inr hl
theorem KT.below {T : Nat} {w w1 w2 : World} (h : KT T w w1) (hb : Below w1.heap.size w1 w2) : KT T w w2 := h.trans (Kept.of_below hb _)
theorem KT.alloc {T : Nat} {w w1 : World} (h : KT T w w1) (o : Obj) : KT T w (w1.alloc o) := h.below (below_alloc (Below.refl _ _) o)
theorem KT.drew {T : Nat} {w w1 : World} (h : KT T w w1) : KT T w w1.drew := h
theorem KT.grown {α : Type} {d : Kd α} {T B : Nat} {ok : Nat → Prop} {w w1 w2 : World} {v : Value} {xs : List α} (h : KT T w w1) (hr : d.R T w1 B ok v xs) (hg : w1.grownBy w2 v.ownBlock) : KT T w w2 :=
 h.trans ⟨hg.size, fun i hi hn => hg.block i hi (fun he => hn (Kd.R_typed hr i he.symm))⟩
theorem KT.blk {T t g : Nat} {cs : Array Value} {w w1 : World} (h : KT T w w1) (hb : w.heap[g]? = some (.cells cs t (0, 0))) (ht : t ≠ T) : w1.heap[g]? = some (.cells cs t (0, 0)) :=
 blk_kept hb h (fun ⟨cells, hc⟩ => by rw [hb] at hc; injection hc with hc; injection hc with _ hc; exact ht hc)
def todoN (f : Int → List S70 → Option (List S70 × Int)) : Nat → Int → List S70 → Option (List S70 × Int)
 | 0, i, out => some (out, i)
 | n + 1, i, out => (f i out).bind fun r => todoN f n r.2 r.1
def todoL (H : ByteArray → List S54) (t : List S54) : Nat → Int → List S70 → Option (List S70 × Int)
 | 0, _, _ => none
 | k + 1, i, out => if 0 ≤ i ∧ i < (t.length : Int) then
  (if (H (rd_T54 t i).f0).length > 0 then (if out.length < 2513169434900 then some (out ++ [⟨2, z54, H (rd_T54 t i).f0⟩], i + 1) else none)
   else if (rd_T54 t i).f1 ≤ 4 then ((todoN (todoL H t k) (rd_T54 t i).f1.toNat (i + 1) out).bind fun r => if r.1.length < 2513169434900 then some (r.1 ++ [⟨1, rd_T54 t i, []⟩], r.2) else none) else none)
  else none
theorem below_trB {B : Nat} {w w1 w2 : World} (h : Below B w w1) (k : Below B w1 w2) : Below B w w2 :=
 ⟨k.os.trans h.os, k.tape.trans h.tape, k.output.trans h.output, Nat.le_trans h.size k.size, fun i hi => (k.block i hi).trans (h.block i hi)⟩
theorem below_less {B C : Nat} {w w1 : World} (h : Below C w w1) (hB : B ≤ C) : Below B w w1 := ⟨h.os, h.tape, h.output, h.size, fun i hi => h.block i (Nat.lt_of_lt_of_le hi hB)⟩

set_option maxHeartbeats 8000000 in
set_option maxRecDepth 100000 in
theorem todo_calls0 {w0 : World} {A : Option Addr} {c : Nat} {t : List S54} {H : ByteArray → List S54} (ht : Kd.C k54 w0 A t.length t) (hc : t.length ≤ c)
 (HC : ∀ (s : ByteArray) (W : World), Below w0.heap.size w0 W → Calls Try.prog 33 #[.string s] W fun e W' => ∃ v0 : Value, e = .returned v0 ∧ Kd.R k54 54 W' W.heap.size (fun _ => True) v0 (H s) ∧ Below W.heap.size W W') (k : Nat) : ∀ (i : Int) (vo : Value) (out : List S70) (r : List S70 × Int) (w : World), Below w0.heap.size w0 w → Kd.R k70 70 w w0.heap.size (fun _ => True) vo out → todoL H t k i out = some r →
 Calls Try.prog 63 #[.slice A t.length c, .int .i64 i, vo, .func (.func 33) #[] #[]] w fun e w' => ∃ v0 : Value, e = .returned (.tuple #[v0, .int .i64 r.2]) ∧ Kd.R k70 70 w' w0.heap.size (fun _ => True) v0 r.1 ∧ Below w0.heap.size w0 w' ∧ KT 70 w w' := by
 induction k with
 | zero => intro i vo out r w hb ho h; simp [todoL] at h
 | succ k ih =>
  intro i vo out r w hb ho h
  have HT := Aside0.mk ht
  have IH := Aside0.mk ih
  have HHC := Aside0.mk HC
  obtain ⟨Ao, co, rfl⟩ := Kd.R_slice ho
  have HO := Aside0.mk ho
  have HB := Aside0.mk hb
  have HKT := Aside0.mk (KT.refl 70 w)
  have HM := Aside0.mk (show (t.length : Int) ≤ 9223372036854775807 by have := ht.2.1; omega)
  rw [todoL] at h
  by_cases hi : 0 ≤ i ∧ i < (t.length : Int)
  case neg => rw [if_neg hi] at h; cases h
  rw [if_pos hi] at h
  obtain ⟨ad, rfl, hx0, hx1⟩ := at_T54 (Kd.C_below ht hb) i hi.1 hi.2
  generalize rd_T54 t i = cc at hx0 hx1 h
  have hpp := eq_true hi.1
  have hqq := eq_true hi.2
  have hwr : wrap64 (i + 1) = i + 1 := by have := HM.out; unfold wrap64; omega
  have HX := Aside0.mk hi
  have H0 := Aside0.mk h
  clear ho hb ih ht h HC
  have HF := fun (W : World) (hW : Below w0.heap.size w0 W) => HHC.out cc.f0 W hW
  clear hi
  by_cases h1 : (H cc.f0).length > 0
  ·
   have h := H0.out
   rw [if_pos h1] at h
   by_cases h2 : out.length < 2513169434900
   case neg => rw [if_neg h2] at h; cases h
   rw [if_pos h2] at h
   obtain rfl := Option.some.inj h
   have HN := Aside0.mk h2
   have hd : decide (0 < ((H cc.f0).length : Int)) = true := decide_eq_true (by omega)
   have hd2 : decide (0 < (H cc.f0).length) = true := decide_eq_true h1
   have hp1 : 0 < (H cc.f0).length := h1
   clear h h2 H0
   generalize H cc.f0 = hv at HF hd hd2 h1 hp1 ⊢
   go_enter Try.func63, Try.ntmps63
   go_wp2_with (first | (go_at_call 33; (with_reducible refine (HF _ ?side1).mono ?_); (case side1 => exact (zq HB.out)); rintro e w1 ⟨v1, rfl, hr1, hb1⟩; obtain ⟨A1, c1, rfl⟩ := Kd.R_slice hr1; have HR1 := Aside0.mk (Kd.R_lower hr1 ((zq HB.out) : Below w0.heap.size w0 _).size); have n0_ := Aside0.mk (Kd.R_below (by repeat (first | exact HO.out | apply Kd.R_alloc | apply Kd.R_drewN | apply Kd.R_drew)) hb1); have n1_ := Aside0.mk (below_trB (zq HB.out) (below_less hb1 ((zq HB.out) : Below w0.heap.size w0 _).size)); have n2_ := Aside0.mk (KT.below (by repeat (first | exact HKT.out | apply KT.alloc | apply KT.drewN | apply KT.drew)) hb1); clear HO HB HKT hr1 hb1; have HO := n0_; have HB := n1_; have HKT := n2_; clear n0_ n1_ n2_) | (at_builtin; (with_reducible refine gate_builtin (b := .append) (xs := #[.tmp 25, .tmp 28]) rfl ?_); refine Kd.R_append k70 (w0 := w0) w0.heap.size rfl (.tmp 25) (.tmp 28) 24 70 (.agg #[.int .i64 0, .string ⟨#[]⟩, .int .i64 0, .slice none 0 0]) 56 rfl Try.underlying24 info70 rfl (by decide) (by decide) (Value.slice Ao out.length co) out (⟨2, z54, hv⟩ : S70) [.int .i64 2, .string ⟨#[]⟩, .int .i64 0, .slice A1 hv.length c1] (fun _ => True) (fun k => True ∧ some k ≠ (Value.slice Ao out.length co).ownBlock) rfl rfl ?aP (fun _ hk => hk) (fun _ _ => trivial) ?aO ?aB ?aS ?aL ?_; (case aP => exact k70_mkM _ _ _ (⟨2, z54, hv⟩ : S70) (Kd.R_apartR (by repeat (first | exact HR1.out | apply Kd.R_alloc | apply Kd.R_drewN | apply Kd.R_drew)) (show Kd.R k70 70 _ w0.heap.size (fun _ => True) (.slice Ao out.length co) out from (by repeat (first | exact HO.out | apply Kd.R_alloc | apply Kd.R_drewN | apply Kd.R_drew))) (by decide))); (case aO => exact (by repeat (first | exact HO.out | apply Kd.R_alloc | apply Kd.R_drewN | apply Kd.R_drew))); (case aB => exact (zq HB.out)); (case aS => exact (show Below w0.heap.size w0 _ from (zq HB.out)).size); (case aL => have := HN.out; omega); intro v2 w4 ho hb hgr hat; obtain ⟨A2_, c2_, rfl⟩ := Kd.R_slice ho; have HO2 := Aside0.mk ho; have HB2 := Aside0.mk hb; have hk_ : KT 70 w w4 := (by refine KT.grown (d := k70) (B := w0.heap.size) (ok := fun _ => True) (xs := out) ?_ ?_ hgr; exact (by repeat (first | exact HKT.out | apply KT.alloc | apply KT.drewN | apply KT.drew)); exact (by repeat (first | exact HO.out | apply Kd.R_alloc | apply Kd.R_drewN | apply Kd.R_drew))); have HK2 := Aside0.mk hk_; clear hk_; clear ho hb hgr hat))
   go_ret2
   exact ⟨_, rfl, by have h_ := HO2.out; simp only [List.length_append, List.length_cons, List.length_nil, Nat.zero_add] at h_; exact h_, HB2.out, HK2.out⟩
  ·
   have h := H0.out
   rw [if_neg h1] at h
   by_cases h4 : cc.f1 ≤ 4
   case neg => rw [if_neg h4] at h; cases h
   rw [if_pos h4] at h
   have HAR := Aside0.mk h4
   clear h4
   obtain ⟨⟨out', i'⟩, hn, h⟩ := Option.bind_eq_some_iff.mp h
   by_cases h2 : out'.length < 2513169434900
   case neg => rw [if_neg h2] at h; cases h
   rw [if_pos h2] at h
   obtain rfl := Option.some.inj h
   have HN := Aside0.mk h2
   have HH := Aside0.mk hn
   have hd : decide (0 < ((H cc.f0).length : Int)) = false := decide_eq_false (by omega)
   have hd2 : decide (0 < (H cc.f0).length) = false := decide_eq_false h1
   have hp1 : (H cc.f0).length = 0 := by omega
   clear h h2 H0 hn
   generalize hgv : H cc.f0 = hv at HF hd hd2 h1 hp1
   obtain rfl : hv = [] := List.eq_nil_of_length_eq_zero hp1
   clear h1 hp1 hgv
   go_enter Try.func63, Try.ntmps63
   go_wp2_with (first | (go_at_call 33; (with_reducible refine (HF _ ?side1).mono ?_); (case side1 => exact (zq HB.out)); rintro e w1 ⟨v1, rfl, hr1, hb1⟩; obtain ⟨A1, c1, rfl⟩ := Kd.R_slice hr1; have n0_ := Aside0.mk (Kd.R_below (by repeat (first | exact HO.out | apply Kd.R_alloc | apply Kd.R_drewN | apply Kd.R_drew)) hb1); have n1_ := Aside0.mk (below_trB (zq HB.out) (below_less hb1 ((zq HB.out) : Below w0.heap.size w0 _).size)); have hk1 := pw_cell_below hb1 ((blk_cell (heap_alloc_new w (.cells #[.string cc.f0, .int .i64 cc.f1] 54)) 0).trans rfl); have hk2 := pw_cell_below hb1 ((blk_cell (heap_alloc_new w (.cells #[.string cc.f0, .int .i64 cc.f1] 54)) 1).trans rfl); have HK := Aside0.mk (hb1.block w.heap.size (by simp)); have n2_ := Aside0.mk (KT.below (by repeat (first | exact HKT.out | apply KT.alloc | apply KT.drewN | apply KT.drew)) hb1); clear HO HB HKT hr1 hb1; have HO := n0_; have HB := n1_; have HKT := n2_; clear n0_ n1_ n2_))
   go_loopg [1, 2, 33] cc.f1.toNat (fun kq v1 v2 v33 w' => ∃ (j a : Int) (o : List S70) (Ao2 : Option Addr) (co2 : Nat), v1 = .int .i64 a ∧ v2 = .slice Ao2 o.length co2 ∧ v33 = .int .i64 j ∧ Aside0 (0 ≤ j ∧ j + kq = (cc.f1.toNat : Int)) ∧ Aside0 (todoN (todoL H t k) kq a o = some (out', i')) ∧ Aside0 (Kd.R k70 70 w' w0.heap.size (fun _ => True) (.slice Ao2 o.length co2) o) ∧ Aside0 (Below w0.heap.size w0 w') ∧ Aside0 (KT 70 w w') ∧ Aside0 (w'.heap[w.heap.size]? = some (.cells #[.string cc.f0, .int .i64 cc.f1] 54 (0, 0))))
   case atStart => exact ⟨0, i + 1, out, _, _, rfl, rfl, rfl, ⟨by omega⟩, HH, HO, HB, HKT, ⟨HK.out.trans (heap_alloc_new w _)⟩⟩
   case round =>
    clear HO HB HKT HH HK hk1 hk2
    obtain ⟨j, a, o, Ao2, co2, rfl, rfl, rfl, HI, HH, HO, HB, HKT, HK⟩ := hrel
    cases gk with
    | succ k1 =>
     have hj : 0 ≤ j ∧ j < cc.f1 := by have := HI.out; omega
     have hd3 : decide (j < cc.f1) = true := decide_eq_true hj.2
     have HJ := Aside0.mk hj
     have h := HH.out
     rw [todoN] at h
     obtain ⟨⟨o2, a2⟩, hf, h⟩ := Option.bind_eq_some_iff.mp h
     have HH2 := Aside0.mk h
     have I1 := fun (W : World) (hW : Below w0.heap.size w0 W) (hr : Kd.R k70 70 W w0.heap.size (fun _ => True) (.slice Ao2 o.length co2) o) => IH.out a _ o _ W hW hr hf
     have hjw : wrap64 (j + 1) = j + 1 := by
      have := HAR.out
      unfold wrap64; omega
     clear h hf hj
     go_wp2_with (first | (go_at_call 63; (with_reducible refine (I1 _ ?side1 ?side2).mono ?_); (case side1 => exact (zq HB.out)); (case side2 => exact (by repeat (first | exact HO.out | apply Kd.R_alloc | apply Kd.R_drewN | apply Kd.R_drew))); rintro e w2 ⟨v2, rfl, hr2, hb2, hk2⟩; obtain ⟨A2, c2, rfl⟩ := Kd.R_slice hr2; have HO2 := Aside0.mk hr2; have HB2 := Aside0.mk hb2; have HKT2 := Aside0.mk (KT.trans (by repeat (first | exact HKT.out | apply KT.alloc | apply KT.drewN | apply KT.drew)) hk2); have HK2 := Aside0.mk (KT.blk hk2 HK.out (by decide)); clear hr2 hb2 hk2))
     go_roundg k1
     case measure => have := HI.out; omega
     case rel => exact ⟨j + 1, a2, o2, _, _, rfl, rfl, by first | rfl | rw [hjw], ⟨by have := HI.out; have := HJ.out; omega⟩, HH2, HO2, HB2, HKT2, HK2⟩
    | zero =>
     have hj : ¬ j < cc.f1 := by have := HI.out; omega
     have hd3 : decide (j < cc.f1) = false := decide_eq_false hj
     have h := HH.out
     rw [todoN] at h
     obtain ⟨rfl, rfl⟩ := Prod.mk.inj (Option.some.inj h)
     have hk3 := (blk_cell HK.out 0).trans rfl
     have hk4 := (blk_cell HK.out 1).trans rfl
     clear h hj HH
     go_wp2_with (first | (at_builtin; (with_reducible refine gate_builtin (b := .append) (xs := #[.tmp 44, .tmp 47]) rfl ?_); refine Kd.R_append k70 (w0 := w0) w0.heap.size rfl (.tmp 44) (.tmp 47) 24 70 (.agg #[.int .i64 0, .string ⟨#[]⟩, .int .i64 0, .slice none 0 0]) 56 rfl Try.underlying24 info70 rfl (by decide) (by decide) (Value.slice Ao2 o.length co2) o (⟨1, cc, []⟩ : S70) [.int .i64 1, .string cc.f0, .int .i64 cc.f1, .slice none 0 0] (fun _ => True) (fun k => True ∧ some k ≠ (Value.slice Ao2 o.length co2).ownBlock) rfl rfl ?aP (fun _ hk => hk) (fun _ _ => trivial) ?aO ?aB ?aS ?aL ?_; (case aP => exact k70_mkM _ _ _ (⟨1, cc, []⟩ : S70) (Kd.R_nil _ _ _ _ _)); (case aO => exact (by repeat (first | exact HO.out | apply Kd.R_alloc | apply Kd.R_drewN | apply Kd.R_drew))); (case aB => exact (zq HB.out)); (case aS => exact (show Below w0.heap.size w0 _ from (zq HB.out)).size); (case aL => have := HN.out; omega); intro v2 w4 ho hb hgr hat; obtain ⟨A2_, c2_, rfl⟩ := Kd.R_slice ho; have HO2 := Aside0.mk ho; have HB2 := Aside0.mk hb; have hk_ : KT 70 w w4 := (by refine KT.grown (d := k70) (B := w0.heap.size) (ok := fun _ => True) (xs := o) ?_ ?_ hgr; exact (by repeat (first | exact HKT.out | apply KT.alloc | apply KT.drewN | apply KT.drew)); exact (by repeat (first | exact HO.out | apply Kd.R_alloc | apply Kd.R_drewN | apply Kd.R_drew))); have HK2 := Aside0.mk hk_; clear hk_; clear ho hb hgr hat))
     go_ret2
     exact ⟨_, rfl, by have h_ := HO2.out; simp only [List.length_append, List.length_cons, List.length_nil, Nat.zero_add] at h_; exact h_, HB2.out, HK2.out⟩

set_option maxHeartbeats 8000000 in
set_option maxRecDepth 100000 in
theorem todo_calls1 {w0 : World} {A : Option Addr} {c : Nat} {t : List S54} {H : ByteArray → List S54} {pb : Nat} (ht : Kd.C k54 w0 A t.length t) (hc : t.length ≤ c)
 (HC : ∀ (s : ByteArray) (W : World), Below w0.heap.size w0 W → Calls Try.prog 75 #[.string s, .pointer (some ⟨pb, 0, none⟩)] W fun e W' => ∃ v0 : Value, e = .returned v0 ∧ Kd.R k54 54 W' W.heap.size (fun _ => True) v0 (H s) ∧ Below W.heap.size W W') (k : Nat) : ∀ (i : Int) (vo : Value) (out : List S70) (r : List S70 × Int) (w : World), Below w0.heap.size w0 w → Kd.R k70 70 w w0.heap.size (fun _ => True) vo out → todoL H t k i out = some r →
 Calls Try.prog 63 #[.slice A t.length c, .int .i64 i, vo, .func (.func 75) #[] #[.pointer (some ⟨pb, 0, none⟩)]] w fun e w' => ∃ v0 : Value, e = .returned (.tuple #[v0, .int .i64 r.2]) ∧ Kd.R k70 70 w' w0.heap.size (fun _ => True) v0 r.1 ∧ Below w0.heap.size w0 w' ∧ KT 70 w w' := by
 induction k with
 | zero => intro i vo out r w hb ho h; simp [todoL] at h
 | succ k ih =>
  intro i vo out r w hb ho h
  have HT := Aside0.mk ht
  have IH := Aside0.mk ih
  have HHC := Aside0.mk HC
  obtain ⟨Ao, co, rfl⟩ := Kd.R_slice ho
  have HO := Aside0.mk ho
  have HB := Aside0.mk hb
  have HKT := Aside0.mk (KT.refl 70 w)
  have HM := Aside0.mk (show (t.length : Int) ≤ 9223372036854775807 by have := ht.2.1; omega)
  rw [todoL] at h
  by_cases hi : 0 ≤ i ∧ i < (t.length : Int)
  case neg => rw [if_neg hi] at h; cases h
  rw [if_pos hi] at h
  obtain ⟨ad, rfl, hx0, hx1⟩ := at_T54 (Kd.C_below ht hb) i hi.1 hi.2
  generalize rd_T54 t i = cc at hx0 hx1 h
  have hpp := eq_true hi.1
  have hqq := eq_true hi.2
  have hwr : wrap64 (i + 1) = i + 1 := by have := HM.out; unfold wrap64; omega
  have HX := Aside0.mk hi
  have H0 := Aside0.mk h
  clear ho hb ih ht h HC
  have HF := fun (W : World) (hW : Below w0.heap.size w0 W) => HHC.out cc.f0 W hW
  clear hi
  by_cases h1 : (H cc.f0).length > 0
  ·
   have h := H0.out
   rw [if_pos h1] at h
   by_cases h2 : out.length < 2513169434900
   case neg => rw [if_neg h2] at h; cases h
   rw [if_pos h2] at h
   obtain rfl := Option.some.inj h
   have HN := Aside0.mk h2
   have hd : decide (0 < ((H cc.f0).length : Int)) = true := decide_eq_true (by omega)
   have hd2 : decide (0 < (H cc.f0).length) = true := decide_eq_true h1
   have hp1 : 0 < (H cc.f0).length := h1
   clear h h2 H0
   generalize H cc.f0 = hv at HF hd hd2 h1 hp1 ⊢
   go_enter Try.func63, Try.ntmps63
   go_wp2_with (first | (go_at_call 75; (with_reducible refine (HF _ ?side1).mono ?_); (case side1 => exact (zq HB.out)); rintro e w1 ⟨v1, rfl, hr1, hb1⟩; obtain ⟨A1, c1, rfl⟩ := Kd.R_slice hr1; have HR1 := Aside0.mk (Kd.R_lower hr1 ((zq HB.out) : Below w0.heap.size w0 _).size); have n0_ := Aside0.mk (Kd.R_below (by repeat (first | exact HO.out | apply Kd.R_alloc | apply Kd.R_drewN | apply Kd.R_drew)) hb1); have n1_ := Aside0.mk (below_trB (zq HB.out) (below_less hb1 ((zq HB.out) : Below w0.heap.size w0 _).size)); have n2_ := Aside0.mk (KT.below (by repeat (first | exact HKT.out | apply KT.alloc | apply KT.drewN | apply KT.drew)) hb1); clear HO HB HKT hr1 hb1; have HO := n0_; have HB := n1_; have HKT := n2_; clear n0_ n1_ n2_) | (at_builtin; (with_reducible refine gate_builtin (b := .append) (xs := #[.tmp 25, .tmp 28]) rfl ?_); refine Kd.R_append k70 (w0 := w0) w0.heap.size rfl (.tmp 25) (.tmp 28) 24 70 (.agg #[.int .i64 0, .string ⟨#[]⟩, .int .i64 0, .slice none 0 0]) 56 rfl Try.underlying24 info70 rfl (by decide) (by decide) (Value.slice Ao out.length co) out (⟨2, z54, hv⟩ : S70) [.int .i64 2, .string ⟨#[]⟩, .int .i64 0, .slice A1 hv.length c1] (fun _ => True) (fun k => True ∧ some k ≠ (Value.slice Ao out.length co).ownBlock) rfl rfl ?aP (fun _ hk => hk) (fun _ _ => trivial) ?aO ?aB ?aS ?aL ?_; (case aP => exact k70_mkM _ _ _ (⟨2, z54, hv⟩ : S70) (Kd.R_apartR (by repeat (first | exact HR1.out | apply Kd.R_alloc | apply Kd.R_drewN | apply Kd.R_drew)) (show Kd.R k70 70 _ w0.heap.size (fun _ => True) (.slice Ao out.length co) out from (by repeat (first | exact HO.out | apply Kd.R_alloc | apply Kd.R_drewN | apply Kd.R_drew))) (by decide))); (case aO => exact (by repeat (first | exact HO.out | apply Kd.R_alloc | apply Kd.R_drewN | apply Kd.R_drew))); (case aB => exact (zq HB.out)); (case aS => exact (show Below w0.heap.size w0 _ from (zq HB.out)).size); (case aL => have := HN.out; omega); intro v2 w4 ho hb hgr hat; obtain ⟨A2_, c2_, rfl⟩ := Kd.R_slice ho; have HO2 := Aside0.mk ho; have HB2 := Aside0.mk hb; have hk_ : KT 70 w w4 := (by refine KT.grown (d := k70) (B := w0.heap.size) (ok := fun _ => True) (xs := out) ?_ ?_ hgr; exact (by repeat (first | exact HKT.out | apply KT.alloc | apply KT.drewN | apply KT.drew)); exact (by repeat (first | exact HO.out | apply Kd.R_alloc | apply Kd.R_drewN | apply Kd.R_drew))); have HK2 := Aside0.mk hk_; clear hk_; clear ho hb hgr hat))
   go_ret2
   exact ⟨_, rfl, by have h_ := HO2.out; simp only [List.length_append, List.length_cons, List.length_nil, Nat.zero_add] at h_; exact h_, HB2.out, HK2.out⟩
  ·
   have h := H0.out
   rw [if_neg h1] at h
   by_cases h4 : cc.f1 ≤ 4
   case neg => rw [if_neg h4] at h; cases h
   rw [if_pos h4] at h
   have HAR := Aside0.mk h4
   clear h4
   obtain ⟨⟨out', i'⟩, hn, h⟩ := Option.bind_eq_some_iff.mp h
   by_cases h2 : out'.length < 2513169434900
   case neg => rw [if_neg h2] at h; cases h
   rw [if_pos h2] at h
   obtain rfl := Option.some.inj h
   have HN := Aside0.mk h2
   have HH := Aside0.mk hn
   have hd : decide (0 < ((H cc.f0).length : Int)) = false := decide_eq_false (by omega)
   have hd2 : decide (0 < (H cc.f0).length) = false := decide_eq_false h1
   have hp1 : (H cc.f0).length = 0 := by omega
   clear h h2 H0 hn
   generalize hgv : H cc.f0 = hv at HF hd hd2 h1 hp1
   obtain rfl : hv = [] := List.eq_nil_of_length_eq_zero hp1
   clear h1 hp1 hgv
   go_enter Try.func63, Try.ntmps63
   go_wp2_with (first | (go_at_call 75; (with_reducible refine (HF _ ?side1).mono ?_); (case side1 => exact (zq HB.out)); rintro e w1 ⟨v1, rfl, hr1, hb1⟩; obtain ⟨A1, c1, rfl⟩ := Kd.R_slice hr1; have n0_ := Aside0.mk (Kd.R_below (by repeat (first | exact HO.out | apply Kd.R_alloc | apply Kd.R_drewN | apply Kd.R_drew)) hb1); have n1_ := Aside0.mk (below_trB (zq HB.out) (below_less hb1 ((zq HB.out) : Below w0.heap.size w0 _).size)); have hk1 := pw_cell_below hb1 ((blk_cell (heap_alloc_new w (.cells #[.string cc.f0, .int .i64 cc.f1] 54)) 0).trans rfl); have hk2 := pw_cell_below hb1 ((blk_cell (heap_alloc_new w (.cells #[.string cc.f0, .int .i64 cc.f1] 54)) 1).trans rfl); have HK := Aside0.mk (hb1.block w.heap.size (by simp)); have n2_ := Aside0.mk (KT.below (by repeat (first | exact HKT.out | apply KT.alloc | apply KT.drewN | apply KT.drew)) hb1); clear HO HB HKT hr1 hb1; have HO := n0_; have HB := n1_; have HKT := n2_; clear n0_ n1_ n2_))
   go_loopg [1, 2, 33] cc.f1.toNat (fun kq v1 v2 v33 w' => ∃ (j a : Int) (o : List S70) (Ao2 : Option Addr) (co2 : Nat), v1 = .int .i64 a ∧ v2 = .slice Ao2 o.length co2 ∧ v33 = .int .i64 j ∧ Aside0 (0 ≤ j ∧ j + kq = (cc.f1.toNat : Int)) ∧ Aside0 (todoN (todoL H t k) kq a o = some (out', i')) ∧ Aside0 (Kd.R k70 70 w' w0.heap.size (fun _ => True) (.slice Ao2 o.length co2) o) ∧ Aside0 (Below w0.heap.size w0 w') ∧ Aside0 (KT 70 w w') ∧ Aside0 (w'.heap[w.heap.size]? = some (.cells #[.string cc.f0, .int .i64 cc.f1] 54 (0, 0))))
   case atStart => exact ⟨0, i + 1, out, _, _, rfl, rfl, rfl, ⟨by omega⟩, HH, HO, HB, HKT, ⟨HK.out.trans (heap_alloc_new w _)⟩⟩
   case round =>
    clear HO HB HKT HH HK hk1 hk2
    obtain ⟨j, a, o, Ao2, co2, rfl, rfl, rfl, HI, HH, HO, HB, HKT, HK⟩ := hrel
    cases gk with
    | succ k1 =>
     have hj : 0 ≤ j ∧ j < cc.f1 := by have := HI.out; omega
     have hd3 : decide (j < cc.f1) = true := decide_eq_true hj.2
     have HJ := Aside0.mk hj
     have h := HH.out
     rw [todoN] at h
     obtain ⟨⟨o2, a2⟩, hf, h⟩ := Option.bind_eq_some_iff.mp h
     have HH2 := Aside0.mk h
     have I1 := fun (W : World) (hW : Below w0.heap.size w0 W) (hr : Kd.R k70 70 W w0.heap.size (fun _ => True) (.slice Ao2 o.length co2) o) => IH.out a _ o _ W hW hr hf
     have hjw : wrap64 (j + 1) = j + 1 := by
      have := HAR.out
      unfold wrap64; omega
     clear h hf hj
     go_wp2_with (first | (go_at_call 63; (with_reducible refine (I1 _ ?side1 ?side2).mono ?_); (case side1 => exact (zq HB.out)); (case side2 => exact (by repeat (first | exact HO.out | apply Kd.R_alloc | apply Kd.R_drewN | apply Kd.R_drew))); rintro e w2 ⟨v2, rfl, hr2, hb2, hk2⟩; obtain ⟨A2, c2, rfl⟩ := Kd.R_slice hr2; have HO2 := Aside0.mk hr2; have HB2 := Aside0.mk hb2; have HKT2 := Aside0.mk (KT.trans (by repeat (first | exact HKT.out | apply KT.alloc | apply KT.drewN | apply KT.drew)) hk2); have HK2 := Aside0.mk (KT.blk hk2 HK.out (by decide)); clear hr2 hb2 hk2))
     go_roundg k1
     case measure => have := HI.out; omega
     case rel => exact ⟨j + 1, a2, o2, _, _, rfl, rfl, by first | rfl | rw [hjw], ⟨by have := HI.out; have := HJ.out; omega⟩, HH2, HO2, HB2, HKT2, HK2⟩
    | zero =>
     have hj : ¬ j < cc.f1 := by have := HI.out; omega
     have hd3 : decide (j < cc.f1) = false := decide_eq_false hj
     have h := HH.out
     rw [todoN] at h
     obtain ⟨rfl, rfl⟩ := Prod.mk.inj (Option.some.inj h)
     have hk3 := (blk_cell HK.out 0).trans rfl
     have hk4 := (blk_cell HK.out 1).trans rfl
     clear h hj HH
     go_wp2_with (first | (at_builtin; (with_reducible refine gate_builtin (b := .append) (xs := #[.tmp 44, .tmp 47]) rfl ?_); refine Kd.R_append k70 (w0 := w0) w0.heap.size rfl (.tmp 44) (.tmp 47) 24 70 (.agg #[.int .i64 0, .string ⟨#[]⟩, .int .i64 0, .slice none 0 0]) 56 rfl Try.underlying24 info70 rfl (by decide) (by decide) (Value.slice Ao2 o.length co2) o (⟨1, cc, []⟩ : S70) [.int .i64 1, .string cc.f0, .int .i64 cc.f1, .slice none 0 0] (fun _ => True) (fun k => True ∧ some k ≠ (Value.slice Ao2 o.length co2).ownBlock) rfl rfl ?aP (fun _ hk => hk) (fun _ _ => trivial) ?aO ?aB ?aS ?aL ?_; (case aP => exact k70_mkM _ _ _ (⟨1, cc, []⟩ : S70) (Kd.R_nil _ _ _ _ _)); (case aO => exact (by repeat (first | exact HO.out | apply Kd.R_alloc | apply Kd.R_drewN | apply Kd.R_drew))); (case aB => exact (zq HB.out)); (case aS => exact (show Below w0.heap.size w0 _ from (zq HB.out)).size); (case aL => have := HN.out; omega); intro v2 w4 ho hb hgr hat; obtain ⟨A2_, c2_, rfl⟩ := Kd.R_slice ho; have HO2 := Aside0.mk ho; have HB2 := Aside0.mk hb; have hk_ : KT 70 w w4 := (by refine KT.grown (d := k70) (B := w0.heap.size) (ok := fun _ => True) (xs := o) ?_ ?_ hgr; exact (by repeat (first | exact HKT.out | apply KT.alloc | apply KT.drewN | apply KT.drew)); exact (by repeat (first | exact HO.out | apply Kd.R_alloc | apply Kd.R_drewN | apply Kd.R_drew))); have HK2 := Aside0.mk hk_; clear hk_; clear ho hb hgr hat))
     go_ret2
     exact ⟨_, rfl, by have h_ := HO2.out; simp only [List.length_append, List.length_cons, List.length_nil, Nat.zero_add] at h_; exact h_, HB2.out, HK2.out⟩
end Go.Proofs.Ytdlkhpfgkghhmaa.P

-- ==== PF68
namespace Go.Proofs.Ytdlkhpfgkghhmaa.P
open Go.RowKit Go.Proofs.YtdlkhpfgkghhmaaW.PrintWords Go.Proofs.YtdlkhpfgkghhmaaW.PrintLast Go.Proofs.YtdlkhpfgkghhmaaW.PrintMore
attribute [local go_sem] max2_int min2_int max_two min_two max_three min_three max_four min_four

/-! ### name_sign: function 68 -/
mutual
def name_sign.j0 : Nat → Int → Bool → Option (Int × Int)
 | 0, _, _ => none
 | k + 1, x0, x4 => if x4 = true then (some (1, 1)) else (if x0 ≥ 65 then (name_sign.j1 k x0 (decide (x0 ≤ 90))) else (name_sign.j1 k x0 false))
def name_sign.j1 : Nat → Int → Bool → Option (Int × Int)
 | 0, _, _ => none
 | k + 1, x0, x11 => if x11 = true then (some (2, 2)) else (if x0 ≥ 48 then (if x0 ≤ 57 then (some (0, 3)) else (some (0, 0))) else (some (0, 0)))
end
def name_sign.f (k : Nat) (a0 : Int) : Option (Int × Int) := if a0 ≥ 97 then (name_sign.j0 k a0 (decide (a0 ≤ 122))) else (name_sign.j0 k a0 false)
theorem name_sign.mono_l : ∀ k, (∀ y0 y1, LeO (name_sign.j0 k y0 y1) (name_sign.j0 (k + 1) y0 y1)) ∧ (∀ y0 y1, LeO (name_sign.j1 k y0 y1) (name_sign.j1 (k + 1) y0 y1))
 | 0 => ⟨fun _ _ r h => by simp [name_sign.j0] at h, fun _ _ r h => by simp [name_sign.j1] at h⟩
 | k + 1 => by
  obtain ⟨ih0, ih1⟩ := name_sign.mono_l k
  refine ⟨?_, ?_⟩
  ·
   intro y0 y1
   unfold name_sign.j0
   repeat' first
   | (with_reducible exact ih0 _ _)
   | (with_reducible exact ih1 _ _)
   | (with_reducible exact LeO.refl _)
   | (with_reducible exact LeO.none _)
   | (with_reducible refine LeO.ite ?_ ?_)
   | (with_reducible refine LeO.bind ?_ (fun _ => ?_))
  ·
   intro y0 y1
   unfold name_sign.j1
   repeat' first
   | (with_reducible exact ih0 _ _)
   | (with_reducible exact ih1 _ _)
   | (with_reducible exact LeO.refl _)
   | (with_reducible exact LeO.none _)
   | (with_reducible refine LeO.ite ?_ ?_)
   | (with_reducible refine LeO.bind ?_ (fun _ => ?_))
theorem name_sign.mono : ∀ a0 k, LeO (name_sign.f k a0) (name_sign.f (k + 1) a0) := by
 intro a0 k
 obtain ⟨ih0, ih1⟩ := name_sign.mono_l k
 unfold name_sign.f
 repeat' first
  | (with_reducible exact ih0 _ _)
  | (with_reducible exact ih1 _ _)
  | (with_reducible exact LeO.refl _)
  | (with_reducible exact LeO.none _)
  | (with_reducible refine LeO.ite ?_ ?_)
  | (with_reducible refine LeO.bind ?_ (fun _ => ?_))
theorem name_sign.calls (k : Nat) (a0 : Int) (r1 : Int) (r2 : Int) (w : World) (h : name_sign.f k a0 = some (r1, r2)) :
 Calls Try.prog 68 #[.int .u8 a0] w fun e w' => e = .returned (.tuple #[.int .i64 r1, .int .i64 r2]) ∧ Drawn0 w w' := by
 have H : (if a0 ≥ 97 then (name_sign.j0 k a0 (decide (a0 ≤ 122))) else (name_sign.j0 k a0 false)) = some (r1, r2) := h
 clear h
 have HC2 := zM H
 clear H
 go_enter Try.func68, Try.ntmps68
 go_upto_region 1 with (fail)
 go_cut [4] (fun v4 wc => ∃ (kq : Nat) (x4_1 : Bool), v4 = .bool x4_1 ∧ Aside0 (name_sign.j0 kq a0 x4_1 = some (r1, r2)) ∧ Aside0 (kq ≤ k) ∧ Drawn0 w wc)
 case first =>
  have H := HC2.out
  clear HC2
  by_cases c3 : a0 ≥ 97
  ·
   rw [if_pos c3] at H
   have c3b0 : decide (97 ≤ a0) = true := zQ c3
   clear c3
   (first | rw [c3b0] | (simp only [i64_w, i32_w]; rw [c3b0]) | skip)
   have H' := zM H
   clear H
   go_wp2
   go_meet
   case rel => exact ⟨_, (decide (a0 ≤ 122)), zy, H', ⟨by first | omega | exact Nat.le_refl _⟩, zd⟩
  ·
   rw [if_neg c3] at H
   have c3b0 : decide (97 ≤ a0) = false := zR c3
   clear c3
   (first | rw [c3b0] | (simp only [i64_w, i32_w]; rw [c3b0]) | skip)
   have H' := zM H
   clear H
   go_wp2
   go_meet
   case rel => exact ⟨_, (false), zy, H', ⟨by first | omega | exact Nat.le_refl _⟩, zd⟩
 case rest =>
  clear HC2
  try clear p2
  try clear c3
  try clear c3b0
  obtain ⟨kq, x4_1, rfl, HA, HJ1, ⟨mc1, rfl⟩⟩ := hcut
  cases kq with
  | zero => exact absurd HA.out (by simp [name_sign.j0])
  | succ kj1 =>
   have H := HA.out
   clear HA
   simp only [name_sign.j0] at H
   by_cases c4 : x4_1 = true
   ·
    subst c4
    rw [if_pos rfl] at H
    simp only [Option.some.injEq, Prod.mk.injEq] at H
    obtain ⟨rfl, rfl⟩ := H
    go_wp2
    go_ret2
    exact ⟨zy, zd⟩
   ·
    replace c4 := zI c4
    subst c4
    rw [if_neg (show ¬ (false = true) by decide)] at H
    have HC5 := zM H
    clear H
    go_upto_region 3 with (fail)
    go_cut [11] (fun v11 wc => ∃ (kq : Nat) (x11_4 : Bool), v11 = .bool x11_4 ∧ Aside0 (name_sign.j1 kq a0 x11_4 = some (r1, r2)) ∧ Aside0 (kq ≤ kj1) ∧ Drawn0 w wc)
    case first =>
     have H := HC5.out
     clear HC5
     by_cases c6 : a0 ≥ 65
     ·
      rw [if_pos c6] at H
      have c6b0 : decide (65 ≤ a0) = true := zQ c6
      clear c6
      (first | rw [c6b0] | (simp only [i64_w, i32_w]; rw [c6b0]) | skip)
      have H' := zM H
      clear H
      go_wp2
      go_meet
      case rel => exact ⟨_, (decide (a0 ≤ 90)), zy, H', ⟨by have := HJ1.out; first | omega | exact Nat.le_refl _⟩, zd⟩
     ·
      rw [if_neg c6] at H
      have c6b0 : decide (65 ≤ a0) = false := zR c6
      clear c6
      (first | rw [c6b0] | (simp only [i64_w, i32_w]; rw [c6b0]) | skip)
      have H' := zM H
      clear H
      go_wp2
      go_meet
      case rel => exact ⟨_, (false), zy, H', ⟨by have := HJ1.out; first | omega | exact Nat.le_refl _⟩, zd⟩
    case rest =>
     clear HC5
     try clear c1
     try clear p2
     try clear c3
     try clear c3b0
     try clear c4
     try clear c6
     try clear c6b0
     try clear p2
     obtain ⟨kq, x11_4, rfl, HA, HJ4, ⟨mc4, rfl⟩⟩ := hcut
     cases kq with
     | zero => exact absurd HA.out (by simp [name_sign.j1])
     | succ kj4 =>
      have H := HA.out
      clear HA
      simp only [name_sign.j1] at H
      by_cases c7 : x11_4 = true
      ·
       subst c7
       rw [if_pos rfl] at H
       simp only [Option.some.injEq, Prod.mk.injEq] at H
       obtain ⟨rfl, rfl⟩ := H
       go_wp2
       go_ret2
       exact ⟨zy, zd⟩
      ·
       replace c7 := zI c7
       subst c7
       rw [if_neg (show ¬ (false = true) by decide)] at H
       by_cases c8 : a0 ≥ 48
       ·
        rw [if_pos c8] at H
        have c8b0 : decide (48 ≤ a0) = true := zQ c8
        clear c8
        by_cases c9 : a0 ≤ 57
        ·
         rw [if_pos c9] at H
         have c9b0 : decide (a0 ≤ 57) = true := zQ c9
         clear c9
         simp only [Option.some.injEq, Prod.mk.injEq] at H
         obtain ⟨rfl, rfl⟩ := H
         go_wp2
         go_ret2
         exact ⟨zy, zd⟩
        ·
         rw [if_neg c9] at H
         have c9b0 : decide (a0 ≤ 57) = false := zR c9
         clear c9
         simp only [Option.some.injEq, Prod.mk.injEq] at H
         obtain ⟨rfl, rfl⟩ := H
         go_wp2
         go_ret2
         exact ⟨zy, zd⟩
       ·
        rw [if_neg c8] at H
        have c8b0 : decide (48 ≤ a0) = false := zR c8
        clear c8
        simp only [Option.some.injEq, Prod.mk.injEq] at H
        obtain ⟨rfl, rfl⟩ := H
        go_wp2
        go_ret2
        exact ⟨zy, zd⟩


-- ==== PF43

/-! ### name_Kind: function 43 -/
mutual
def name_Kind.j0 : Nat → ByteArray → Bool → Option (Int)
 | 0, _, _ => none
 | k + 1, x0, x14 => if x14 = true then (some 0) else (if 0 < (x0.size : Int) then ((name_sign.f k (bt x0 0)).bind fun bt101 => (name_Kind.l0 k x0 bt101.1 (x0.size : Int) 0)) else (none))
def name_Kind.l0 : Nat → ByteArray → Int → Int → Int → Option (Int)
 | 0, _, _, _, _ => none
 | k + 1, x0, x3, x22, x23 => if x23 < x22 then (if 0 ≤ x23 then (if x23 < (x0.size : Int) then ((name_sign.f k (bt x0 x23)).bind fun bt103 => (if (Go.bits .and .i64 bt103.2 x3) = 0 then (some 0) else (name_Kind.l0 k x0 x3 x22 (wrap64 (x23 + 1))))) else (none)) else (none)) else (some x3)
end
def name_Kind.f (k : Nat) (a0 : ByteArray) : Option (Int) := if a0.toList = ([] : List UInt8) then (name_Kind.j0 k a0 true) else (name_Kind.j0 k a0 (decide ((a0.size : Int) > 8)))
theorem name_Kind.mono_l : ∀ k, (∀ y0 y1, LeO (name_Kind.j0 k y0 y1) (name_Kind.j0 (k + 1) y0 y1)) ∧ (∀ y0 y1 y2 y3, LeO (name_Kind.l0 k y0 y1 y2 y3) (name_Kind.l0 (k + 1) y0 y1 y2 y3))
 | 0 => ⟨fun _ _ r h => by simp [name_Kind.j0] at h, fun _ _ _ _ r h => by simp [name_Kind.l0] at h⟩
 | k + 1 => by
  obtain ⟨ih0, ih1⟩ := name_Kind.mono_l k
  refine ⟨?_, ?_⟩
  ·
   intro y0 y1
   unfold name_Kind.j0
   repeat' first
   | (with_reducible exact ih0 _ _)
   | (with_reducible exact ih1 _ _ _ _)
   | (with_reducible exact name_sign.mono _ _)
   | (with_reducible exact LeO.refl _)
   | (with_reducible exact LeO.none _)
   | (with_reducible refine LeO.ite ?_ ?_)
   | (with_reducible refine LeO.bind ?_ (fun _ => ?_))
  ·
   intro y0 y1 y2 y3
   unfold name_Kind.l0
   repeat' first
   | (with_reducible exact ih0 _ _)
   | (with_reducible exact ih1 _ _ _ _)
   | (with_reducible exact name_sign.mono _ _)
   | (with_reducible exact LeO.refl _)
   | (with_reducible exact LeO.none _)
   | (with_reducible refine LeO.ite ?_ ?_)
   | (with_reducible refine LeO.bind ?_ (fun _ => ?_))
theorem name_Kind.mono : ∀ a0 k, LeO (name_Kind.f k a0) (name_Kind.f (k + 1) a0) := by
 intro a0 k
 obtain ⟨ih0, ih1⟩ := name_Kind.mono_l k
 unfold name_Kind.f
 repeat' first
  | (with_reducible exact ih0 _ _)
  | (with_reducible exact ih1 _ _ _ _)
  | (with_reducible exact name_sign.mono _ _)
  | (with_reducible exact LeO.refl _)
  | (with_reducible exact LeO.none _)
  | (with_reducible refine LeO.ite ?_ ?_)
  | (with_reducible refine LeO.bind ?_ (fun _ => ?_))
theorem name_Kind.calls (k : Nat) (a0 : ByteArray) (r : Int) (w : World) (h : name_Kind.f k a0 = some r) :
 Calls Try.prog 43 #[.string a0] w fun e w' => e = .returned (.int .i64 r) ∧ Drawn0 w w' := by
 have H : (if a0.toList = ([] : List UInt8) then (name_Kind.j0 k a0 true) else (name_Kind.j0 k a0 (decide ((a0.size : Int) > 8)))) = some r := h
 clear h
 have HC2 := zM H
 clear H
 go_enter Try.func43, Try.ntmps43
 go_upto_region 1 with (fail)
 go_cut [14] (fun v14 wc => ∃ (kq : Nat) (x14_1 : Bool), v14 = .bool x14_1 ∧ Aside0 (name_Kind.j0 kq a0 x14_1 = some r) ∧ Aside0 (kq ≤ k) ∧ Drawn0 w wc)
 case first =>
  have H := HC2.out
  clear HC2
  by_cases c3 : a0.toList = ([] : List UInt8)
  ·
   rw [if_pos c3] at H
   have c3b0 : (a0.toList == ([] : List UInt8)) = true := zG c3
   have c3b1 : (a0.toList != ([] : List UInt8)) = false := zH c3
   clear c3
   (first | rw [c3b0] | (simp only [i64_w, i32_w]; rw [c3b0]) | skip)
   have H' := zM H
   clear H
   go_wp2
   go_meet
   case rel => exact ⟨_, (true), zy, H', ⟨by first | omega | exact Nat.le_refl _⟩, zd⟩
  ·
   rw [if_neg c3] at H
   have c3b0 : (a0.toList == ([] : List UInt8)) = false := zE c3
   have c3b1 : (a0.toList != ([] : List UInt8)) = true := zF c3
   (first | rw [c3b0] | (simp only [i64_w, i32_w]; rw [c3b0]) | skip)
   have H' := zM H
   clear H
   go_wp2
   go_meet
   case rel => exact ⟨_, (decide ((a0.size : Int) > 8)), zy, H', ⟨by first | omega | exact Nat.le_refl _⟩, zd⟩
 case rest =>
  clear HC2
  try clear p2
  try clear c3
  try clear c3b0
  try clear c3b1
  obtain ⟨kq, x14_1, rfl, HA, HJ1, ⟨mc1, rfl⟩⟩ := hcut
  cases kq with
  | zero => exact absurd HA.out (by simp [name_Kind.j0])
  | succ kj1 =>
   have H := HA.out
   clear HA
   simp only [name_Kind.j0] at H
   by_cases c4 : x14_1 = true
   ·
    subst c4
    rw [if_pos rfl] at H
    obtain rfl := zS H
    go_wp2
    go_ret
    exact ⟨zy, zd⟩
   ·
    replace c4 := zI c4
    subst c4
    rw [if_neg (show ¬ (false = true) by decide)] at H
    by_cases c5 : 0 < (a0.size : Int)
    ·
     rw [if_pos c5] at H
     have c5b0 : decide (0 < (a0.size : Int)) = true := zQ c5
     have c5b1 : decide (0 < a0.size) = true := zQ (by omega)
     clear c5
     replace H := zB H
     obtain ⟨⟨t101, t102⟩, A70, H⟩ := H
     try dsimp only at H
     have A7 := zM A70
     clear A70
     have H' := zM H
     clear H
     have p6 : 0 ≤ (0 : Int) := (by omega)
     have q6 : 0 < a0.size := (by have : (0 : Int) < (a0.size : Int) := zT zv; omega)
     have hx6 : ∀ h : 0 < a0.size, ((a0[0]'h).toNat : Int) = bt a0 0 := bt_at a0 0
     clear p6
     have qi6 : (0 < (a0.size : Int)) = True := eq_true (zT zv)
     replace q6 := eq_true q6
     go_wp2_with (first | ((with_reducible refine gate_callee (f := 68) rfl ?_); refine goesL_ (some 18) rfl rfl Try.func68 (by kernel_rfl) rfl #[.int .u8 (bt a0 0)] rfl zl ?_; (with_reducible refine (name_sign.calls kj1 (bt a0 0) t101 t102 _ A7.out).mono ?_); rintro e w' ⟨rfl, ⟨nd, rfl⟩⟩; refine ⟨_, rfl, ?_⟩))
     go_loopg [23] kj1 (fun kq v23 w' => ∃ (x23_2 : Int), v23 = .int .i64 x23_2 ∧ Aside0 (name_Kind.l0 kq a0 t101 (a0.size : Int) x23_2 = some r) ∧ Aside0 (kq ≤ kj1) ∧ Drawn0 w w')
     case atStart => exact ⟨(0), zy, H', ⟨Nat.le_refl _⟩, zd⟩
     case round =>
      clear H'
      try clear c1
      try clear p2
      try clear c3
      try clear c3b0
      try clear c3b1
      try clear c4
      try clear c5
      try clear c5b0
      try clear c5b1
      try clear c6
      try clear p6
      try clear q6
      try clear hx6
      try clear qi6
      try clear p2
      try clear p6
      try clear q6
      obtain ⟨x23_2, rfl, HA, HK2, ⟨m2, rfl⟩⟩ := hrel
      cases gk with
      | zero => exact absurd HA.out (by simp [name_Kind.l0])
      | succ k2 =>
       have H := HA.out
       clear HA
       simp only [name_Kind.l0] at H
       by_cases c8 : x23_2 < (a0.size : Int)
       ·
        rw [if_pos c8] at H
        have c8b0 : decide (x23_2 < (a0.size : Int)) = true := zQ c8
        clear c8
        by_cases c9 : 0 ≤ x23_2
        ·
         rw [if_pos c9] at H
         have c9b0 : decide (0 ≤ x23_2) = true := zQ c9
         clear c9
         by_cases c10 : x23_2 < (a0.size : Int)
         ·
          rw [if_pos c10] at H
          have c10b0 : decide (x23_2 < (a0.size : Int)) = true := zQ c10
          clear c10
          replace H := zB H
          obtain ⟨⟨t103, t104⟩, A120, H⟩ := H
          try dsimp only at H
          have A12 := zM A120
          clear A120
          by_cases c13 : (Go.bits .and .i64 t104 t101) = 0
          ·
           rw [if_pos c13] at H
           have c13b0 : ((Go.bits .and .i64 t104 t101) == 0) = true := zG c13
           have c13b1 : ((Go.bits .and .i64 t104 t101) != 0) = false := zH c13
           clear c13
           obtain rfl := zS H
           have p11 : 0 ≤ (x23_2 : Int) := zT zv
           have q11 : x23_2 < (a0.size : Int) := zT zv
           have hx11 := bt_at a0 x23_2
           replace p11 := eq_true p11
           replace q11 := eq_true q11
           go_wp2_with (first | ((with_reducible refine gate_callee (f := 68) rfl ?_); refine goesL_ (some 30) rfl rfl Try.func68 (by kernel_rfl) rfl #[.int .u8 (bt a0 x23_2)] rfl zl ?_; (with_reducible refine (name_sign.calls k2 (bt a0 x23_2) t103 t104 _ A12.out).mono ?_); rintro e w' ⟨rfl, ⟨nd, rfl⟩⟩; refine ⟨_, rfl, ?_⟩))
           go_ret
           exact ⟨zy, zd⟩
          ·
           rw [if_neg c13] at H
           have c13b0 : ((Go.bits .and .i64 t104 t101) == 0) = false := zE c13
           have c13b1 : ((Go.bits .and .i64 t104 t101) != 0) = true := zF c13
           have H' := zM H
           clear H
           have p11 : 0 ≤ (x23_2 : Int) := zT zv
           have q11 : x23_2 < (a0.size : Int) := zT zv
           have hx11 := bt_at a0 x23_2
           replace p11 := eq_true p11
           replace q11 := eq_true q11
           go_wp2_with (first | ((with_reducible refine gate_callee (f := 68) rfl ?_); refine goesL_ (some 30) rfl rfl Try.func68 (by kernel_rfl) rfl #[.int .u8 (bt a0 x23_2)] rfl zl ?_; (with_reducible refine (name_sign.calls k2 (bt a0 x23_2) t103 t104 _ A12.out).mono ?_); rintro e w' ⟨rfl, ⟨nd, rfl⟩⟩; refine ⟨_, rfl, ?_⟩))
           go_roundg k2
           case measure => have := HJ1.out; have := HK2.out; omega
           case rel => exact ⟨(wrap64 (x23_2 + 1)), zy, H', ⟨by have := HJ1.out; have := HK2.out; omega⟩, zd⟩
         ·
          rw [if_neg c10] at H
          exact absurd H (by simp)
        ·
         rw [if_neg c9] at H
         exact absurd H (by simp)
       ·
        rw [if_neg c8] at H
        have c8b0 : decide (x23_2 < (a0.size : Int)) = false := zR c8
        clear c8
        obtain rfl := zS H
        go_wp2
        go_ret
        exact ⟨zy, zd⟩
    ·
     rw [if_neg c5] at H
     exact absurd H (by simp)


-- ==== PF60

/-! ### term_cell: function 60 -/
def term_cell.f (k : Nat) (a0_0 : ByteArray) (a0_1 : Int) : Option (Int) := (name_Kind.f k a0_0).bind fun t102 => (if t102 = 0 then (some 4) else (if a0_1 < 0 then (some 5) else (if a0_1 > 4 then (some 5) else (if t102 = 2 then (if a0_1 > 0 then (some 5) else (some 0)) else (some 0)))))
theorem term_cell.mono : ∀ a0 a1 k, LeO (term_cell.f k a0 a1) (term_cell.f (k + 1) a0 a1) := by
 intro a0 a1 k
 unfold term_cell.f
 repeat' first
  | (with_reducible exact name_Kind.mono _ _)
  | (with_reducible exact LeO.refl _)
  | (with_reducible exact LeO.none _)
  | (with_reducible refine LeO.ite ?_ ?_)
  | (with_reducible refine LeO.bind ?_ (fun _ => ?_))
theorem term_cell.calls (k : Nat) (a0_0 : ByteArray) (a0_1 : Int) (r : Int) (w : World) (h : term_cell.f k a0_0 a0_1 = some r) :
 Calls Try.prog 60 #[.agg #[.string a0_0, .int .i64 a0_1]] w fun e w' => e = .returned (.int .i64 r) ∧ Below w.heap.size w w' := by
 have hu54 := Try.underlying54
 have HB := zM (Below.refl w.heap.size w)
 have H : ((name_Kind.f k a0_0).bind fun t102 => (if t102 = 0 then (some 4) else (if a0_1 < 0 then (some 5) else (if a0_1 > 4 then (some 5) else (if t102 = 2 then (if a0_1 > 0 then (some 5) else (some 0)) else (some 0)))))) = some r := h
 clear h
 replace H := zB H
 obtain ⟨t102, A20, H⟩ := H
 try dsimp only at H
 have A2 := zM A20
 clear A20
 by_cases c3 : t102 = 0
 ·
  rw [if_pos c3] at H
  have c3b0 : (t102 == 0) = true := zG c3
  have c3b1 : (t102 != 0) = false := zH c3
  clear c3
  obtain rfl := zS H
  go_enter Try.func60, Try.ntmps60
  go_wp2_with (first | ((with_reducible refine gate_dst (N := 1) rfl ?_); refine box_event ?hg (N := 1) ?hd (cs := #[.string a0_0, .int .i64 a0_1]) (t := 54) ?hr ?_; (case hd => rfl); (case hg => rfl); (case hr => first | (go_simp; done) | (go_simp; rfl)); intro gb101 hg w4 hbox hb; have BK101 := zM (hbox); have GW101 := zM (zh hg : w.heap.size ≤ gb101); have GE101 := zM (zh hg : w.heap.size ≤ gb101); replace HB := zM (below_step zb hb); clear hb hbox hg; have hcz5_0 : w4.cell? ⟨gb101, 0, none⟩ = some (.string a0_0) := (zX BK101.out 0).trans rfl; have hcz5_1 : w4.cell? ⟨gb101, 1, none⟩ = some (.int .i64 a0_1) := (zX BK101.out 1).trans rfl; have hfz5_0 := zY BK101.out 0; have hfz5_1 := zY BK101.out 1) | ((with_reducible refine gate_callee (f := 43) rfl ?_); refine goesL_ (some 6) rfl rfl Try.func43 (by kernel_rfl) rfl #[.string a0_0] rfl zl ?_; (with_reducible refine (name_Kind.calls k a0_0 t102 _ A2.out).mono ?_); rintro e w' ⟨rfl, ⟨nd, rfl⟩⟩; refine ⟨_, rfl, ?_⟩))
  go_ret
  exact ⟨zw, zb⟩
 ·
  rw [if_neg c3] at H
  have c3b0 : (t102 == 0) = false := zE c3
  have c3b1 : (t102 != 0) = true := zF c3
  by_cases c6 : a0_1 < 0
  ·
   rw [if_pos c6] at H
   have c6b0 : decide (a0_1 < 0) = true := zQ c6
   clear c6
   obtain rfl := zS H
   go_enter Try.func60, Try.ntmps60
   go_wp2_with (first | ((with_reducible refine gate_dst (N := 1) rfl ?_); refine box_event ?hg (N := 1) ?hd (cs := #[.string a0_0, .int .i64 a0_1]) (t := 54) ?hr ?_; (case hd => rfl); (case hg => rfl); (case hr => first | (go_simp; done) | (go_simp; rfl)); intro gb101 hg w7 hbox hb; have BK101 := zM (hbox); have GW101 := zM (zh hg : w.heap.size ≤ gb101); have GE101 := zM (zh hg : w.heap.size ≤ gb101); replace HB := zM (below_step zb hb); clear hb hbox hg; have hcz8_0 : w7.cell? ⟨gb101, 0, none⟩ = some (.string a0_0) := (zX BK101.out 0).trans rfl; have hcz8_1 : w7.cell? ⟨gb101, 1, none⟩ = some (.int .i64 a0_1) := (zX BK101.out 1).trans rfl; have hfz8_0 := zY BK101.out 0; have hfz8_1 := zY BK101.out 1) | ((with_reducible refine gate_callee (f := 43) rfl ?_); refine goesL_ (some 6) rfl rfl Try.func43 (by kernel_rfl) rfl #[.string a0_0] rfl zl ?_; (with_reducible refine (name_Kind.calls k a0_0 t102 _ A2.out).mono ?_); rintro e w' ⟨rfl, ⟨nd, rfl⟩⟩; refine ⟨_, rfl, ?_⟩))
   go_ret
   exact ⟨zw, zb⟩
  ·
   rw [if_neg c6] at H
   have c6b0 : decide (a0_1 < 0) = false := zR c6
   clear c6
   by_cases c9 : a0_1 > 4
   ·
    rw [if_pos c9] at H
    have c9b0 : decide (4 < a0_1) = true := zQ c9
    clear c9
    obtain rfl := zS H
    go_enter Try.func60, Try.ntmps60
    go_wp2_with (first | ((with_reducible refine gate_dst (N := 1) rfl ?_); refine box_event ?hg (N := 1) ?hd (cs := #[.string a0_0, .int .i64 a0_1]) (t := 54) ?hr ?_; (case hd => rfl); (case hg => rfl); (case hr => first | (go_simp; done) | (go_simp; rfl)); intro gb101 hg w10 hbox hb; have BK101 := zM (hbox); have GW101 := zM (zh hg : w.heap.size ≤ gb101); have GE101 := zM (zh hg : w.heap.size ≤ gb101); replace HB := zM (below_step zb hb); clear hb hbox hg; have hcz11_0 : w10.cell? ⟨gb101, 0, none⟩ = some (.string a0_0) := (zX BK101.out 0).trans rfl; have hcz11_1 : w10.cell? ⟨gb101, 1, none⟩ = some (.int .i64 a0_1) := (zX BK101.out 1).trans rfl; have hfz11_0 := zY BK101.out 0; have hfz11_1 := zY BK101.out 1) | ((with_reducible refine gate_callee (f := 43) rfl ?_); refine goesL_ (some 6) rfl rfl Try.func43 (by kernel_rfl) rfl #[.string a0_0] rfl zl ?_; (with_reducible refine (name_Kind.calls k a0_0 t102 _ A2.out).mono ?_); rintro e w' ⟨rfl, ⟨nd, rfl⟩⟩; refine ⟨_, rfl, ?_⟩))
    go_ret
    exact ⟨zw, zb⟩
   ·
    rw [if_neg c9] at H
    have c9b0 : decide (4 < a0_1) = false := zR c9
    clear c9
    by_cases c12 : t102 = 2
    ·
     rw [if_pos c12] at H
     have c12b0 : (t102 == 2) = true := zG c12
     have c12b1 : (t102 != 2) = false := zH c12
     clear c12
     by_cases c13 : a0_1 > 0
     ·
      rw [if_pos c13] at H
      have c13b0 : decide (0 < a0_1) = true := zQ c13
      clear c13
      obtain rfl := zS H
      go_enter Try.func60, Try.ntmps60
      go_wp2_with (first | ((with_reducible refine gate_dst (N := 1) rfl ?_); refine box_event ?hg (N := 1) ?hd (cs := #[.string a0_0, .int .i64 a0_1]) (t := 54) ?hr ?_; (case hd => rfl); (case hg => rfl); (case hr => first | (go_simp; done) | (go_simp; rfl)); intro gb101 hg w14 hbox hb; have BK101 := zM (hbox); have GW101 := zM (zh hg : w.heap.size ≤ gb101); have GE101 := zM (zh hg : w.heap.size ≤ gb101); replace HB := zM (below_step zb hb); clear hb hbox hg; have hcz15_0 : w14.cell? ⟨gb101, 0, none⟩ = some (.string a0_0) := (zX BK101.out 0).trans rfl; have hcz15_1 : w14.cell? ⟨gb101, 1, none⟩ = some (.int .i64 a0_1) := (zX BK101.out 1).trans rfl; have hfz15_0 := zY BK101.out 0; have hfz15_1 := zY BK101.out 1) | ((with_reducible refine gate_callee (f := 43) rfl ?_); refine goesL_ (some 6) rfl rfl Try.func43 (by kernel_rfl) rfl #[.string a0_0] rfl zl ?_; (with_reducible refine (name_Kind.calls k a0_0 t102 _ A2.out).mono ?_); rintro e w' ⟨rfl, ⟨nd, rfl⟩⟩; refine ⟨_, rfl, ?_⟩))
      go_ret
      exact ⟨zw, zb⟩
     ·
      rw [if_neg c13] at H
      have c13b0 : decide (0 < a0_1) = false := zR c13
      clear c13
      obtain rfl := zS H
      go_enter Try.func60, Try.ntmps60
      go_wp2_with (first | ((with_reducible refine gate_dst (N := 1) rfl ?_); refine box_event ?hg (N := 1) ?hd (cs := #[.string a0_0, .int .i64 a0_1]) (t := 54) ?hr ?_; (case hd => rfl); (case hg => rfl); (case hr => first | (go_simp; done) | (go_simp; rfl)); intro gb101 hg w16 hbox hb; have BK101 := zM (hbox); have GW101 := zM (zh hg : w.heap.size ≤ gb101); have GE101 := zM (zh hg : w.heap.size ≤ gb101); replace HB := zM (below_step zb hb); clear hb hbox hg; have hcz17_0 : w16.cell? ⟨gb101, 0, none⟩ = some (.string a0_0) := (zX BK101.out 0).trans rfl; have hcz17_1 : w16.cell? ⟨gb101, 1, none⟩ = some (.int .i64 a0_1) := (zX BK101.out 1).trans rfl; have hfz17_0 := zY BK101.out 0; have hfz17_1 := zY BK101.out 1) | ((with_reducible refine gate_callee (f := 43) rfl ?_); refine goesL_ (some 6) rfl rfl Try.func43 (by kernel_rfl) rfl #[.string a0_0] rfl zl ?_; (with_reducible refine (name_Kind.calls k a0_0 t102 _ A2.out).mono ?_); rintro e w' ⟨rfl, ⟨nd, rfl⟩⟩; refine ⟨_, rfl, ?_⟩))
      go_ret
      exact ⟨zw, zb⟩
    ·
     rw [if_neg c12] at H
     have c12b0 : (t102 == 2) = false := zE c12
     have c12b1 : (t102 != 2) = true := zF c12
     obtain rfl := zS H
     go_enter Try.func60, Try.ntmps60
     go_wp2_with (first | ((with_reducible refine gate_dst (N := 1) rfl ?_); refine box_event ?hg (N := 1) ?hd (cs := #[.string a0_0, .int .i64 a0_1]) (t := 54) ?hr ?_; (case hd => rfl); (case hg => rfl); (case hr => first | (go_simp; done) | (go_simp; rfl)); intro gb101 hg w18 hbox hb; have BK101 := zM (hbox); have GW101 := zM (zh hg : w.heap.size ≤ gb101); have GE101 := zM (zh hg : w.heap.size ≤ gb101); replace HB := zM (below_step zb hb); clear hb hbox hg; have hcz19_0 : w18.cell? ⟨gb101, 0, none⟩ = some (.string a0_0) := (zX BK101.out 0).trans rfl; have hcz19_1 : w18.cell? ⟨gb101, 1, none⟩ = some (.int .i64 a0_1) := (zX BK101.out 1).trans rfl; have hfz19_0 := zY BK101.out 0; have hfz19_1 := zY BK101.out 1) | ((with_reducible refine gate_callee (f := 43) rfl ?_); refine goesL_ (some 6) rfl rfl Try.func43 (by kernel_rfl) rfl #[.string a0_0] rfl zl ?_; (with_reducible refine (name_Kind.calls k a0_0 t102 _ A2.out).mono ?_); rintro e w' ⟨rfl, ⟨nd, rfl⟩⟩; refine ⟨_, rfl, ?_⟩))
     go_ret
     exact ⟨zw, zb⟩


-- ==== PF61

/-! ### term_behind: function 61 -/
def term_behind.l0 : Nat → List (S54) → Int → Int → Option (Int)
 | 0, _, _, _ => none
 | k + 1, x0, x1, x5 => if x5 > 0 then (if x1 ≥ (x0.length : Int) then (some (-1)) else (if 0 ≤ x1 then (if x1 < (x0.length : Int) then (term_behind.l0 k x0 (wrap64 (x1 + 1)) (wrap64 (x5 + (wrap64 (((rd_T54 x0 x1).f1) - 1))))) else (none)) else (none))) else (some x1)
def term_behind.f (k : Nat) (l0 : List (S54)) (a1 : Int) : Option (Int) := term_behind.l0 k l0 a1 1
theorem term_behind.mono_l : ∀ k, (∀ y0 y1 y2, LeO (term_behind.l0 k y0 y1 y2) (term_behind.l0 (k + 1) y0 y1 y2))
 | 0 => fun _ _ _ r h => by simp [term_behind.l0] at h
 | k + 1 => by
  have ih0 := term_behind.mono_l k
  ·
   intro y0 y1 y2
   unfold term_behind.l0
   repeat' first
   | (with_reducible exact ih0 _ _ _)
   | (with_reducible exact LeO.refl _)
   | (with_reducible exact LeO.none _)
   | (with_reducible refine LeO.ite ?_ ?_)
   | (with_reducible refine LeO.bind ?_ (fun _ => ?_))
theorem term_behind.mono : ∀ a0 a1 k, LeO (term_behind.f k a0 a1) (term_behind.f (k + 1) a0 a1) := by
 intro a0 a1 k
 have ih0 := term_behind.mono_l k
 unfold term_behind.f
 repeat' first
  | (with_reducible exact ih0 _ _ _)
  | (with_reducible exact LeO.refl _)
  | (with_reducible exact LeO.none _)
  | (with_reducible refine LeO.ite ?_ ?_)
  | (with_reducible refine LeO.bind ?_ (fun _ => ?_))
theorem term_behind.calls (k : Nat) (A0 : Option Addr) (c0 : Nat) (l0 : List (S54)) (a1 : Int) (r : Int) (w : World) (hr0 : Kd.C k54 w A0 l0.length l0) (hc0 : l0.length ≤ c0) (h : term_behind.f k l0 a1 = some r) :
 Calls Try.prog 61 #[.slice A0 l0.length c0, .int .i64 a1] w fun e w' => e = .returned (.int .i64 r) ∧ Drawn0 w w' := by
 have HR0 := zM hr0
 have HC0 := zM hc0
 clear hr0 hc0
 have H : (term_behind.l0 k l0 a1 1) = some r := h
 clear h
 have H' := zM H
 clear H
 go_enter Try.func61, Try.ntmps61
 go_wp2
 go_loopg [1, 5] k (fun kq v1 v5 w' => ∃ (x1_1 : Int) (x5_1 : Int), v1 = .int .i64 x1_1 ∧ v5 = .int .i64 x5_1 ∧ Aside0 (term_behind.l0 kq l0 x1_1 x5_1 = some r) ∧ Aside0 (kq ≤ k) ∧ Drawn0 w w')
 case atStart => exact ⟨(a1), (1), zy, zy, H', ⟨Nat.le_refl _⟩, zd⟩
 case round =>
  clear H'
  try clear p2
  obtain ⟨x1_1, x5_1, rfl, rfl, HA, HK1, ⟨m1, rfl⟩⟩ := hrel
  cases gk with
  | zero => exact absurd HA.out (by simp [term_behind.l0])
  | succ k1 =>
   have H := HA.out
   clear HA
   simp only [term_behind.l0] at H
   by_cases c3 : x5_1 > 0
   ·
    rw [if_pos c3] at H
    have c3b0 : decide (0 < x5_1) = true := zQ c3
    clear c3
    by_cases c4 : x1_1 ≥ (l0.length : Int)
    ·
     rw [if_pos c4] at H
     have c4b0 : decide ((l0.length : Int) ≤ x1_1) = true := zQ c4
     clear c4
     obtain rfl := zS H
     go_wp2
     go_ret
     exact ⟨zy, zd⟩
    ·
     rw [if_neg c4] at H
     have c4b0 : decide ((l0.length : Int) ≤ x1_1) = false := zR c4
     clear c4
     by_cases c5 : 0 ≤ x1_1
     ·
      rw [if_pos c5] at H
      have c5b0 : decide (0 ≤ x1_1) = true := zQ c5
      clear c5
      by_cases c6 : x1_1 < (l0.length : Int)
      ·
       rw [if_pos c6] at H
       have c6b0 : decide (x1_1 < (l0.length : Int)) = true := zQ c6
       clear c6
       have H' := zM H
       clear H
       have p101 : 0 ≤ (x1_1 : Int) := zT zv
       have q101 : x1_1 < (l0.length : Int) := zT zv
       obtain ⟨ad101, e101, hx101_0, hx101_1⟩ := at_T54 HR0.out x1_1 p101 q101
       cases e101
       replace p101 := eq_true p101
       replace q101 := eq_true q101
       go_wp2
       go_roundg k1
       case measure => have := HK1.out; omega
       case rel => exact ⟨(wrap64 (x1_1 + 1)), (wrap64 (x5_1 + (wrap64 (((rd_T54 l0 x1_1).f1) - 1)))), zy, zy, H', ⟨by have := HK1.out; omega⟩, zd⟩
      ·
       rw [if_neg c6] at H
       exact absurd H (by simp)
     ·
      rw [if_neg c5] at H
      exact absurd H (by simp)
   ·
    rw [if_neg c3] at H
    have c3b0 : decide (0 < x5_1) = false := zR c3
    clear c3
    obtain rfl := zS H
    go_wp2
    go_ret
    exact ⟨zy, zd⟩


-- ==== PF30

/-! ### term_Check: function 30 -/
def term_Check.l0 : Nat → List (S54) → List (S54) → Int → Int → Option (Int)
 | 0, _, _, _, _ => none
 | k + 1, x0, x9, x10, x11 => if x11 < x10 then (if 0 ≤ x11 then (if x11 < (x9.length : Int) then ((term_cell.f k ((rd_T54 x9 x11).f0) ((rd_T54 x9 x11).f1)).bind fun t103 => (if t103 = 0 then (term_Check.l0 k x0 x9 x10 (wrap64 (x11 + 1))) else (some t103))) else (none)) else (none)) else ((term_behind.f k x0 0).bind fun t104 => (if t104 = (x0.length : Int) then (some 0) else (some 3)))
def term_Check.f (k : Nat) (l0 : List (S54)) : Option (Int) := if (l0.length : Int) > 64 then (some 6) else (term_Check.l0 k l0 l0 (l0.length : Int) 0)
theorem term_Check.mono_l : ∀ k, (∀ y0 y1 y2 y3, LeO (term_Check.l0 k y0 y1 y2 y3) (term_Check.l0 (k + 1) y0 y1 y2 y3))
 | 0 => fun _ _ _ _ r h => by simp [term_Check.l0] at h
 | k + 1 => by
  have ih0 := term_Check.mono_l k
  ·
   intro y0 y1 y2 y3
   unfold term_Check.l0
   repeat' first
   | (with_reducible exact ih0 _ _ _ _)
   | (with_reducible exact term_behind.mono _ _ _)
   | (with_reducible exact term_cell.mono _ _ _)
   | (with_reducible exact LeO.refl _)
   | (with_reducible exact LeO.none _)
   | (with_reducible refine LeO.ite ?_ ?_)
   | (with_reducible refine LeO.bind ?_ (fun _ => ?_))
theorem term_Check.mono : ∀ a0 k, LeO (term_Check.f k a0) (term_Check.f (k + 1) a0) := by
 intro a0 k
 have ih0 := term_Check.mono_l k
 unfold term_Check.f
 repeat' first
  | (with_reducible exact ih0 _ _ _ _)
  | (with_reducible exact term_behind.mono _ _ _)
  | (with_reducible exact term_cell.mono _ _ _)
  | (with_reducible exact LeO.refl _)
  | (with_reducible exact LeO.none _)
  | (with_reducible refine LeO.ite ?_ ?_)
  | (with_reducible refine LeO.bind ?_ (fun _ => ?_))
theorem term_Check.calls (k : Nat) (A0 : Option Addr) (c0 : Nat) (l0 : List (S54)) (r : Int) (w : World) (hr0 : Kd.C k54 w A0 l0.length l0) (hc0 : l0.length ≤ c0) (h : term_Check.f k l0 = some r) :
 Calls Try.prog 30 #[.slice A0 l0.length c0] w fun e w' => e = .returned (.int .i64 r) ∧ Below w.heap.size w w' := by
 have hu54 := Try.underlying54
 have HR0 := zM hr0
 have HC0 := zM hc0
 clear hr0 hc0
 have HB := zM (Below.refl w.heap.size w)
 have H : (if (l0.length : Int) > 64 then (some 6) else (term_Check.l0 k l0 l0 (l0.length : Int) 0)) = some r := h
 clear h
 by_cases c2 : (l0.length : Int) > 64
 ·
  rw [if_pos c2] at H
  have c2b0 : decide (64 < (l0.length : Int)) = true := zQ c2
  have c2b1 : decide (64 < l0.length) = true := zQ (by omega)
  clear c2
  obtain rfl := zS H
  go_enter Try.func30, Try.ntmps30
  go_wp2
  go_ret
  exact ⟨zw, zb⟩
 ·
  rw [if_neg c2] at H
  have c2b0 : decide (64 < (l0.length : Int)) = false := zR c2
  have c2b1 : decide (64 < l0.length) = false := zR (by omega)
  clear c2
  have H' := zM H
  clear H
  go_enter Try.func30, Try.ntmps30
  go_wp2
  go_loopg [11] k (fun kq v11 w' => ∃ (x11_1 : Int), v11 = .int .i64 x11_1 ∧ Aside0 (term_Check.l0 kq l0 l0 (l0.length : Int) x11_1 = some r) ∧ Aside0 (kq ≤ k) ∧ Aside0 (Below w.heap.size w w'))
  case atStart => exact ⟨(0), zy, H', ⟨Nat.le_refl _⟩, ⟨zb⟩⟩
  case round =>
   clear H'
   try clear c2
   try clear c2b0
   try clear c2b1
   try clear p2
   obtain ⟨x11_1, rfl, HA, HK1, HB⟩ := hrel
   cases gk with
   | zero => exact absurd HA.out (by simp [term_Check.l0])
   | succ k1 =>
    have H := HA.out
    clear HA
    simp only [term_Check.l0] at H
    by_cases c3 : x11_1 < (l0.length : Int)
    ·
     rw [if_pos c3] at H
     have c3b0 : decide (x11_1 < (l0.length : Int)) = true := zQ c3
     clear c3
     by_cases c4 : 0 ≤ x11_1
     ·
      rw [if_pos c4] at H
      have c4b0 : decide (0 ≤ x11_1) = true := zQ c4
      clear c4
      by_cases c5 : x11_1 < (l0.length : Int)
      ·
       rw [if_pos c5] at H
       have c5b0 : decide (x11_1 < (l0.length : Int)) = true := zQ c5
       clear c5
       replace H := zB H
       obtain ⟨t103, A60, H⟩ := H
       try dsimp only at H
       have A6 := zM A60
       clear A60
       by_cases c7 : t103 = 0
       ·
        rw [if_pos c7] at H
        have c7b0 : (t103 == 0) = true := zG c7
        have c7b1 : (t103 != 0) = false := zH c7
        clear c7
        have H' := zM H
        clear H
        have p101 : 0 ≤ (x11_1 : Int) := zT zv
        have q101 : x11_1 < (l0.length : Int) := zT zv
        obtain ⟨ad101, e101, hx101_0, hx101_1⟩ := at_T54 HR0.out x11_1 p101 q101
        cases e101
        replace hx101_0 := (HB.out.cell (World.block_lt_of_cell? w _ hx101_0)).trans hx101_0
        replace hx101_1 := (HB.out.cell (World.block_lt_of_cell? w _ hx101_1)).trans hx101_1
        replace p101 := eq_true p101
        replace q101 := eq_true q101
        go_wp2_with (first | ((with_reducible refine gate_dst (N := 4) rfl ?_); refine box_event ?hg (N := 4) ?hd (cs := #[.string (⟨#[]⟩ : ByteArray), .int .i64 0]) (t := 54) ?hr ?_; (case hd => rfl); (case hg => rfl); (case hr => first | (go_simp; done) | (go_simp; rfl)); intro gb102 hg w8 hbox hb; have BK102 := zM (hbox); have GW102 := zM (zh hg : w.heap.size ≤ gb102); have GE102 := zM (zh hg : w.heap.size ≤ gb102); replace HB := zM (below_step zb hb); clear hb hbox hg; have hcz9_0 : w8.cell? ⟨gb102, 0, none⟩ = some (.string (⟨#[]⟩ : ByteArray)) := (zX BK102.out 0).trans rfl; have hcz9_1 : w8.cell? ⟨gb102, 1, none⟩ = some (.int .i64 0) := (zX BK102.out 1).trans rfl; have hfz9_0 := zY BK102.out 0; have hfz9_1 := zY BK102.out 1) | ((with_reducible refine gate_callee (f := 60) rfl ?_); refine goesL_ (some 16) rfl rfl Try.func60 (by kernel_rfl) rfl #[.agg #[.string ((rd_T54 l0 x11_1).f0), .int .i64 ((rd_T54 l0 x11_1).f1)]] rfl zl ?_; (with_reducible refine (term_cell.calls k1 ((rd_T54 l0 x11_1).f0) ((rd_T54 l0 x11_1).f1) t103 _ A6.out).mono ?_); rintro e w10 ⟨rfl, hb⟩; refine ⟨_, rfl, ?_⟩; replace BK102 := zM (blk_below (g := gb102) (o := .cells #[.string ((rd_T54 l0 x11_1).f0), .int .i64 ((rd_T54 l0 x11_1).f1)] 54 (0, 0)) (by refine zk ?_; refine blk_put (cs := #[.string ((rd_T54 l0 x11_1).f0), .int .i64 0]) ?_ 1 _ rfl; refine zk ?_; refine blk_put (cs := #[.string (⟨#[]⟩ : ByteArray), .int .i64 0]) ?_ 0 _ rfl; refine zk ?_; exact BK102.out) hb); replace HB := zM (below_step zb hb); (try clear hb)))
        go_roundg k1
        case measure => have := HK1.out; omega
        case rel => exact ⟨(wrap64 (x11_1 + 1)), zy, H', ⟨by have := HK1.out; omega⟩, ⟨zb⟩⟩
       ·
        rw [if_neg c7] at H
        have c7b0 : (t103 == 0) = false := zE c7
        have c7b1 : (t103 != 0) = true := zF c7
        obtain rfl := zS H
        have p101 : 0 ≤ (x11_1 : Int) := zT zv
        have q101 : x11_1 < (l0.length : Int) := zT zv
        obtain ⟨ad101, e101, hx101_0, hx101_1⟩ := at_T54 HR0.out x11_1 p101 q101
        cases e101
        replace hx101_0 := (HB.out.cell (World.block_lt_of_cell? w _ hx101_0)).trans hx101_0
        replace hx101_1 := (HB.out.cell (World.block_lt_of_cell? w _ hx101_1)).trans hx101_1
        replace p101 := eq_true p101
        replace q101 := eq_true q101
        go_wp2_with (first | ((with_reducible refine gate_dst (N := 4) rfl ?_); refine box_event ?hg (N := 4) ?hd (cs := #[.string (⟨#[]⟩ : ByteArray), .int .i64 0]) (t := 54) ?hr ?_; (case hd => rfl); (case hg => rfl); (case hr => first | (go_simp; done) | (go_simp; rfl)); intro gb102 hg w11 hbox hb; have BK102 := zM (hbox); have GW102 := zM (zh hg : w.heap.size ≤ gb102); have GE102 := zM (zh hg : w.heap.size ≤ gb102); replace HB := zM (below_step zb hb); clear hb hbox hg; have hcz12_0 : w11.cell? ⟨gb102, 0, none⟩ = some (.string (⟨#[]⟩ : ByteArray)) := (zX BK102.out 0).trans rfl; have hcz12_1 : w11.cell? ⟨gb102, 1, none⟩ = some (.int .i64 0) := (zX BK102.out 1).trans rfl; have hfz12_0 := zY BK102.out 0; have hfz12_1 := zY BK102.out 1) | ((with_reducible refine gate_callee (f := 60) rfl ?_); refine goesL_ (some 16) rfl rfl Try.func60 (by kernel_rfl) rfl #[.agg #[.string ((rd_T54 l0 x11_1).f0), .int .i64 ((rd_T54 l0 x11_1).f1)]] rfl zl ?_; (with_reducible refine (term_cell.calls k1 ((rd_T54 l0 x11_1).f0) ((rd_T54 l0 x11_1).f1) t103 _ A6.out).mono ?_); rintro e w13 ⟨rfl, hb⟩; refine ⟨_, rfl, ?_⟩; replace BK102 := zM (blk_below (g := gb102) (o := .cells #[.string ((rd_T54 l0 x11_1).f0), .int .i64 ((rd_T54 l0 x11_1).f1)] 54 (0, 0)) (by refine zk ?_; refine blk_put (cs := #[.string ((rd_T54 l0 x11_1).f0), .int .i64 0]) ?_ 1 _ rfl; refine zk ?_; refine blk_put (cs := #[.string (⟨#[]⟩ : ByteArray), .int .i64 0]) ?_ 0 _ rfl; refine zk ?_; exact BK102.out) hb); replace HB := zM (below_step zb hb); (try clear hb)))
        go_ret
        exact ⟨zw, zb⟩
      ·
       rw [if_neg c5] at H
       exact absurd H (by simp)
     ·
      rw [if_neg c4] at H
      exact absurd H (by simp)
    ·
     rw [if_neg c3] at H
     have c3b0 : decide (x11_1 < (l0.length : Int)) = false := zR c3
     clear c3
     replace H := zB H
     obtain ⟨t104, A140, H⟩ := H
     try dsimp only at H
     have A14 := zM A140
     clear A140
     by_cases c15 : t104 = (l0.length : Int)
     ·
      rw [if_pos c15] at H
      have c15b0 : (t104 == (l0.length : Int)) = true := zG c15
      have c15b1 : (t104 != (l0.length : Int)) = false := zH c15
      clear c15
      obtain rfl := zS H
      go_wp2_with (first | ((with_reducible refine gate_callee (f := 61) rfl ?_); refine goesL_ (some 22) rfl rfl Try.func61 (by kernel_rfl) rfl #[.slice A0 l0.length c0, .int .i64 0] rfl zl ?_; (with_reducible refine (term_behind.calls k1 _ _ l0 0 t104 _ ?side1 ?side2 A14.out).mono ?_); (case side1 => exact Kd.C_below HR0.out zb); (case side2 => exact HC0.out); rintro e w' ⟨rfl, ⟨nd, rfl⟩⟩; refine ⟨_, rfl, ?_⟩))
      go_ret
      exact ⟨zw, zb⟩
     ·
      rw [if_neg c15] at H
      have c15b0 : (t104 == (l0.length : Int)) = false := zE c15
      have c15b1 : (t104 != (l0.length : Int)) = true := zF c15
      obtain rfl := zS H
      go_wp2_with (first | ((with_reducible refine gate_callee (f := 61) rfl ?_); refine goesL_ (some 22) rfl rfl Try.func61 (by kernel_rfl) rfl #[.slice A0 l0.length c0, .int .i64 0] rfl zl ?_; (with_reducible refine (term_behind.calls k1 _ _ l0 0 t104 _ ?side1 ?side2 A14.out).mono ?_); (case side1 => exact Kd.C_below HR0.out zb); (case side2 => exact HC0.out); rintro e w' ⟨rfl, ⟨nd, rfl⟩⟩; refine ⟨_, rfl, ?_⟩))
      go_ret
      exact ⟨zw, zb⟩


-- ==== PF95

/-! ### slices_Index_string_string: function 95 -/
def slices_Index_string_string.l0 : Nat → List ByteArray → ByteArray → Int → Int → Option (Int)
 | 0, _, _, _, _ => none
 | k + 1, x0, x1, x7, x8 => if x8 < x7 then (if 0 ≤ x8 then (if x8 < (x0.length : Int) then (if x1.toList = (rdOf ByteArray.empty x0 x8).toList then (some x8) else (slices_Index_string_string.l0 k x0 x1 x7 (wrap64 (x8 + 1)))) else (none)) else (none)) else (some (-1))
def slices_Index_string_string.f (k : Nat) (l0 : List ByteArray) (a1 : ByteArray) : Option (Int) := slices_Index_string_string.l0 k l0 a1 (l0.length : Int) 0
theorem slices_Index_string_string.mono_l : ∀ k, (∀ y0 y1 y2 y3, LeO (slices_Index_string_string.l0 k y0 y1 y2 y3) (slices_Index_string_string.l0 (k + 1) y0 y1 y2 y3))
 | 0 => fun _ _ _ _ r h => by simp [slices_Index_string_string.l0] at h
 | k + 1 => by
  have ih0 := slices_Index_string_string.mono_l k
  ·
   intro y0 y1 y2 y3
   unfold slices_Index_string_string.l0
   repeat' first
   | (with_reducible exact ih0 _ _ _ _)
   | (with_reducible exact LeO.refl _)
   | (with_reducible exact LeO.none _)
   | (with_reducible refine LeO.ite ?_ ?_)
   | (with_reducible refine LeO.bind ?_ (fun _ => ?_))
theorem slices_Index_string_string.mono : ∀ a0 a1 k, LeO (slices_Index_string_string.f k a0 a1) (slices_Index_string_string.f (k + 1) a0 a1) := by
 intro a0 a1 k
 have ih0 := slices_Index_string_string.mono_l k
 unfold slices_Index_string_string.f
 repeat' first
  | (with_reducible exact ih0 _ _ _ _)
  | (with_reducible exact LeO.refl _)
  | (with_reducible exact LeO.none _)
  | (with_reducible refine LeO.ite ?_ ?_)
  | (with_reducible refine LeO.bind ?_ (fun _ => ?_))
theorem slices_Index_string_string.calls (k : Nat) (A0 : Option Addr) (c0 : Nat) (l0 : List ByteArray) (a1 : ByteArray) (r : Int) (w : World) (hr0 : Kd.C Kd.string w A0 l0.length l0) (hc0 : l0.length ≤ c0) (h : slices_Index_string_string.f k l0 a1 = some r) :
 Calls Try.prog 95 #[.slice A0 l0.length c0, .string a1] w fun e w' => e = .returned (.int .i64 r) ∧ Drawn0 w w' := by
 have HR0 := zM hr0
 have HC0 := zM hc0
 clear hr0 hc0
 have H : (slices_Index_string_string.l0 k l0 a1 (l0.length : Int) 0) = some r := h
 clear h
 have H' := zM H
 clear H
 go_enter Try.func95, Try.ntmps95
 go_wp2
 go_loopg [8] k (fun kq v8 w' => ∃ (x8_1 : Int), v8 = .int .i64 x8_1 ∧ Aside0 (slices_Index_string_string.l0 kq l0 a1 (l0.length : Int) x8_1 = some r) ∧ Aside0 (kq ≤ k) ∧ Drawn0 w w')
 case atStart => exact ⟨(0), zy, H', ⟨Nat.le_refl _⟩, zd⟩
 case round =>
  clear H'
  try clear p2
  obtain ⟨x8_1, rfl, HA, HK1, ⟨m1, rfl⟩⟩ := hrel
  cases gk with
  | zero => exact absurd HA.out (by simp [slices_Index_string_string.l0])
  | succ k1 =>
   have H := HA.out
   clear HA
   simp only [slices_Index_string_string.l0] at H
   by_cases c3 : x8_1 < (l0.length : Int)
   ·
    rw [if_pos c3] at H
    have c3b0 : decide (x8_1 < (l0.length : Int)) = true := zQ c3
    clear c3
    by_cases c4 : 0 ≤ x8_1
    ·
     rw [if_pos c4] at H
     have c4b0 : decide (0 ≤ x8_1) = true := zQ c4
     clear c4
     by_cases c5 : x8_1 < (l0.length : Int)
     ·
      rw [if_pos c5] at H
      have c5b0 : decide (x8_1 < (l0.length : Int)) = true := zQ c5
      clear c5
      by_cases c6 : a1.toList = (rdOf ByteArray.empty l0 x8_1).toList
      ·
       rw [if_pos c6] at H
       have c6b0 : (a1.toList == (rdOf ByteArray.empty l0 x8_1).toList) = true := zG c6
       have c6b1 : (a1.toList != (rdOf ByteArray.empty l0 x8_1).toList) = false := zH c6
       clear c6
       obtain rfl := zS H
       have p101 : 0 ≤ (x8_1 : Int) := zT zv
       have q101 : x8_1 < (l0.length : Int) := zT zv
       obtain ⟨ad101, e101, hx101_0⟩ := Kd.at_string HR0.out x8_1 p101 q101
       cases e101
       replace p101 := eq_true p101
       replace q101 := eq_true q101
       go_wp2
       go_ret
       exact ⟨zy, zd⟩
      ·
       rw [if_neg c6] at H
       have c6b0 : (a1.toList == (rdOf ByteArray.empty l0 x8_1).toList) = false := zE c6
       have c6b1 : (a1.toList != (rdOf ByteArray.empty l0 x8_1).toList) = true := zF c6
       have H' := zM H
       clear H
       have p101 : 0 ≤ (x8_1 : Int) := zT zv
       have q101 : x8_1 < (l0.length : Int) := zT zv
       obtain ⟨ad101, e101, hx101_0⟩ := Kd.at_string HR0.out x8_1 p101 q101
       cases e101
       replace p101 := eq_true p101
       replace q101 := eq_true q101
       go_wp2
       go_roundg k1
       case measure => have := HK1.out; omega
       case rel => exact ⟨(wrap64 (x8_1 + 1)), zy, H', ⟨by have := HK1.out; omega⟩, zd⟩
     ·
      rw [if_neg c5] at H
      exact absurd H (by simp)
    ·
     rw [if_neg c4] at H
     exact absurd H (by simp)
   ·
    rw [if_neg c3] at H
    have c3b0 : decide (x8_1 < (l0.length : Int)) = false := zR c3
    clear c3
    obtain rfl := zS H
    go_wp2
    go_ret
    exact ⟨zy, zd⟩


-- ==== PF80

/-! ### slices_Contains_string_string: function 80 -/
def slices_Contains_string_string.f (k : Nat) (l0 : List ByteArray) (a1 : ByteArray) : Option (Bool) := (slices_Index_string_string.f k l0 a1).bind fun t101 => (some (decide (t101 ≥ 0)))
theorem slices_Contains_string_string.mono : ∀ a0 a1 k, LeO (slices_Contains_string_string.f k a0 a1) (slices_Contains_string_string.f (k + 1) a0 a1) := by
 intro a0 a1 k
 unfold slices_Contains_string_string.f
 repeat' first
  | (with_reducible exact slices_Index_string_string.mono _ _ _)
  | (with_reducible exact LeO.refl _)
  | (with_reducible exact LeO.none _)
  | (with_reducible refine LeO.ite ?_ ?_)
  | (with_reducible refine LeO.bind ?_ (fun _ => ?_))
theorem slices_Contains_string_string.calls (k : Nat) (A0 : Option Addr) (c0 : Nat) (l0 : List ByteArray) (a1 : ByteArray) (r : Bool) (w : World) (hr0 : Kd.C Kd.string w A0 l0.length l0) (hc0 : l0.length ≤ c0) (h : slices_Contains_string_string.f k l0 a1 = some r) :
 Calls Try.prog 80 #[.slice A0 l0.length c0, .string a1] w fun e w' => e = .returned (.bool r) ∧ Drawn0 w w' := by
 have HR0 := zM hr0
 have HC0 := zM hc0
 clear hr0 hc0
 have H : ((slices_Index_string_string.f k l0 a1).bind fun t101 => (some (decide (t101 ≥ 0)))) = some r := h
 clear h
 replace H := zB H
 obtain ⟨t101, A30, H⟩ := H
 try dsimp only at H
 have A3 := zM A30
 clear A30
 obtain rfl := zS H
 go_enter Try.func80, Try.ntmps80
 go_wp2_with (first | ((with_reducible refine gate_callee (f := 95) rfl ?_); refine goesL_ (some 7) rfl rfl Try.func95 (by kernel_rfl) rfl #[.slice A0 l0.length c0, .string a1] rfl zl ?_; (with_reducible refine (slices_Index_string_string.calls k _ _ l0 a1 t101 _ ?side1 ?side2 A3.out).mono ?_); (case side1 => exact Kd.C_below HR0.out zg); (case side2 => exact HC0.out); rintro e w' ⟨rfl, ⟨nd, rfl⟩⟩; refine ⟨_, rfl, ?_⟩))
 go_ret
 exact ⟨zy, zd⟩


-- ==== PF62

/-! ### term_Vars: function 62 -/
def term_Vars.l0 : Nat → List ByteArray → List (S54) → Int → Int → Option (List ByteArray × Int)
 | 0, _, _, _, _ => none
 | k + 1, x5, x13, x14, x15 => if x15 < x14 then (if 0 ≤ x15 then (if x15 < (x13.length : Int) then ((name_Kind.f k ((rd_T54 x13 x15).f0)).bind fun t104 => (if t104 = 2 then ((slices_Contains_string_string.f k x5 ((rd_T54 x13 x15).f0)).bind fun t105 => (if t105 = true then (term_Vars.l0 k x5 x13 x14 (wrap64 (x15 + 1))) else (if x5.length < 8796093022208 then (term_Vars.l0 k (x5 ++ [(rd_T54 x13 x15).f0]) x13 x14 (wrap64 (x15 + 1))) else (none)))) else (term_Vars.l0 k x5 x13 x14 (wrap64 (x15 + 1))))) else (none)) else (none)) else (some (x5, 0))
def term_Vars.f (k : Nat) (l0 : List (S54)) : Option (List ByteArray × Int) := (term_Check.f k l0).bind fun t101 => (if t101 = 0 then (term_Vars.l0 k ([] : List ByteArray) l0 (l0.length : Int) 0) else (some (([] : List ByteArray), t101)))
theorem term_Vars.mono_l : ∀ k, (∀ y0 y1 y2 y3, LeO (term_Vars.l0 k y0 y1 y2 y3) (term_Vars.l0 (k + 1) y0 y1 y2 y3))
 | 0 => fun _ _ _ _ r h => by simp [term_Vars.l0] at h
 | k + 1 => by
  have ih0 := term_Vars.mono_l k
  ·
   intro y0 y1 y2 y3
   unfold term_Vars.l0
   repeat' first
   | (with_reducible exact ih0 _ _ _ _)
   | (with_reducible exact name_Kind.mono _ _)
   | (with_reducible exact slices_Contains_string_string.mono _ _ _)
   | (with_reducible exact term_Check.mono _ _)
   | (with_reducible exact LeO.refl _)
   | (with_reducible exact LeO.none _)
   | (with_reducible refine LeO.ite ?_ ?_)
   | (with_reducible refine LeO.bind ?_ (fun _ => ?_))
theorem term_Vars.mono : ∀ a0 k, LeO (term_Vars.f k a0) (term_Vars.f (k + 1) a0) := by
 intro a0 k
 have ih0 := term_Vars.mono_l k
 unfold term_Vars.f
 repeat' first
  | (with_reducible exact ih0 _ _ _ _)
  | (with_reducible exact name_Kind.mono _ _)
  | (with_reducible exact slices_Contains_string_string.mono _ _ _)
  | (with_reducible exact term_Check.mono _ _)
  | (with_reducible exact LeO.refl _)
  | (with_reducible exact LeO.none _)
  | (with_reducible refine LeO.ite ?_ ?_)
  | (with_reducible refine LeO.bind ?_ (fun _ => ?_))
theorem term_Vars.calls (k : Nat) (A0 : Option Addr) (c0 : Nat) (l0 : List (S54)) (r1 : List ByteArray) (r2 : Int) (w : World) (hr0 : Kd.C k54 w A0 l0.length l0) (hc0 : l0.length ≤ c0) (h : term_Vars.f k l0 = some (r1, r2)) :
 Calls Try.prog 62 #[.slice A0 l0.length c0] w fun e w' => ∃ v0_ : Value, e = .returned (.tuple #[v0_, .int .i64 r2]) ∧ Kd.R Kd.string 9 w' w.heap.size (fun _ => True) v0_ r1 ∧ Below w.heap.size w w' := by
 have hu54 := Try.underlying54
 have HR0 := zM hr0
 have HC0 := zM hc0
 clear hr0 hc0
 have HB := zM (Below.refl w.heap.size w)
 have H : ((term_Check.f k l0).bind fun t101 => (if t101 = 0 then (term_Vars.l0 k ([] : List ByteArray) l0 (l0.length : Int) 0) else (some (([] : List ByteArray), t101)))) = some (r1, r2) := h
 clear h
 replace H := zB H
 obtain ⟨t101, A20, H⟩ := H
 try dsimp only at H
 have A2 := zM A20
 clear A20
 by_cases c3 : t101 = 0
 ·
  rw [if_pos c3] at H
  have c3b0 : (t101 == 0) = true := zG c3
  have c3b1 : (t101 != 0) = false := zH c3
  clear c3
  have H' := zM H
  clear H
  go_enter Try.func62, Try.ntmps62
  go_wp2_with (first | ((with_reducible refine gate_callee (f := 30) rfl ?_); refine goesL_ (some 9) rfl rfl Try.func30 (by kernel_rfl) rfl #[.slice A0 l0.length c0] rfl zl ?_; (with_reducible refine (term_Check.calls k _ _ l0 t101 _ ?side1 ?side2 A2.out).mono ?_); (case side1 => exact Kd.C_below HR0.out zg); (case side2 => exact HC0.out); rintro e w4 ⟨rfl, hb⟩; refine ⟨_, rfl, ?_⟩; replace HB := zM (below_step zb hb); (try clear hb)))
  go_loopg [5, 15] k (fun kq v5 v15 w' => ∃ (x5_1 : List ByteArray) (x15_1 : Int), v15 = .int .i64 x15_1 ∧ Aside0 (term_Vars.l0 kq x5_1 l0 (l0.length : Int) x15_1 = some (r1, r2)) ∧ Aside0 (kq ≤ k) ∧ Aside0 (Kd.R Kd.string 9 w' w.heap.size (fun _ => True) v5 x5_1) ∧ Aside0 (Below w.heap.size w w'))
  case atStart => exact ⟨(([] : List ByteArray)), (0), zy, H', ⟨Nat.le_refl _⟩, ⟨by first | exact Kd.R_nil _ _ _ _ _ | exact Kd.N_nil _ _ _ _ _ | exact Kd.V_nil _ _ _ _ _ | exact Kd.Q_nil _ _ _ _ _ | exact Kd.S_nil _ _ _ _ _⟩, ⟨zb⟩⟩
  case round =>
   clear H'
   try clear p2
   try clear c3
   try clear c3b0
   try clear c3b1
   obtain ⟨x5_1, x15_1, rfl, HA, HK1, HO_5, HB⟩ := hrel
   cases gk with
   | zero => exact absurd HA.out (by simp [term_Vars.l0])
   | succ k1 =>
    have H := HA.out
    clear HA
    simp only [term_Vars.l0] at H
    by_cases c5 : x15_1 < (l0.length : Int)
    ·
     rw [if_pos c5] at H
     have c5b0 : decide (x15_1 < (l0.length : Int)) = true := zQ c5
     clear c5
     by_cases c6 : 0 ≤ x15_1
     ·
      rw [if_pos c6] at H
      have c6b0 : decide (0 ≤ x15_1) = true := zQ c6
      clear c6
      by_cases c7 : x15_1 < (l0.length : Int)
      ·
       rw [if_pos c7] at H
       have c7b0 : decide (x15_1 < (l0.length : Int)) = true := zQ c7
       clear c7
       replace H := zB H
       obtain ⟨t104, A80, H⟩ := H
       try dsimp only at H
       have A8 := zM A80
       clear A80
       by_cases c9 : t104 = 2
       ·
        rw [if_pos c9] at H
        have c9b0 : (t104 == 2) = true := zG c9
        have c9b1 : (t104 != 2) = false := zH c9
        clear c9
        replace H := zB H
        obtain ⟨t105, A100, H⟩ := H
        try dsimp only at H
        have A10 := zM A100
        clear A100
        by_cases c11 : t105 = true
        ·
         subst c11
         rw [if_pos rfl] at H
         have H' := zM H
         clear H
         have p102 : 0 ≤ (x15_1 : Int) := zT zv
         have q102 : x15_1 < (l0.length : Int) := zT zv
         obtain ⟨ad102, e102, hx102_0, hx102_1⟩ := at_T54 HR0.out x15_1 p102 q102
         cases e102
         replace hx102_0 := (HB.out.cell (World.block_lt_of_cell? w _ hx102_0)).trans hx102_0
         replace hx102_1 := (HB.out.cell (World.block_lt_of_cell? w _ hx102_1)).trans hx102_1
         replace p102 := eq_true p102
         replace q102 := eq_true q102
         go_wp2_with (first | ((with_reducible refine gate_dst (N := 7) rfl ?_); refine box_event ?hg (N := 7) ?hd (cs := #[.string (⟨#[]⟩ : ByteArray), .int .i64 0]) (t := 54) ?hr ?_; (case hd => rfl); (case hg => rfl); (case hr => first | (go_simp; done) | (go_simp; rfl)); intro gb103 hg w12 hbox hb; replace HO_5 := zM (Kd.R_below (zr HO_5.out) hb); have BK103 := zM (hbox); have GW103 := zM (zh hg : w.heap.size ≤ gb103); have GE103 := zM (zh hg : w.heap.size ≤ gb103); replace HB := zM (below_step zb hb); clear hb hbox hg; have hcz13_0 : w12.cell? ⟨gb103, 0, none⟩ = some (.string (⟨#[]⟩ : ByteArray)) := (zX BK103.out 0).trans rfl; have hcz13_1 : w12.cell? ⟨gb103, 1, none⟩ = some (.int .i64 0) := (zX BK103.out 1).trans rfl; have hfz13_0 := zY BK103.out 0; have hfz13_1 := zY BK103.out 1) | ((with_reducible refine gate_callee (f := 43) rfl ?_); refine goesL_ (some 21) rfl rfl Try.func43 (by kernel_rfl) rfl #[.string ((rd_T54 l0 x15_1).f0)] rfl zl ?_; (with_reducible refine (name_Kind.calls k1 ((rd_T54 l0 x15_1).f0) t104 _ A8.out).mono ?_); rintro e w' ⟨rfl, ⟨nd, rfl⟩⟩; refine ⟨_, rfl, ?_⟩; obtain ⟨Ao14, co14, eo14⟩ := Kd.R_slice HO_5.out; subst eo14) | (go_at_call 80; (with_reducible refine (slices_Contains_string_string.calls k1 _ _ x5_1 ((rd_T54 l0 x15_1).f0) true _ ?side1 ?side2 A10.out).mono ?_); (case side1 => refine (Kd.R_reads' (e := 9) (base := w.heap.size) (ok := fun k_ => True) (n := x5_1.length) (c := co14) ?_).2.2; exact (by (with_reducible repeat (first | apply Kd.R_alloc | apply Kd.R_drewN | apply Kd.R_drew)); exact (Kd.R_mono (Kd.R_far (p := ⟨gb103, 1, none⟩) (Kd.R_far (p := ⟨gb103, 0, none⟩) (Kd.R_types HO_5.out BK103.out (by decide)) (fun _ hk => hk.2) (.string ((rd_T54 l0 x15_1).f0))) (fun _ hk => hk.2) (.int .i64 ((rd_T54 l0 x15_1).f1))) (fun _ h_ => h_.1)))); (case side2 => exact (Kd.R_reads' HO_5.out).2.1); rintro e w' ⟨rfl, ⟨nd, rfl⟩⟩))
         go_roundg k1
         case measure => have := HK1.out; omega
         case rel => exact ⟨(x5_1), (wrap64 (x15_1 + 1)), zy, H', ⟨by have := HK1.out; omega⟩, ⟨by (with_reducible repeat (first | apply Kd.R_alloc | apply Kd.R_drewN | apply Kd.R_drew)); exact Kd.R_mono (Kd.R_far (p := ⟨gb103, 1, none⟩) (Kd.R_far (p := ⟨gb103, 0, none⟩) (Kd.R_types HO_5.out BK103.out (by decide)) (fun _ hk => hk.2) (.string ((rd_T54 l0 x15_1).f0))) (fun _ hk => hk.2) (.int .i64 ((rd_T54 l0 x15_1).f1))) (fun _ hk => trivial)⟩, ⟨zb⟩⟩
        ·
         replace c11 := zI c11
         subst c11
         rw [if_neg (show ¬ (false = true) by decide)] at H
         by_cases c15 : x5_1.length < 8796093022208
         ·
          rw [if_pos c15] at H
          have LMc15 := zM c15
          clear c15
          obtain ⟨y106, hy106⟩ : ∃ y_ : List ByteArray, y_ = (x5_1 ++ [(rd_T54 l0 x15_1).f0]) := ⟨_, rfl⟩
          replace H : (term_Vars.l0 k1 y106 l0 (l0.length : Int) (wrap64 (x15_1 + 1))) = some (r1, r2) := by first | (rw [hy106]; with_reducible exact H) | (have H2_ := (Option.bind_some _ _).symm.trans H; rw [hy106]; with_reducible exact H2_) | (have H2_ := (Option.bind_some _ _).symm.trans H; with_reducible exact H2_) | with_reducible exact H | (rw [hy106]; exact H) | exact H
          have Ny106 := zM hy106
          clear hy106
          have H' := zM H
          clear H
          have p102 : 0 ≤ (x15_1 : Int) := zT zv
          have q102 : x15_1 < (l0.length : Int) := zT zv
          obtain ⟨ad102, e102, hx102_0, hx102_1⟩ := at_T54 HR0.out x15_1 p102 q102
          cases e102
          replace hx102_0 := (HB.out.cell (World.block_lt_of_cell? w _ hx102_0)).trans hx102_0
          replace hx102_1 := (HB.out.cell (World.block_lt_of_cell? w _ hx102_1)).trans hx102_1
          replace p102 := eq_true p102
          replace q102 := eq_true q102
          go_wp2_with (first | ((with_reducible refine gate_dst (N := 7) rfl ?_); refine box_event ?hg (N := 7) ?hd (cs := #[.string (⟨#[]⟩ : ByteArray), .int .i64 0]) (t := 54) ?hr ?_; (case hd => rfl); (case hg => rfl); (case hr => first | (go_simp; done) | (go_simp; rfl)); intro gb103 hg w16 hbox hb; replace HO_5 := zM (Kd.R_below (zr HO_5.out) hb); have BK103 := zM (hbox); have GW103 := zM (zh hg : w.heap.size ≤ gb103); have GE103 := zM (zh hg : w.heap.size ≤ gb103); replace HB := zM (below_step zb hb); clear hb hbox hg; have hcz17_0 : w16.cell? ⟨gb103, 0, none⟩ = some (.string (⟨#[]⟩ : ByteArray)) := (zX BK103.out 0).trans rfl; have hcz17_1 : w16.cell? ⟨gb103, 1, none⟩ = some (.int .i64 0) := (zX BK103.out 1).trans rfl; have hfz17_0 := zY BK103.out 0; have hfz17_1 := zY BK103.out 1) | ((with_reducible refine gate_callee (f := 43) rfl ?_); refine goesL_ (some 21) rfl rfl Try.func43 (by kernel_rfl) rfl #[.string ((rd_T54 l0 x15_1).f0)] rfl zl ?_; (with_reducible refine (name_Kind.calls k1 ((rd_T54 l0 x15_1).f0) t104 _ A8.out).mono ?_); rintro e w' ⟨rfl, ⟨nd, rfl⟩⟩; refine ⟨_, rfl, ?_⟩; obtain ⟨Ao18, co18, eo18⟩ := Kd.R_slice HO_5.out; subst eo18) | (go_at_call 80; (with_reducible refine (slices_Contains_string_string.calls k1 _ _ x5_1 ((rd_T54 l0 x15_1).f0) false _ ?side1 ?side2 A10.out).mono ?_); (case side1 => refine (Kd.R_reads' (e := 9) (base := w.heap.size) (ok := fun k_ => True) (n := x5_1.length) (c := co18) ?_).2.2; exact (by (with_reducible repeat (first | apply Kd.R_alloc | apply Kd.R_drewN | apply Kd.R_drew)); exact (Kd.R_mono (Kd.R_far (p := ⟨gb103, 1, none⟩) (Kd.R_far (p := ⟨gb103, 0, none⟩) (Kd.R_types HO_5.out BK103.out (by decide)) (fun _ hk => hk.2) (.string ((rd_T54 l0 x15_1).f0))) (fun _ hk => hk.2) (.int .i64 ((rd_T54 l0 x15_1).f1))) (fun _ h_ => h_.1)))); (case side2 => exact (Kd.R_reads' HO_5.out).2.1); rintro e w' ⟨rfl, ⟨nd, rfl⟩⟩) | ((with_reducible refine gate_builtin (b := .append) (xs := #[.tmp 30, .tmp 33]) rfl ?_); at_builtin; refine Kd.R_append Kd.string (w0 := w) w.heap.size rfl (.tmp 30) (.tmp 33) 26 9 (.string ⟨#[]⟩) 16 rfl Try.underlying26 info9 rfl (by decide) (by omega) (.slice Ao18 x5_1.length co18) x5_1 ((rd_T54 l0 x15_1).f0) [.string ((rd_T54 l0 x15_1).f0)] (fun _ => True) (fun _ => False) rfl (by first | (go_simp; done) | (go_simp; rfl)) ?aP (fun _ hk => hk.elim) ?aF ?aO ?aB ?aS ?aL ?_; (case aP => exact rfl); (case aB => exact zb); (case aF => exact (fun _ _ => trivial)); (case aO => exact (by (with_reducible repeat (first | apply Kd.R_alloc | apply Kd.R_drewN | apply Kd.R_drew)); exact Kd.R_mono (Kd.R_far (p := ⟨gb103, 1, none⟩) (Kd.R_far (p := ⟨gb103, 0, none⟩) (Kd.R_types HO_5.out BK103.out (by decide)) (fun _ hk => hk.2) (.string ((rd_T54 l0 x15_1).f0))) (fun _ hk => hk.2) (.int .i64 ((rd_T54 l0 x15_1).f1))) (fun _ hk => trivial))); (case aS => exact (below_size zb)); (case aL => have := LMc15.out; omega); intro v107 w19 ho hb hg hat; rw [← Ny106.out] at ho; replace BK103 := zM (blk_grown (g := gb103) (o := .cells #[.string ((rd_T54 l0 x15_1).f0), .int .i64 ((rd_T54 l0 x15_1).f1)] 54 (0, 0)) (by refine zk ?_; refine blk_put (cs := #[.string ((rd_T54 l0 x15_1).f0), .int .i64 0]) ?_ 1 _ rfl; refine zk ?_; refine blk_put (cs := #[.string (⟨#[]⟩ : ByteArray), .int .i64 0]) ?_ 0 _ rfl; refine zk ?_; exact BK103.out) hg (Kd.R_ne HO_5.out BK103.out (by decide))); replace HB := zM (hb); have HO108 := zM (ho); clear HO_5; clear ho hb hg hat))
          go_roundg k1
          case measure => have := HK1.out; omega
          case rel => exact ⟨(y106), (wrap64 (x15_1 + 1)), zy, H', ⟨by have := HK1.out; omega⟩, ⟨zr HO108.out⟩, ⟨zb⟩⟩
         ·
          rw [if_neg c15] at H
          exact absurd H (by simp)
       ·
        rw [if_neg c9] at H
        have c9b0 : (t104 == 2) = false := zE c9
        have c9b1 : (t104 != 2) = true := zF c9
        have H' := zM H
        clear H
        have p102 : 0 ≤ (x15_1 : Int) := zT zv
        have q102 : x15_1 < (l0.length : Int) := zT zv
        obtain ⟨ad102, e102, hx102_0, hx102_1⟩ := at_T54 HR0.out x15_1 p102 q102
        cases e102
        replace hx102_0 := (HB.out.cell (World.block_lt_of_cell? w _ hx102_0)).trans hx102_0
        replace hx102_1 := (HB.out.cell (World.block_lt_of_cell? w _ hx102_1)).trans hx102_1
        replace p102 := eq_true p102
        replace q102 := eq_true q102
        go_wp2_with (first | ((with_reducible refine gate_dst (N := 7) rfl ?_); refine box_event ?hg (N := 7) ?hd (cs := #[.string (⟨#[]⟩ : ByteArray), .int .i64 0]) (t := 54) ?hr ?_; (case hd => rfl); (case hg => rfl); (case hr => first | (go_simp; done) | (go_simp; rfl)); intro gb103 hg w20 hbox hb; replace HO_5 := zM (Kd.R_below (zr HO_5.out) hb); have BK103 := zM (hbox); have GW103 := zM (zh hg : w.heap.size ≤ gb103); have GE103 := zM (zh hg : w.heap.size ≤ gb103); replace HB := zM (below_step zb hb); clear hb hbox hg; have hcz21_0 : w20.cell? ⟨gb103, 0, none⟩ = some (.string (⟨#[]⟩ : ByteArray)) := (zX BK103.out 0).trans rfl; have hcz21_1 : w20.cell? ⟨gb103, 1, none⟩ = some (.int .i64 0) := (zX BK103.out 1).trans rfl; have hfz21_0 := zY BK103.out 0; have hfz21_1 := zY BK103.out 1) | ((with_reducible refine gate_callee (f := 43) rfl ?_); refine goesL_ (some 21) rfl rfl Try.func43 (by kernel_rfl) rfl #[.string ((rd_T54 l0 x15_1).f0)] rfl zl ?_; (with_reducible refine (name_Kind.calls k1 ((rd_T54 l0 x15_1).f0) t104 _ A8.out).mono ?_); rintro e w' ⟨rfl, ⟨nd, rfl⟩⟩; refine ⟨_, rfl, ?_⟩))
        go_roundg k1
        case measure => have := HK1.out; omega
        case rel => exact ⟨(x5_1), (wrap64 (x15_1 + 1)), zy, H', ⟨by have := HK1.out; omega⟩, ⟨by (with_reducible repeat (first | apply Kd.R_alloc | apply Kd.R_drewN | apply Kd.R_drew)); exact Kd.R_mono (Kd.R_far (p := ⟨gb103, 1, none⟩) (Kd.R_far (p := ⟨gb103, 0, none⟩) (Kd.R_types HO_5.out BK103.out (by decide)) (fun _ hk => hk.2) (.string ((rd_T54 l0 x15_1).f0))) (fun _ hk => hk.2) (.int .i64 ((rd_T54 l0 x15_1).f1))) (fun _ hk => trivial)⟩, ⟨zb⟩⟩
      ·
       rw [if_neg c7] at H
       exact absurd H (by simp)
     ·
      rw [if_neg c6] at H
      exact absurd H (by simp)
    ·
     rw [if_neg c5] at H
     have c5b0 : decide (x15_1 < (l0.length : Int)) = false := zR c5
     clear c5
     simp only [Option.some.injEq, Prod.mk.injEq] at H
     obtain ⟨rfl, rfl⟩ := H
     go_wp2
     go_ret2
     exact ⟨_, zw, zr HO_5.out, zb⟩
 ·
  rw [if_neg c3] at H
  have c3b0 : (t101 == 0) = false := zE c3
  have c3b1 : (t101 != 0) = true := zF c3
  simp only [Option.some.injEq, Prod.mk.injEq] at H
  obtain ⟨rfl, rfl⟩ := H
  go_enter Try.func62, Try.ntmps62
  go_wp2_with (first | ((with_reducible refine gate_callee (f := 30) rfl ?_); refine goesL_ (some 9) rfl rfl Try.func30 (by kernel_rfl) rfl #[.slice A0 l0.length c0] rfl zl ?_; (with_reducible refine (term_Check.calls k _ _ l0 t101 _ ?side1 ?side2 A2.out).mono ?_); (case side1 => exact Kd.C_below HR0.out zg); (case side2 => exact HC0.out); rintro e w22 ⟨rfl, hb⟩; refine ⟨_, rfl, ?_⟩; replace HB := zM (below_step zb hb); (try clear hb)))
  go_ret2
  exact ⟨_, zw, by first | exact Kd.R_nil _ _ _ _ _ | exact Kd.N_nil _ _ _ _ _ | exact Kd.V_nil _ _ _ _ _ | exact Kd.Q_nil _ _ _ _ _ | exact Kd.S_nil _ _ _ _ _, zb⟩


-- ==== PF31

/-! ### rewrite_ground: function 31 -/
def rewrite_ground.f (k : Nat) (l0 : List (S54)) : Option (Bool) := (term_Vars.f k l0).bind fun bt101 => (if bt101.2 = 0 then (some ((bt101.1.length : Int) == 0)) else (some false))
theorem rewrite_ground.mono : ∀ a0 k, LeO (rewrite_ground.f k a0) (rewrite_ground.f (k + 1) a0) := by
 intro a0 k
 unfold rewrite_ground.f
 repeat' first
  | (with_reducible exact term_Vars.mono _ _)
  | (with_reducible exact LeO.refl _)
  | (with_reducible exact LeO.none _)
  | (with_reducible refine LeO.ite ?_ ?_)
  | (with_reducible refine LeO.bind ?_ (fun _ => ?_))
theorem rewrite_ground.calls (k : Nat) (A0 : Option Addr) (c0 : Nat) (l0 : List (S54)) (r : Bool) (w : World) (hr0 : Kd.C k54 w A0 l0.length l0) (hc0 : l0.length ≤ c0) (h : rewrite_ground.f k l0 = some r) :
 Calls Try.prog 31 #[.slice A0 l0.length c0] w fun e w' => e = .returned (.bool r) ∧ Below w.heap.size w w' := by
 have HR0 := zM hr0
 have HC0 := zM hc0
 clear hr0 hc0
 have HB := zM (Below.refl w.heap.size w)
 have H : ((term_Vars.f k l0).bind fun bt101 => (if bt101.2 = 0 then (some ((bt101.1.length : Int) == 0)) else (some false))) = some r := h
 clear h
 replace H := zB H
 obtain ⟨⟨t101, t102⟩, A20, H⟩ := H
 try dsimp only at H
 have A2 := zM A20
 clear A20
 by_cases c3 : t102 = 0
 ·
  rw [if_pos c3] at H
  have c3b0 : (t102 == 0) = true := zG c3
  have c3b1 : (t102 != 0) = false := zH c3
  clear c3
  obtain rfl := zS H
  go_enter Try.func31, Try.ntmps31
  go_wp2_with (first | ((with_reducible refine gate_callee (f := 62) rfl ?_); refine goesL_ (some 7) rfl rfl Try.func62 (by kernel_rfl) rfl #[.slice A0 l0.length c0] rfl zl ?_; (with_reducible refine (term_Vars.calls k _ _ l0 t101 t102 _ ?side1 ?side2 A2.out).mono ?_); (case side1 => exact Kd.C_below HR0.out zg); (case side2 => exact HC0.out); rintro e w4 ⟨v103, rfl, ho0, hb⟩; refine ⟨_, rfl, ?_⟩; have HO104 := zM (Kd.R_lower ho0 (below_size zb)); replace HB := zM (below_step zb hb); (try clear hb); (try clear ho0); obtain ⟨Ao5, co5, eo5⟩ := Kd.R_slice HO104.out; subst eo5))
  go_ret
  exact ⟨zw, zb⟩
 ·
  rw [if_neg c3] at H
  have c3b0 : (t102 == 0) = false := zE c3
  have c3b1 : (t102 != 0) = true := zF c3
  obtain rfl := zS H
  go_enter Try.func31, Try.ntmps31
  go_wp2_with (first | ((with_reducible refine gate_callee (f := 62) rfl ?_); refine goesL_ (some 7) rfl rfl Try.func62 (by kernel_rfl) rfl #[.slice A0 l0.length c0] rfl zl ?_; (with_reducible refine (term_Vars.calls k _ _ l0 t101 t102 _ ?side1 ?side2 A2.out).mono ?_); (case side1 => exact Kd.C_below HR0.out zg); (case side2 => exact HC0.out); rintro e w6 ⟨v103, rfl, ho0, hb⟩; refine ⟨_, rfl, ?_⟩; have HO104 := zM (Kd.R_lower ho0 (below_size zb)); replace HB := zM (below_step zb hb); (try clear hb); (try clear ho0)))
  go_ret
  exact ⟨zw, zb⟩

end Go.Proofs.Ytdlkhpfgkghhmaa.P

-- ==== Rw4
namespace Go.Proofs.Ytdlkhpfgkghhmaa.P
open Go.RowKit Go.Proofs.YtdlkhpfgkghhmaaW.PrintWords Go.Proofs.YtdlkhpfgkghhmaaW.PrintLast Go.Proofs.YtdlkhpfgkghhmaaW.PrintMore
def Turning (xs cur : List S70) (i j : Int) : Prop := cur.length = xs.length ∧ ∀ m : Nat, m < xs.length → cur[m]? = if (m : Int) < i ∨ (m : Int) > j then xs[xs.length - 1 - m]? else xs[m]?
theorem turning_done {xs cur : List S70} {i j : Int} (h : Turning xs cur i j) (hij : i + j = (xs.length : Int) - 1) (hd : ¬ i < j) : cur = xs.reverse := by
 apply List.ext_getElem?
 intro m
 rcases Nat.lt_or_ge m xs.length with hm | hm
 ·
  rw [h.2 m hm, List.getElem?_reverse hm]
  split
  ·
   rfl
  ·
   rename_i hn
   have : m = xs.length - 1 - m := by omega
   rw [← this]
 ·
  rw [List.getElem?_eq_none (by rw [h.1]; exact hm), List.getElem?_eq_none (by simpa using hm)]
theorem turning_step {xs cur : List S70} {i j : Int} (h : Turning xs cur i j) (hij : i + j = (xs.length : Int) - 1) (h0 : 0 ≤ i) (hd : i < j) :
 Turning xs ((cur.set i.toNat (rd_T70 cur j)).set j.toNat (rd_T70 cur i)) (i + 1) (j - 1) := by
 refine ⟨by simp [h.1], fun m hm => ?_⟩
 have hl := h.1
 have hi : i.toNat < cur.length := by omega
 have hj : j.toNat < cur.length := by omega
 have hri : some (rd_T70 cur i) = xs[xs.length - 1 - j.toNat]? := by
  have := h.2 i.toNat (by omega)
  rw [if_neg (by omega)] at this
  rw [show xs.length - 1 - j.toNat = i.toNat by omega, ← this]
  simp [rd_T70, List.getD_eq_getElem?_getD, hi]
 have hrj : some (rd_T70 cur j) = xs[xs.length - 1 - i.toNat]? := by
  have := h.2 j.toNat (by omega)
  rw [if_neg (by omega)] at this
  rw [show xs.length - 1 - i.toNat = j.toNat by omega, ← this]
  simp [rd_T70, List.getD_eq_getElem?_getD, hj]
 by_cases e1 : m = j.toNat
 ·
  subst e1
  rw [List.getElem?_set_self (by simpa using hj), if_pos (by omega)]
  exact hri
 ·
  rw [List.getElem?_set_ne (Ne.symm e1)]
  by_cases e2 : m = i.toNat
  ·
   subst e2
   rw [List.getElem?_set_self hi, if_pos (by omega)]
   exact hrj
  ·
   rw [List.getElem?_set_ne (Ne.symm e2), h.2 m hm]
   by_cases c : (m : Int) < i ∨ (m : Int) > j
   ·
    rw [if_pos c, if_pos (by omega)]
   ·
    rw [if_neg c, if_neg (by omega)]
set_option maxHeartbeats 8000000 in
set_option maxRecDepth 100000 in
theorem rev_calls {B : Nat} {w : World} {A : Option Addr} {c : Nat} {xs : List S70} (hr : Kd.R k70 70 w B (fun _ => True) (.slice A xs.length c) xs) :
 Calls Try.prog 64 #[.slice A xs.length c] w fun e w' => e = .returned (.tuple #[]) ∧ Kd.R k70 70 w' B (fun _ => True) (.slice A xs.length c) xs.reverse ∧ Below B w w' ∧ KT 70 w w' := by
 have HO := Aside0.mk hr
 have HB := Aside0.mk (Below.refl B w)
 have HKT := Aside0.mk (KT.refl 70 w)
 have HM := Aside0.mk (show (xs.length : Int) ≤ 9223372036854775807 by have := (Kd.R_reads' hr).2.2.2.1; omega)
 have hw0 : wrap64 ((xs.length : Int) - 1) = (xs.length : Int) - 1 := by have := HM.out; unfold wrap64; omega
 clear hr
 go_enter Try.func64, Try.ntmps64
 go_wp2
 go_loopg [2, 3] (xs.length / 2) (fun kq v2 v3 w' => ∃ (i j : Int) (cur : List S70), v2 = .int .i64 i ∧ v3 = .int .i64 j ∧ Aside0 (0 ≤ i ∧ i + j = (xs.length : Int) - 1 ∧ (kq : Int) = (j - i + 1) / 2 ∧ i ≤ j + 1) ∧ Aside0 (Turning xs cur i j) ∧ Aside0 (Kd.R k70 70 w' B (fun _ => True) (.slice A xs.length c) cur) ∧ Aside0 (Below B w w') ∧ Aside0 (KT 70 w w'))
 case atStart => exact ⟨0, (xs.length : Int) - 1, xs, rfl, by first | rfl | rw [hw0], ⟨by omega⟩, ⟨rfl, fun m hm => by rw [if_neg (by omega)]⟩, HO, HB, HKT⟩
 case round =>
  clear HO HB HKT hw0
  obtain ⟨i, j, cur, rfl, rfl, HI, HT, HO, HB, HKT⟩ := hrel
  cases gk with
  | succ k1 =>
   have hi : 0 ≤ i ∧ i < j ∧ j < (xs.length : Int) ∧ i < (xs.length : Int) ∧ 0 ≤ j := by have := HI.out; omega
   have hcl := HT.out.1
   obtain ⟨g, cap, eg, hge, hgl, _⟩ := Kd.R_form HO.out (by omega)
   injection eg with ea el ec
   clear el
   subst ea ec
   obtain ⟨ci, hcli, hMi, hcci, hfri⟩ := Kd.R_elem HO.out z70 i hi.1 (by omega)
   obtain ⟨vi, rfl, hRi⟩ := k70_openM hMi
   obtain ⟨Ai, di, rfl⟩ := Kd.R_slice hRi
   obtain ⟨cj, hclj, hMj, hccj, hfrj⟩ := Kd.R_elem HO.out z70 j hi.2.2.2.2 (by omega)
   obtain ⟨vj, rfl, hRj⟩ := k70_openM hMj
   obtain ⟨Aj, dj, rfl⟩ := Kd.R_slice hRj
   have HEI := Aside0.mk (show Kd.M k70 wr B (fun k => True ∧ k ≠ g) (rd_T70 cur i) [.int .i64 (rd_T70 cur i).f0, .string (rd_T70 cur i).f1.f0, .int .i64 (rd_T70 cur i).f1.f1, .slice Ai (rd_T70 cur i).f2.length di] from hMi)
   have HEJ := Aside0.mk (show Kd.M k70 wr B (fun k => True ∧ k ≠ g) (rd_T70 cur j) [.int .i64 (rd_T70 cur j).f0, .string (rd_T70 cur j).f1.f0, .int .i64 (rd_T70 cur j).f1.f1, .slice Aj (rd_T70 cur j).f2.length dj] from hMj)
   have i0 : wr.cell? ⟨g, i.toNat * 4, none⟩ = some (.int .i64 (rd_T70 cur i).f0) := hcci 0 _ rfl
   have i1 : wr.cell? ⟨g, i.toNat * 4 + 1, none⟩ = some (.string (rd_T70 cur i).f1.f0) := hcci 1 _ rfl
   have i2 : wr.cell? ⟨g, i.toNat * 4 + 2, none⟩ = some (.int .i64 (rd_T70 cur i).f1.f1) := hcci 2 _ rfl
   have i3 : wr.cell? ⟨g, i.toNat * 4 + 3, none⟩ = some (.slice Ai (rd_T70 cur i).f2.length di) := hcci 3 _ rfl
   have j0 : wr.cell? ⟨g, j.toNat * 4, none⟩ = some (.int .i64 (rd_T70 cur j).f0) := hccj 0 _ rfl
   have j1 : wr.cell? ⟨g, j.toNat * 4 + 1, none⟩ = some (.string (rd_T70 cur j).f1.f0) := hccj 1 _ rfl
   have j2 : wr.cell? ⟨g, j.toNat * 4 + 2, none⟩ = some (.int .i64 (rd_T70 cur j).f1.f1) := hccj 2 _ rfl
   have j3 : wr.cell? ⟨g, j.toNat * 4 + 3, none⟩ = some (.slice Aj (rd_T70 cur j).f2.length dj) := hccj 3 _ rfl
   have HCI := Aside0.mk (show ∀ (q : Nat) (u : Value), [Value.int .i64 (rd_T70 cur i).f0, .string (rd_T70 cur i).f1.f0, .int .i64 (rd_T70 cur i).f1.f1, .slice Ai (rd_T70 cur i).f2.length di][q]? = some u → wr.cell? ⟨g, i.toNat * 4 + q, none⟩ = some u from hcci)
   have HFI := Aside0.mk hfri
   have HFJ := Aside0.mk hfrj
   have HX := Aside0.mk hi
   have HGB := Aside0.mk (show B ≤ g ∧ g < wr.heap.size from ⟨hge, hgl⟩)
   have HLEN := Aside0.mk hcl
   have hb0 : decide (i < j) = true := decide_eq_true hi.2.1
   have t0 := eq_true hi.1
   have t1 := eq_true hi.2.2.1
   have t2 := eq_true hi.2.2.2.1
   have t3 := eq_true hi.2.2.2.2
   have f0 : ∀ b, wr.frozen? ⟨g, b, none⟩ = false := fun b => by
    obtain ⟨cells, hc⟩ := Kd.R_typed HO.out g (by simp [Value.ownBlock])
    exact blk_frozen hc b
   clear hcci hccj hfri hfrj hMi hMj hRi hRj hcli hclj hcl hi
   obtain ⟨ei, hei⟩ : ∃ ei, ei = rd_T70 cur i := ⟨_, rfl⟩
   obtain ⟨ej, hej⟩ : ∃ ej, ej = rd_T70 cur j := ⟨_, rfl⟩
   rw [← hei] at i0 i1 i2 i3 HEI HCI
   rw [← hej] at j0 j1 j2 j3 HEJ
   have HEI2 := Aside0.mk hei.symm
   have HEJ2 := Aside0.mk hej.symm
   clear hei hej
   have hn1 : ¬ (i.toNat = j.toNat) := by have := HX.out; omega
   have hn2 : ¬ (j.toNat = i.toNat) := by have := HX.out; omega
   go_wp2
   go_region
   have s1 := Kd.R_seg (okp := fun k => True ∧ k ≠ g) HO.out i HX.out.1 HX.out.2.2.2.1 (seg := [.int .i64 ej.f0, .string ej.f1.f0, .int .i64 ej.f1.f1, .slice Aj ej.f2.length dj]) (j := 0) rfl HCI.out (Nat.le_refl 4) (x' := ej) HEJ.out (fun _ hk => hk)
   obtain ⟨c2, hcl2, _, hcc2, _⟩ := Kd.R_elem s1.1 z70 j HX.out.2.2.2.2 HX.out.2.2.1
   have s2 := Kd.R_seg (okp := fun k => True ∧ k ≠ g) s1.1 j HX.out.2.2.2.2 HX.out.2.2.1 (seg := [.int .i64 ei.f0, .string ei.f1.f0, .int .i64 ei.f1.f1, .slice Ai ei.f2.length di]) (j := 0) hcl2 hcc2 (Nat.le_refl 4) (x' := ei) (by
    have e_ : c2.drop (0 + 4) = [] := List.drop_eq_nil_of_le (by rw [hcl2]; exact Nat.le_refl 4)
    rw [show (0 : Nat) + [Value.int .i64 ei.f0, .string ei.f1.f0, .int .i64 ei.f1.f1, .slice Ai ei.f2.length di].length = 0 + 4 from rfl, e_]
    rw [List.append_nil]
    exact Kd.M_grown HEI.out s1.2 (fun k hk he => hk.2 (by injection he))) (fun _ hk => hk)
   have HO2 := Aside0.mk (Kd.R_drew s2.1)
   have HGR := Aside0.mk (World.grownBy.trans s1.2 s2.2)
   have HK2 := Aside0.mk (KT.drew (KT.grown HKT.out HO.out (by simpa [Value.ownBlock] using HGR.out)))
   have HB2 := Aside0.mk (below_drew1 (HB.out.grown HGR.out (Nat.le_trans HGB.out.1 (Nat.le_of_lt HGB.out.2)) (fun k hk => by injection hk with hk; rw [← hk]; exact HGB.out.1)))
   clear s1 s2 hcl2 hcc2
   go_wp2
   go_roundg k1
   case measure => have := HI.out; omega
   case rel => exact ⟨i + 1, j - 1, _, by have e_ : wrap64 (i + 1) = i + 1 := (by have := HX.out; have := HM.out; unfold wrap64; omega); first | rfl | rw [e_] | (simp [e_]; done), by have e_ : wrap64 (j - 1) = j - 1 := (by have := HX.out; have := HM.out; unfold wrap64; omega); first | rfl | rw [e_] | (simp [e_]; done), ⟨by have := HI.out; omega⟩, ⟨turning_step HT.out HI.out.2.1 HX.out.1 HX.out.2.1⟩, by rw [HEI2.out, HEJ2.out]; exact HO2, HB2, HK2⟩
  | zero =>
   have hb0 : decide (i < j) = false := decide_eq_false (by have := HI.out; omega)
   have hcx := turning_done HT.out HI.out.2.1 (by have := HI.out; omega)
   subst hcx
   go_wp2
   (first | refine bodyPost_ret (results_none rfl _ _ _) rfl ?_ | refine bodyPost_end (results_none rfl _ _ _) rfl ?_)
   exact ⟨rfl, HO.out, HB.out, HKT.out⟩

-- ==== Rw5
/-! ### a state's block is written -/
theorem set4_blk {W : World} {b : Nat} {a1 a2 a3 a4 : Value} (h : W.heap[b]? = some (.cells #[a1, a2, a3, a4] 28 (0, 0))) (b1 b2 b3 b4 : Value) :
 ((((W.setCell ⟨b, 0, none⟩ b1).setCell ⟨b, 1, none⟩ b2).setCell ⟨b, 2, none⟩ b3).setCell ⟨b, 3, none⟩ b4).heap[b]? = some (.cells #[b1, b2, b3, b4] 28 (0, 0)) := by
 refine blk_put (cs := #[b1, b2, b3, a4]) ?_ 3 _ rfl
 refine blk_put (cs := #[b1, b2, a3, a4]) ?_ 2 _ rfl
 refine blk_put (cs := #[b1, a2, a3, a4]) ?_ 1 _ rfl
 exact blk_put (cs := #[a1, a2, a3, a4]) h 0 _ rfl
theorem set4_R {α : Type} {d : Kd α} {e B b : Nat} {ok : Nat → Prop} {W : World} {v : Value} {xs : List α} {cs : Array Value} (h : d.R e W B ok v xs) (hb : W.heap[b]? = some (.cells cs 28 (0, 0))) (ht : ∀ q, q ∈ e :: d.E → q ≠ 28) (b1 b2 b3 b4 : Value) :
 d.R e ((((W.setCell ⟨b, 0, none⟩ b1).setCell ⟨b, 1, none⟩ b2).setCell ⟨b, 2, none⟩ b3).setCell ⟨b, 3, none⟩ b4) B ok v xs :=
 Kd.R_mono (Kd.R_far (p := ⟨b, 3, none⟩) (Kd.R_far (p := ⟨b, 2, none⟩) (Kd.R_far (p := ⟨b, 1, none⟩) (Kd.R_far (p := ⟨b, 0, none⟩) (Kd.R_types h hb ht) (fun _ hk => hk.2) _) (fun _ hk => hk.2) _) (fun _ hk => hk.2) _) (fun _ hk => hk.2) _) (fun _ hk => hk.1)
theorem set4_below {B b : Nat} {w W : World} (h : Below B w W) (hb : B ≤ b) (b1 b2 b3 b4 : Value) : Below B w ((((W.setCell ⟨b, 0, none⟩ b1).setCell ⟨b, 1, none⟩ b2).setCell ⟨b, 2, none⟩ b3).setCell ⟨b, 3, none⟩ b4) :=
 (((h.setCell (p := ⟨b, 0, none⟩) hb _).setCell (p := ⟨b, 1, none⟩) hb _).setCell (p := ⟨b, 2, none⟩) hb _).setCell (p := ⟨b, 3, none⟩) hb _
def StEnd (B : Nat) (w' : World) (v0 v1 v3 : Value) (ops : List S70) (vals : List (List S54)) (hd : List ByteArray) : Prop :=
 Kd.N k70 70 w' B (fun k_ => (B ≤ k_) ∧ some k_ ≠ (v1 : Value).ownBlock ∧ some k_ ≠ (v3 : Value).ownBlock) v0 ops ∧ Kd.N (Kd.slice 54 k54) 23 w' B (fun k_ => (B ≤ k_) ∧ some k_ ≠ (v0 : Value).ownBlock ∧ some k_ ≠ (v3 : Value).ownBlock) v1 vals ∧ Kd.R Kd.string 9 w' B (fun k_ => (B ≤ k_)) v3 hd
theorem stEnd_of {B : Nat} {w' : World} {v0 v1 v3 : Value} {ops : List S70} {vals : List (List S54)} {hd : List ByteArray} (h0 : Kd.R k70 70 w' B (fun _ => True) v0 ops) (h1 : Kd.R (Kd.slice 54 k54) 23 w' B (fun _ => True) v1 vals) (h3 : Kd.R Kd.string 9 w' B (fun _ => True) v3 hd) : StEnd B w' v0 v1 v3 ops vals hd :=
 ⟨Kd.N_mono (Kd.R_N (Kd.R_bound (Kd.R_apartR (Kd.R_apartR h0 h1 (by decide)) h3 (by decide)))) (fun k hk => ⟨hk.2.1, hk.1.1.2, hk.1.2⟩),
  Kd.N_mono (Kd.R_N (Kd.R_bound (Kd.R_apartR (Kd.R_apartR h1 h0 (by decide)) h3 (by decide)))) (fun k hk => ⟨hk.2.1, hk.1.1.2, hk.1.2⟩),
  Kd.R_mono (Kd.R_bound h3) (fun k hk => hk.2.1)⟩
theorem stEnd_nil (B : Nat) (w' : World) : StEnd B w' (.slice none 0 0) (.slice none 0 0) (.slice none 0 0) [] [] [] := stEnd_of (Kd.R_nil _ _ _ _ _) (Kd.R_nil _ _ _ _ _) (Kd.R_nil _ _ _ _ _)

set_option maxHeartbeats 4000000 in
set_option maxRecDepth 100000 in
theorem ops_calls0 {w : World} {A : Option Addr} {c k : Nat} {t : List S54} {H : ByteArray → List S54} {out : List S70} {i : Int} (ht : Kd.C k54 w A t.length t) (hc : t.length ≤ c)
 (HC : ∀ (s : ByteArray) (W : World), Below w.heap.size w W → Calls Try.prog 33 #[.string s] W fun e W' => ∃ v0 : Value, e = .returned v0 ∧ Kd.R k54 54 W' W.heap.size (fun _ => True) v0 (H s) ∧ Below W.heap.size W W') (h : todoL H t k 0 [] = some (out, i)) :
 Calls Try.prog 32 #[.slice A t.length c, .func (.func 33) #[] #[]] w fun e w' => ∃ v0 : Value, e = .returned v0 ∧ Kd.R k70 70 w' w.heap.size (fun _ => True) v0 out.reverse ∧ Below w.heap.size w w' := by
 have T1 := todo_calls0 ht hc HC k 0 (.slice none 0 0) [] (out, i) w (Below.refl _ _) (Kd.R_nil _ _ _ _ _) h
 clear ht hc HC h
 go_enter Try.func32, Try.ntmps32
 go_wp2_with (first | (go_at_call 63; (with_reducible refine T1.mono ?_); rintro e w1 ⟨v1, rfl, hr1, hb1, _⟩; obtain ⟨A1, c1, rfl⟩ := Kd.R_slice hr1; have HR1 := Aside0.mk hr1; have HB1 := Aside0.mk hb1; have V1 := rev_calls hr1; clear hr1 hb1) | (go_at_call 64; (with_reducible refine V1.mono ?_); rintro e w2 ⟨rfl, hr2, hb2, _⟩; have HR2 := Aside0.mk hr2; have HB2 := Aside0.mk (below_trB HB1.out hb2); clear hr2 hb2))
 go_ret
 exact ⟨_, rfl, HR2.out, HB2.out⟩

set_option maxHeartbeats 4000000 in
set_option maxRecDepth 100000 in
theorem ops_calls1 {w : World} {A : Option Addr} {c k : Nat} {t : List S54} {H : ByteArray → List S54} {out : List S70} {i : Int} {pb : Nat} (ht : Kd.C k54 w A t.length t) (hc : t.length ≤ c)
 (HC : ∀ (s : ByteArray) (W : World), Below w.heap.size w W → Calls Try.prog 75 #[.string s, .pointer (some ⟨pb, 0, none⟩)] W fun e W' => ∃ v0 : Value, e = .returned v0 ∧ Kd.R k54 54 W' W.heap.size (fun _ => True) v0 (H s) ∧ Below W.heap.size W W') (h : todoL H t k 0 [] = some (out, i)) :
 Calls Try.prog 32 #[.slice A t.length c, .func (.func 75) #[] #[.pointer (some ⟨pb, 0, none⟩)]] w fun e w' => ∃ v0 : Value, e = .returned v0 ∧ Kd.R k70 70 w' w.heap.size (fun _ => True) v0 out.reverse ∧ Below w.heap.size w w' := by
 have T1 := todo_calls1 ht hc HC k 0 (.slice none 0 0) [] (out, i) w (Below.refl _ _) (Kd.R_nil _ _ _ _ _) h
 clear ht hc HC h
 go_enter Try.func32, Try.ntmps32
 go_wp2_with (first | (go_at_call 63; (with_reducible refine T1.mono ?_); rintro e w1 ⟨v1, rfl, hr1, hb1, _⟩; obtain ⟨A1, c1, rfl⟩ := Kd.R_slice hr1; have HR1 := Aside0.mk hr1; have HB1 := Aside0.mk hb1; have V1 := rev_calls hr1; clear hr1 hb1) | (go_at_call 64; (with_reducible refine V1.mono ?_); rintro e w2 ⟨rfl, hr2, hb2, _⟩; have HR2 := Aside0.mk hr2; have HB2 := Aside0.mk (below_trB HB1.out hb2); clear hr2 hb2))
 go_ret
 exact ⟨_, rfl, HR2.out, HB2.out⟩

set_option maxHeartbeats 1000000 in
theorem rwst1_calls (s : ByteArray) (W : World) : Calls Try.prog 33 #[.string s] W fun e W' => ∃ v0 : Value, e = .returned v0 ∧ Kd.R k54 54 W' W.heap.size (fun _ => True) v0 ((fun _ => []) s) ∧ Below W.heap.size W W' := by
 go_enter Try.func33, Try.ntmps33
 go_wp2
 go_ret
 exact ⟨_, rfl, Kd.R_nil _ _ _ _ _, Below.refl _ _⟩
def startF (k : Nat) (t : List S54) : Option (List S70 × List (List S54) × Int × List ByteArray × Int) :=
 (term_Check.f k t).bind fun e => if e = 0 then ((rewrite_ground.f k t).bind fun g => if g = true then ((todoL (fun _ => []) t k 0 []).bind fun r => some (r.1.reverse, [], 0, [], 0)) else some ([], [], 0, [], 7)) else some ([], [], 0, [], e)
set_option maxHeartbeats 4000000 in
set_option maxRecDepth 100000 in
theorem start_calls (k : Nat) (A : Option Addr) (c : Nat) (t : List S54) (r1 : List S70) (r2 : List (List S54)) (r3 : Int) (r4 : List ByteArray) (r5 : Int) (w : World) (ht : Kd.C k54 w A t.length t) (hc : t.length ≤ c) (h : startF k t = some (r1, r2, r3, r4, r5)) :
 Calls Try.prog 12 #[.slice A t.length c] w fun e w' => ∃ v0 v1 v3 : Value, e = .returned (.tuple #[.agg #[v0, v1, .int .i64 r3, v3], .int .i64 r5]) ∧ StEnd w.heap.size w' v0 v1 v3 r1 r2 r4 ∧ Below w.heap.size w w' := by
 unfold startF at h
 obtain ⟨e, he, h⟩ := Option.bind_eq_some_iff.mp h
 have T1 := fun W (hW : Below w.heap.size w W) => term_Check.calls k A c t e W (Kd.C_below ht hW) hc he
 have HB := Aside0.mk (Below.refl w.heap.size w)
 clear he
 by_cases c0 : e = 0
 case neg =>
  rw [if_neg c0] at h
  simp only [Option.some.injEq, Prod.mk.injEq] at h
  obtain ⟨rfl, rfl, rfl, rfl, rfl⟩ := h
  have d0 : (e != 0) = true := bne_iff_ne.mpr c0
  clear c0 ht
  go_enter Try.func12, Try.ntmps12
  go_wp2_with (first | (go_at_call 30; (with_reducible refine (T1 _ ?side1).mono ?_); (case side1 => exact (by repeat (first | exact HB.out | apply below_alloc | apply pw_below_drewN | apply below_drew1))); rintro e w1 ⟨rfl, hb⟩; have hz := (hb.block w.heap.size (by simp)).trans (heap_alloc_new w _); have q0 := (blk_cell hz 0).trans rfl; have q1 := (blk_cell hz 1).trans rfl; have q2 := (blk_cell hz 2).trans rfl; have q3 := (blk_cell hz 3).trans rfl; have f0 := blk_frozen hz 0; have f1 := blk_frozen hz 1; have f2 := blk_frozen hz 2; have f3 := blk_frozen hz 3; have HK := Aside0.mk hz; have n0_ := Aside0.mk (below_step (below_alloc HB.out _) hb); clear HB hb hz; have HB := n0_; clear n0_))
  refine bodyPost_ret (results_ct rfl _ _ w.heap.size 28 _ (0, 0) _ rfl (set4_blk HK.out _ _ _ _) Try.underlying28 rfl (by kernel_rfl)) rfl ?_
  exact ⟨_, _, _, rfl, stEnd_nil _ _, set4_below HB.out (Nat.le_refl _) _ _ _ _⟩
 case pos =>
  subst c0
  rw [if_pos rfl] at h
  obtain ⟨g, hg, h⟩ := Option.bind_eq_some_iff.mp h
  have G1 := fun W (hW : Below w.heap.size w W) => rewrite_ground.calls k A c t g W (Kd.C_below ht hW) hc hg
  clear hg
  by_cases c1 : g = true
  case neg =>
   rw [if_neg c1] at h
   simp only [Option.some.injEq, Prod.mk.injEq] at h
   obtain ⟨rfl, rfl, rfl, rfl, rfl⟩ := h
   obtain rfl : g = false := by simpa using c1
   clear c1 ht
   go_enter Try.func12, Try.ntmps12
   go_wp2_with (first | (go_at_call 30; (with_reducible refine (T1 _ ?side1).mono ?_); (case side1 => exact (by repeat (first | exact HB.out | apply below_alloc | apply pw_below_drewN | apply below_drew1))); rintro e w1 ⟨rfl, hb⟩; have hz := (hb.block w.heap.size (by simp)).trans (heap_alloc_new w _); have q0 := (blk_cell hz 0).trans rfl; have q1 := (blk_cell hz 1).trans rfl; have q2 := (blk_cell hz 2).trans rfl; have q3 := (blk_cell hz 3).trans rfl; have f0 := blk_frozen hz 0; have f1 := blk_frozen hz 1; have f2 := blk_frozen hz 2; have f3 := blk_frozen hz 3; have HK := Aside0.mk hz; have n0_ := Aside0.mk (below_step (below_alloc HB.out _) hb); clear HB hb hz; have HB := n0_; clear n0_) | (go_at_call 31; (with_reducible refine (G1 _ ?side2).mono ?_); (case side2 => exact (by repeat (first | exact HB.out | apply below_alloc | apply pw_below_drewN | apply below_drew1))); rintro e w2 ⟨rfl, hb⟩; have hz := (hb.block w.heap.size (blk_lt HK.out)).trans HK.out; clear HK q0 q1 q2 q3 f0 f1 f2 f3; have q0 := (blk_cell hz 0).trans rfl; have q1 := (blk_cell hz 1).trans rfl; have q2 := (blk_cell hz 2).trans rfl; have q3 := (blk_cell hz 3).trans rfl; have f0 := blk_frozen hz 0; have f1 := blk_frozen hz 1; have f2 := blk_frozen hz 2; have f3 := blk_frozen hz 3; have HK := Aside0.mk hz; have n0_ := Aside0.mk (below_step HB.out hb); clear HB hb hz; have HB := n0_; clear n0_))
   refine bodyPost_ret (results_ct rfl _ _ w.heap.size 28 _ (0, 0) _ rfl (set4_blk HK.out _ _ _ _) Try.underlying28 rfl (by kernel_rfl)) rfl ?_
   exact ⟨_, _, _, rfl, stEnd_nil _ _, set4_below HB.out (Nat.le_refl _) _ _ _ _⟩
  case pos =>
   subst c1
   rw [if_pos rfl] at h
   obtain ⟨⟨out, i⟩, ho, h⟩ := Option.bind_eq_some_iff.mp h
   simp only [Option.some.injEq, Prod.mk.injEq] at h
   obtain ⟨rfl, rfl, rfl, rfl, rfl⟩ := h
   have O1 := fun W (hW : Below w.heap.size w W) => ops_calls0 (w := W) (c := c) (Kd.C_below ht hW) hc (fun s W2 _ => rwst1_calls s W2) ho
   clear ho ht
   go_enter Try.func12, Try.ntmps12
   go_wp2_with (first | (go_at_call 30; (with_reducible refine (T1 _ ?side1).mono ?_); (case side1 => exact (by repeat (first | exact HB.out | apply below_alloc | apply pw_below_drewN | apply below_drew1))); rintro e w1 ⟨rfl, hb⟩; have hz := (hb.block w.heap.size (by simp)).trans (heap_alloc_new w _); have q0 := (blk_cell hz 0).trans rfl; have q1 := (blk_cell hz 1).trans rfl; have q2 := (blk_cell hz 2).trans rfl; have q3 := (blk_cell hz 3).trans rfl; have f0 := blk_frozen hz 0; have f1 := blk_frozen hz 1; have f2 := blk_frozen hz 2; have f3 := blk_frozen hz 3; have HK := Aside0.mk hz; have n0_ := Aside0.mk (below_step (below_alloc HB.out _) hb); clear HB hb hz; have HB := n0_; clear n0_) | (go_at_call 31; (with_reducible refine (G1 _ ?side2).mono ?_); (case side2 => exact (by repeat (first | exact HB.out | apply below_alloc | apply pw_below_drewN | apply below_drew1))); rintro e w2 ⟨rfl, hb⟩; have hz := (hb.block w.heap.size (blk_lt HK.out)).trans HK.out; clear HK q0 q1 q2 q3 f0 f1 f2 f3; have q0 := (blk_cell hz 0).trans rfl; have q1 := (blk_cell hz 1).trans rfl; have q2 := (blk_cell hz 2).trans rfl; have q3 := (blk_cell hz 3).trans rfl; have f0 := blk_frozen hz 0; have f1 := blk_frozen hz 1; have f2 := blk_frozen hz 2; have f3 := blk_frozen hz 3; have HK := Aside0.mk hz; have n0_ := Aside0.mk (below_step HB.out hb); clear HB hb hz; have HB := n0_; clear n0_) | (go_at_call 32; (with_reducible refine (O1 _ ?side3).mono ?_); (case side3 => exact (by repeat (first | exact HB.out | apply below_alloc | apply pw_below_drewN | apply below_drew1))); rintro e w3 ⟨v3, rfl, hr, hb⟩; obtain ⟨A3, c3, rfl⟩ := Kd.R_slice hr; have h3 := Kd.R_lower hr HB.out.size; rw [List.length_reverse] at h3; have HR3 := Aside0.mk h3; clear h3; have hz := (hb.block w.heap.size (blk_lt HK.out)).trans HK.out; clear HK q0 q1 q2 q3 f0 f1 f2 f3; have q0 := (blk_cell hz 0).trans rfl; have q1 := (blk_cell hz 1).trans rfl; have q2 := (blk_cell hz 2).trans rfl; have q3 := (blk_cell hz 3).trans rfl; have f0 := blk_frozen hz 0; have f1 := blk_frozen hz 1; have f2 := blk_frozen hz 2; have f3 := blk_frozen hz 3; have HK := Aside0.mk hz; have n0_ := Aside0.mk (below_step HB.out hb); clear HB hb hz hr; have HB := n0_; clear n0_))
   refine bodyPost_ret (results_ct rfl _ _ w.heap.size 28 _ (0, 0) _ rfl (set4_blk HK.out _ _ _ _) Try.underlying28 rfl (by kernel_rfl)) rfl ?_
   exact ⟨_, _, _, rfl, stEnd_of (set4_R HR3.out HK.out (by decide) _ _ _ _) (Kd.R_nil _ _ _ _ _) (Kd.R_nil _ _ _ _ _), set4_below HB.out (Nat.le_refl _) _ _ _ _⟩
end Go.Proofs.Ytdlkhpfgkghhmaa.P

-- ==== PF70
namespace Go.Proofs.Ytdlkhpfgkghhmaa.P
open Go.RowKit Go.Proofs.YtdlkhpfgkghhmaaW.PrintWords Go.Proofs.YtdlkhpfgkghhmaaW.PrintLast Go.Proofs.YtdlkhpfgkghhmaaW.PrintMore
attribute [local go_sem] max2_int min2_int max_two min_two max_three min_three max_four min_four

/-! ### slices_Clone_string_string: function 70 -/
def slices_Clone_string_string.f (l0 : List (ByteArray)) : Option ((List (ByteArray))) := if ([] : List (ByteArray)).length + l0.length < 8796093022208 then some (([] : List (ByteArray)) ++ l0) else none
theorem slices_Clone_string_string.calls (A0 : Option Addr) (c0 : Nat) (l0 : List (ByteArray)) (r : List (ByteArray)) (w : World) (hr0 : Kd.C Kd.string w A0 l0.length l0) (hc0 : l0.length ≤ c0) (h : slices_Clone_string_string.f l0 = some r) :
 Calls Try.prog 70 #[.slice A0 l0.length c0] w fun e w' => ∃ v0_ : Value, e = .returned (v0_) ∧ Kd.R Kd.string 9 w' w.heap.size (fun _ => True) v0_ r ∧ Below w.heap.size w w' := by
 have HR0 := zM hr0
 have HC0 := zM hc0
 have HB := zM (Below.refl w.heap.size w)
 unfold slices_Clone_string_string.f at h
 by_cases c2 : ([] : List (ByteArray)).length + l0.length < 8796093022208
 ·
  rw [if_pos c2] at h
  have LMc2 := zM c2
  obtain rfl := zS h
  clear c2 h hc0
  have hnil := fun (W : World) (n c : Nat) => Lib.run_eql_slice_nil (P := Try.prog) W 26 9 A0 n c 0 0 Try.underlying26
  cases A0 with
  | none =>
   have hnil' : ∀ (W : World) (n c : Nat), Sem.run Try.prog (binOp BinOp.eql 26 (.slice none n c) (.slice none 0 0)) W = Result.ok (Value.bool true) W := hnil
   clear hnil
   have h0 : l0 = [] := by
    rcases Nat.eq_zero_or_pos l0.length with h0 | h0
    ·
     exact List.eq_nil_of_length_eq_zero h0
    ·
     obtain ⟨ad, h1, _⟩ := hr0.2.2 h0
     cases h1
   subst h0
   clear hr0 HR0 HC0 LMc2
   go_enter Try.func70, Try.ntmps70
   go_wp2
   go_ret
   exact ⟨_, rfl, Kd.R_nil _ _ _ _ _, Below.refl _ _⟩
  | some ad =>
   have hnil' : ∀ (W : World) (n c : Nat), Sem.run Try.prog (binOp BinOp.eql 26 (.slice (some ad) n c) (.slice none 0 0)) W = Result.ok (Value.bool false) W := hnil
   clear hnil
   clear hr0
   obtain ⟨y129, hy129⟩ : ∃ y_ : List (ByteArray), y_ = (([] : List (ByteArray)) ++ l0) := ⟨_, rfl⟩
   have Ny129 := zM hy129
   rw [← hy129]
   clear hy129
   have HE : ∀ W : World, Kd.R Kd.string 9 (W.alloc (.cells #[] 9)) W.heap.size (fun _ => True) (.slice (some ⟨W.heap.size, 0, none⟩) 0 0) [] := fun W =>
    ⟨fun _ _ => trivial, [], World.ownsRow_lit (base := W.heap.size) (e := 9) (size := 1) W #[] 0 (Nat.le_refl _) (Nat.zero_le _) rfl, Reps.none _ _⟩
   have HE' := zM HE
   clear HE
   go_enter Try.func70, Try.ntmps70
   go_wp2_with (first | ((with_reducible refine gate_builtin (b := .append) (xs := #[.tmp 5, .tmp 6]) rfl ?_); at_builtin; refine Kd.R_append_rows Kd.string (w0 := w) w.heap.size rfl (.tmp 5) (.tmp 6) 26 9 (.string ⟨#[]⟩) 16 rfl Try.underlying26 info9 rfl (by decide) (by omega) (.slice (some ⟨w.heap.size, 0, none⟩) 0 0) ([] : List (ByteArray)) l0 _ _ _ (fun _ => True) (fun _ => False) rfl rfl ?aO ?aR (fun _ _ h => h) (fun _ h => h.elim) ?aF ?aB ?aS ?aL ?_; (case aR => exact Kd.C_alloc HR0.out _); (case aB => exact zb); (case aF => exact (fun _ _ => trivial)); (case aO => exact HE'.out w); (case aS => exact (below_size zb)); (case aL => have := LMc2.out; omega); intro v130 w3 ho hb hg hat; rw [← Ny129.out] at ho; replace HB := zM (hb); have HO131 := zM (ho); clear ho hb hg hat))
   go_ret
   exact ⟨_, zw, zr HO131.out, zb⟩
 ·
  rw [if_neg c2] at h
  cases h


end Go.Proofs.Ytdlkhpfgkghhmaa.P

-- ==== Rw6
namespace Go.Proofs.Ytdlkhpfgkghhmaa.P
open Go.RowKit Go.Proofs.YtdlkhpfgkghhmaaW.PrintWords Go.Proofs.YtdlkhpfgkghhmaaW.PrintLast Go.Proofs.YtdlkhpfgkghhmaaW.PrintMore
theorem cloneT_same (m : List S54) (h : m.length < 5864062014805) : api_Cell_71.f m = some m := by
 unfold api_Cell_71.f
 rw [if_pos (by simpa using h)]
 rfl
theorem cloneS_same (m : List ByteArray) (h : m.length < 8796093022208) : slices_Clone_string_string.f m = some m := by
 unfold slices_Clone_string_string.f
 rw [if_pos (by simpa using h)]
 rfl
theorem cloneT_calls {A : Option Addr} {c : Nat} {t : List S54} {w : World} (hr : Kd.C k54 w A t.length t) (hc : t.length ≤ c) (h : t.length < 5864062014805) :
 Calls Try.prog 71 #[.slice A t.length c] w fun e w' => ∃ A' c', e = .returned (.slice A' t.length c') ∧ Kd.R k54 54 w' w.heap.size (fun _ => True) (.slice A' t.length c') t ∧ Below w.heap.size w w' := by
 refine (api_Cell_71.calls A c t t w hr hc (cloneT_same t h)).mono ?_
 rintro e w' ⟨v, rfl, hR, hb⟩
 obtain ⟨A', c', rfl⟩ := Kd.R_slice hR
 exact ⟨A', c', rfl, hR, hb⟩
end Go.Proofs.Ytdlkhpfgkghhmaa.P

-- ==== Rw7
namespace Go.Proofs.Ytdlkhpfgkghhmaa.P
open Go.RowKit Go.Shelf Go.Proofs.YtdlkhpfgkghhmaaW.PrintWords Go.Proofs.YtdlkhpfgkghhmaaW.PrintLast Go.Proofs.YtdlkhpfgkghhmaaW.PrintMore
/-! ### slices.Insert of one string, by the shelf's contracts -/
def insRen : Go.Shelf.Ren := ⟨fun | 17 => 108 | 22 => 91 | 29 => 100 | 30 => 101 | 36 => 107 | n => n, fun | 24 => 26 | n => n, fun | n => n⟩
theorem insLays : Go.Proofs.Lays2.n22 Try.prog insRen := {
 mixed := by kernel_rfl
 f17 := Try.func108.trans (congrArg some (by kernel_rfl))
 f22 := Try.func91.trans (congrArg some (by kernel_rfl))
 f29 := Try.func100.trans (congrArg some (by kernel_rfl))
 f30 := Try.func101.trans (congrArg some (by kernel_rfl))
 f36 := Try.func107.trans (congrArg some (by kernel_rfl))
 t0 := Try.underlying0
 a0 := Try.isAgg0
 z0 := Try.sizeOf0
 v0 := Try.zeroValue0
 t3 := Try.underlying3
 a3 := Try.isAgg3
 z3 := Try.sizeOf3
 v3 := Try.zeroValue3
 t4 := Try.underlying4
 a4 := Try.isAgg4
 z4 := Try.sizeOf4
 v4 := Try.zeroValue4
 t9 := Try.underlying9
 a9 := Try.isAgg9
 z9 := Try.sizeOf9
 v9 := Try.zeroValue9
 t24 := Try.underlying26
 a24 := Try.isAgg26
 z24 := Try.sizeOf26
 v24 := Try.zeroValue26
 i9 := by kernel_rfl }
def setL (cs : Array Value) : Nat → List Value → Array Value
 | _, [] => cs
 | o, v :: r => setL (cs.setIfInBounds o v) (o + 1) r
theorem setL_size : ∀ (vs : List Value) (cs : Array Value) (o : Nat), (setL cs o vs).size = cs.size
 | [], _, _ => rfl
 | v :: r, cs, o => by rw [setL, setL_size r]; simp
theorem setL_get : ∀ (vs : List Value) (cs : Array Value) (o j : Nat), o + vs.length ≤ cs.size → (setL cs o vs)[j]? = if o ≤ j ∧ j < o + vs.length then vs[j - o]? else cs[j]?
 | [], cs, o, j, h => by rw [if_neg (by simp only [List.length_nil]; omega)]; rfl
 | v :: r, cs, o, j, h => by
  simp only [List.length_cons] at h ⊢
  rw [setL, setL_get r _ _ _ (by simp; omega)]
  by_cases h1 : o + 1 ≤ j ∧ j < o + 1 + r.length
  ·
   rw [if_pos h1, if_pos (by omega), show j - o = (j - (o + 1)) + 1 by omega, List.getElem?_cons_succ]
  ·
   rw [if_neg h1]
   by_cases h2 : j = o
   ·
    subst h2
    rw [if_pos (by omega), Nat.sub_self, Array.getElem?_setIfInBounds_self_of_lt (by omega)]
    rfl
   ·
    rw [if_neg (by omega), Array.getElem?_setIfInBounds_ne (Ne.symm h2)]
theorem setCells_blk {t g : Nat} : ∀ (vs : List Value) (W : World) (cs : Array Value) (o : Nat), W.heap[g]? = some (.cells cs t (0, 0)) → (W.setCells g o vs).heap[g]? = some (.cells (setL cs o vs) t (0, 0))
 | [], _, _, _, h => h
 | v :: r, W, cs, o, h => setCells_blk r _ _ _ (blk_set h o v)
theorem setCells_far {g k : Nat} (hk : k ≠ g) : ∀ (vs : List Value) (W : World) (o : Nat), (W.setCells g o vs).heap[k]? = W.heap[k]?
 | [], _, _ => rfl
 | v :: r, W, o => (setCells_far hk r _ _).trans (Below.heap_setCell W ⟨g, o, none⟩ v k hk)
theorem setCells_side {g : Nat} : ∀ (vs : List Value) (W : World) (o : Nat), (W.setCells g o vs).heap.size = W.heap.size ∧ (W.setCells g o vs).os = W.os ∧ (W.setCells g o vs).tape = W.tape ∧ (W.setCells g o vs).output = W.output
 | [], _, _ => ⟨rfl, rfl, rfl, rfl⟩
 | v :: r, W, o => by
  obtain ⟨a, b, c, d⟩ := setCells_side r (W.setCell ⟨g, o, none⟩ v) (o + 1)
  exact ⟨a.trans (by simp [World.setCell]), b, c, d⟩
def insAt (l : List ByteArray) (i : Nat) (x : ByteArray) : List ByteArray := l.take i ++ x :: l.drop i
theorem insAt_length (l : List ByteArray) (i : Nat) (x : ByteArray) (h : i ≤ l.length) : (insAt l i x).length = l.length + 1 := by simp [insAt]; omega
theorem encs_insAt (l : List ByteArray) (i : Nat) (x : ByteArray) : encs Value.string (insAt l i x) = (encs Value.string l).take i ++ .string x :: (encs Value.string l).drop i := by simp [encs, insAt, List.map_take, List.map_drop]
theorem R_made {B g cap n : Nat} {W : World} {cs : Array Value} {l : List ByteArray} (hb : W.heap[g]? = some (.cells cs 9 (0, 0))) (hg : B ≤ g) (hn : n = l.length) (hc : l.length ≤ cap) (hm : cap ≤ maxLen) (hs : cs.size = cap) (ht : cs.toList.take l.length = encs Value.string l) :
 Kd.R Kd.string 9 W B (fun _ => True) (.slice (some ⟨g, 0, none⟩) n cap) l := by
 subst hn
 exact Kd.R_of_own ⟨by simp [encs], .inr ⟨g, cap, cs, rfl, hg, hb, hc, hm, by rw [hs, Nat.mul_one], by rw [Nat.mul_one]; exact ht⟩⟩ (fun _ _ => trivial)
theorem ins_cells {cur : Array Value} {l : List ByteArray} {i : Nat} {x : ByteArray} (hl : cur.toList.take l.length = encs Value.string l) (hs : l.length + 1 ≤ cur.size) (hi : i ≤ l.length) :
 (setL (setL cur (i + 1) ((encs Value.string l).drop i)) i [.string x]).toList.take (insAt l i x).length = encs Value.string (insAt l i x) := by
 rw [encs_insAt, insAt_length l i x hi]
 have hle : (encs Value.string l).length = l.length := encs_length l
 apply List.ext_getElem?
 intro j
 rw [List.getElem?_take]
 by_cases hj : j < l.length + 1
 ·
  rw [if_pos hj, Array.getElem?_toList, setL_get _ _ _ _ (by rw [setL_size]; simp; omega)]
  by_cases h1 : i ≤ j ∧ j < i + [Value.string x].length
  ·
   have : j = i := by simp at h1; omega
   subst this
   rw [if_pos h1, Nat.sub_self, List.getElem?_append_right (by simp; omega)]
   simp [hle, Nat.min_eq_left hi]
  ·
   rw [if_neg h1, setL_get _ _ _ _ (by simp [hle]; omega)]
   simp only [List.length_singleton] at h1
   by_cases h2 : i + 1 ≤ j ∧ j < i + 1 + ((encs Value.string l).drop i).length
   ·
    rw [if_pos h2, List.getElem?_append_right (by simp; omega), List.length_take, hle, Nat.min_eq_left hi, show j - i = (j - (i + 1)) + 1 by omega, List.getElem?_cons_succ]
   ·
    have hji : j < i := by simp [hle] at h2; omega
    rw [if_neg h2, List.getElem?_append_left (by simp [hle]; omega), List.getElem?_take, if_pos hji, ← hl, List.getElem?_take, if_pos (by omega), Array.getElem?_toList]
 ·
  rw [if_neg hj, List.getElem?_eq_none (by simp [hle]; omega)]
theorem ins_cells2 {cur : Array Value} {l : List ByteArray} {i : Nat} {x : ByteArray} (hl : ∀ j, j < i → cur[j]? = (encs Value.string l)[j]?) (hs : l.length + 1 ≤ cur.size) (hi : i ≤ l.length) :
 (setL (setL cur i [.string x]) (i + 1) ((encs Value.string l).drop i)).toList.take (insAt l i x).length = encs Value.string (insAt l i x) := by
 rw [encs_insAt, insAt_length l i x hi]
 have hle : (encs Value.string l).length = l.length := encs_length l
 apply List.ext_getElem?
 intro j
 rw [List.getElem?_take]
 by_cases hj : j < l.length + 1
 ·
  rw [if_pos hj, Array.getElem?_toList, setL_get _ _ _ _ (by rw [setL_size]; simp [hle]; omega)]
  by_cases h2 : i + 1 ≤ j ∧ j < i + 1 + ((encs Value.string l).drop i).length
  ·
   rw [if_pos h2, List.getElem?_append_right (by simp; omega), List.length_take, hle, Nat.min_eq_left hi, show j - i = (j - (i + 1)) + 1 by omega, List.getElem?_cons_succ]
  ·
   rw [if_neg h2, setL_get _ _ _ _ (by simp; omega)]
   by_cases h1 : i ≤ j ∧ j < i + [Value.string x].length
   ·
    have : j = i := by simp at h1; omega
    subst this
    rw [if_pos h1, Nat.sub_self, List.getElem?_append_right (by simp; omega)]
    simp [hle, Nat.min_eq_left hi]
   ·
    have hji : j < i := by simp [hle] at h2; simp at h1; omega
    rw [if_neg h1, List.getElem?_append_left (by simp [hle]; omega), List.getElem?_take, if_pos hji]
    exact hl j hji
 ·
  rw [if_neg hj, List.getElem?_eq_none (by simp [hle]; omega)]
theorem shape_of {W : World} {g t : Nat} {cs : Array Value} (h : W.heap[g]? = some (.cells cs t (0, 0))) : W.shape? g = some (t, cs.size) := by simp [World.shape?, h]
theorem below_cells {B g : Nat} {w W : World} (h : Below B w W) (hg : B ≤ g) (o : Nat) (vs : List Value) : Below B w (W.setCells g o vs) := by
 obtain ⟨a, b, c, d⟩ := setCells_side (g := g) vs W o
 exact ⟨b.trans h.os, c.trans h.tape, d.trans h.output, by rw [a]; exact h.size, fun k hk => (setCells_far (by omega) vs W o).trans (h.block k hk)⟩
theorem kept_cells {g : Nat} {w W : World} {S : Nat → Prop} (h : Kept w W S) (hg : S g ∨ w.heap.size ≤ g) (o : Nat) (vs : List Value) : Kept w (W.setCells g o vs) S :=
 h.then_ (S2 := fun k => k = g) ⟨by rw [(setCells_side (g := g) vs W o).1]; exact Nat.le_refl _, fun i hi hn => setCells_far hn vs W o⟩ (fun k hk => by rw [hk]; exact hg)
theorem own_some {g n c k : Nat} (h : (Value.slice (some ⟨g, 0, none⟩) n c).ownBlock = some k) : g = k := by simpa [Value.ownBlock] using h
set_option maxHeartbeats 1000000 in
theorem ins_calls {B vb i : Nat} {w : World} {A : Option Addr} {c : Nat} {l : List ByteArray} {x : ByteArray} (hr : Kd.R Kd.string 9 w B (fun _ => True) (.slice A l.length c) l) (hi : i ≤ l.length)
 (hvb : w.heap[vb]? = some (.cells #[.string x] 9 (0, 0))) (hne : some vb ≠ (Value.slice A l.length c).ownBlock) (hB : B ≤ w.heap.size) (hbig : (l.length + 1) * 16 ≤ 140737488355328) :
 Calls Try.prog 91 #[.slice A l.length c, .int .i64 i, .slice (some ⟨vb, 0, none⟩) 1 1] w fun e w' => ∃ A' c', e = .returned (.slice A' (l.length + 1) c') ∧ Kd.R Kd.string 9 w' B (fun _ => True) (.slice A' (l.length + 1) c') (insAt l i x) ∧ Below B w w' ∧ Kept w w' (fun k => (Value.slice A l.length c).ownBlock = some k) ∧ ∀ k, (Value.slice A' (l.length + 1) c').ownBlock = some k → (Value.slice A l.length c).ownBlock = some k ∨ w.heap.size ≤ k := by
 have hv : ∀ (j : Nat) (v : Value), [Value.string x][j]? = some v → w.cell? ⟨vb, 0 + j, none⟩ = some v := fun j v hj => by
  match j, hj with
  | 0, hj => obtain rfl := Option.some.inj hj; exact (blk_cell hvb 0).trans rfl
  | j + 1, hj => simp at hj
 have h1v : ∀ v ∈ [Value.string x], v.oneCell' = true := fun v hv => by simp at hv; subst hv; rfl
 have h1c : ∀ v ∈ encs Value.string l, v.oneCell' = true := fun v hv => by
  simp only [encs, List.mem_map] at hv
  obtain ⟨_, _, rfl⟩ := hv
  rfl
 have hle : (encs Value.string l).length = l.length := encs_length l
 have hil := insAt_length l i x hi
 have hml : maxLen = 9223372036854775807 := by decide
 have hnl : l.length < 8796093022208 := by omega
 obtain ⟨_, h2⟩ := Kd.own_of_R hr
 rcases h2 with ⟨he, h0⟩ | ⟨g, cap, cur, he, hbg, hh, hnc, hcm, hcs, ht⟩
 ·
  -- nil
  injection he with ha _ hc
  subst ha hc
  have hl0 : l = [] := List.eq_nil_of_length_eq_zero h0
  subst hl0
  obtain rfl : i = 0 := by simpa using hi
  refine (Any2.slices_Insert_string_end_grow insLays none 0 0 vb 0 1 1 [] [.string x] w (by omega) (Nat.le_refl _) (by omega) (by omega) rfl rfl (fun _ => rfl) (fun _ h => by cases h) hv h1v).mono ?_
  rintro e w' ⟨rfl, rfl⟩
  refine ⟨_, _, rfl, R_made (heap_alloc_new w.drew _) hB rfl (grownCap_ge _ _ _ _) (grownCap_le_maxLen _ _ _ _ (by rw [hml]; omega)) ?_ ?_, (below_drew (Below.refl B w)).alloc hB _, (Kept.drew (Kept.refl w _)).alloc _, fun k hk => .inr (by rw [← own_some hk]; exact Nat.le_refl _)⟩
  ·
   have := grownCap_ge w 1 0 9
   simp [size_zeroCells]
   show 1 + (grownCap w 1 0 9 - 1) * 1 = grownCap w 1 0 9
   omega
  ·
   simp [insAt, encs]
 ·
  injection he with ha _ hc
  subst ha hc
  rw [Nat.mul_one] at hcs ht
  have hcell : ∀ (j : Nat) (v : Value), (encs Value.string l)[j]? = some v → w.cell? ⟨g, 0 + j, none⟩ = some v := fun j v hj => by
   rw [Nat.zero_add, blk_cell hh, ← Array.getElem?_toList]
   rw [← ht, List.getElem?_take] at hj
   split at hj
   ·
    exact hj
   ·
    cases hj
  have hsome : ∀ j, j < c → (w.cell? ⟨g, 0 + j, none⟩).isSome = true := fun j hj => by
   rw [Nat.zero_add, blk_cell hh]
   simp [hcs, hj]
  have hvg : vb ≠ g := fun h => hne (by rw [h]; simp [Value.ownBlock])
  by_cases hroom : l.length + 1 ≤ c
  ·
   by_cases hlt : i < l.length
   ·
    refine (Any2.slices_Insert_string_shift insLays g 0 l.length c i vb 0 1 1 (encs Value.string l) [.string x] w hlt (by omega) hroom (by rw [← hml]; exact hcm) hvg hle rfl hcell (fun j hj => hsome j (by omega)) (fun j _ => blk_frozen hh _) hv h1c h1v 9 9 1 cur.size (shape_of hvb) (shape_of hh) (by omega) (blk_frozen hvb 0) (blk_frozen hvb 1)).mono ?_
    rintro e w' ⟨rfl, rfl⟩
    have k1 := setCells_blk ((encs Value.string l).drop i) w.drew cur (0 + (i + 1)) hh
    have k2 := setCells_blk [.string x] _ _ (0 + i) k1
    simp only [Nat.zero_add] at k1 k2 ⊢
    exact ⟨_, _, rfl, R_made k2 hbg hil.symm (by omega) hcm (by rw [setL_size, setL_size, hcs]) (ins_cells ht (by omega) hi), below_cells (below_cells (below_drew (Below.refl B w)) hbg _ _) hbg _ _, kept_cells (kept_cells (Kept.drew (Kept.refl w _)) (.inl (by simp [Value.ownBlock])) _ _) (.inl (by simp [Value.ownBlock])) _ _, fun k hk => .inl hk⟩
   ·
    obtain rfl : i = l.length := by omega
    refine (Any2.slices_Insert_string_end_room insLays g 0 l.length c vb 0 1 1 [.string x] w (by omega) hroom (by rw [← hml]; exact hcm) rfl (fun j hj => by have := hsome (l.length + j) (by omega); rw [show 0 + l.length + j = 0 + (l.length + j) by omega]; exact this) (fun j _ => blk_frozen hh _) hv h1v).mono ?_
    rintro e w' ⟨rfl, rfl⟩
    have k2 := setCells_blk [.string x] w cur (0 + l.length) hh
    simp only [Nat.zero_add] at k2 ⊢
    have hz := ins_cells (x := x) ht (by omega) (Nat.le_refl l.length)
    rw [show (encs Value.string l).drop l.length = [] from List.drop_eq_nil_of_le (by rw [hle]; exact Nat.le_refl _)] at hz
    exact ⟨_, _, rfl, R_made k2 hbg hil.symm (by omega) hcm (by rw [setL_size, hcs]) hz, below_cells (Below.refl B w) hbg _ _, kept_cells (Kept.refl w _) (.inl (by simp [Value.ownBlock])) _ _, fun k hk => .inl hk⟩
  ·
   by_cases hlt : i < l.length
   ·
    refine (Any2.slices_Insert_string_grow insLays g 0 l.length c i vb 0 1 1 (encs Value.string l) [.string x] w hlt (by omega) hnc (by omega) hbig hle rfl hcell hv h1c h1v).mono ?_
    rintro e w' ⟨rfl, rfl⟩
    have hgc := grownCap_ge w (l.length + 1) c 9
    obtain ⟨CS, hCS⟩ : ∃ CS : Array Value, CS = ((encs Value.string l).take i).toArray ++ Builtin.zeroCells (Value.string ⟨#[]⟩).cells (l.length + 1 - i) ++ Builtin.zeroCells (Value.string ⟨#[]⟩).cells (grownCap w (l.length + 1) c (insRen.t 9) - (l.length + 1)) := ⟨_, rfl⟩
    have hsz : CS.size = grownCap w (l.length + 1) c 9 := by
     rw [hCS]
     simp only [Array.size_append, size_zeroCells, List.size_toArray, List.length_take, hle]
     show min i l.length + (l.length + 1 - i) * 1 + (grownCap w (l.length + 1) c 9 - (l.length + 1)) * 1 = grownCap w (l.length + 1) c 9
     omega
    have hfst : ∀ j, j < i → CS[j]? = (encs Value.string l)[j]? := fun j hj => by
     rw [hCS, Array.getElem?_append_left (by simp [hle]; omega), Array.getElem?_append_left (by simp [hle]; omega)]
     simp [hj]
    rw [← hCS]
    have k0 := heap_alloc_new w (.cells CS 9)
    have k1 := setCells_blk [.string x] (w.alloc (.cells CS 9)).drew CS i k0
    have k2 := setCells_blk ((encs Value.string l).drop i) _ _ (i + 1) (show ((w.alloc (.cells CS 9)).drew.setCells w.heap.size i [.string x]).drew.heap[w.heap.size]? = _ from k1)
    exact ⟨_, _, rfl, R_made k2 hB hil.symm (by rw [hil]; exact hgc) (grownCap_le_maxLen _ _ _ _ (by rw [hml]; omega)) (by rw [setL_size, setL_size]; exact hsz) (ins_cells2 hfst (by omega) hi), below_cells (below_drew (below_cells (below_drew ((Below.refl B w).alloc hB _)) hB _ _)) hB _ _, kept_cells (Kept.drew (kept_cells (Kept.drew ((Kept.refl w _).alloc _)) (.inr (Nat.le_refl _)) _ _)) (.inr (Nat.le_refl _)) _ _, fun k hk => .inr (by rw [← own_some hk]; exact Nat.le_refl _)⟩
   ·
    obtain rfl : i = l.length := by omega
    refine (Any2.slices_Insert_string_end_grow insLays (some ⟨g, 0, none⟩) l.length c vb 0 1 1 (encs Value.string l) [.string x] w (by omega) hnc (by omega) hbig hle rfl (fun h => by cases h) (fun a ha j v hj => by injection ha with ha; subst ha; rw [add_plain]; have := hcell j v hj; rwa [Nat.zero_add] at this) hv h1v).mono ?_
    rintro e w' ⟨rfl, rfl⟩
    refine ⟨_, _, rfl, R_made (heap_alloc_new w.drew _) hB hil.symm (by rw [hil]; exact grownCap_ge _ _ _ _) (grownCap_le_maxLen _ _ _ _ (by rw [hml]; omega)) ?_ ?_, (below_drew (Below.refl B w)).alloc hB _, (Kept.drew (Kept.refl w _)).alloc _, fun k hk => .inr (by rw [← own_some hk]; exact Nat.le_refl _)⟩
    ·
     have := grownCap_ge w (l.length + 1) c 9
     simp only [Array.size_append, size_zeroCells, List.size_toArray, List.length_append, hle, List.length_singleton]
     show l.length + 1 + (grownCap w (l.length + 1) c 9 - (l.length + 1)) * 1 = grownCap w (l.length + 1) c 9
     omega
    ·
     rw [hil, Array.toList_append, List.take_append_of_le_length (by simp [hle]), List.take_of_length_le (by simp [hle])]
     simp [insAt, encs]
end Go.Proofs.Ytdlkhpfgkghhmaa.P

-- ==== PF106
namespace Go.Proofs.Ytdlkhpfgkghhmaa.P
open Go.RowKit Go.Proofs.YtdlkhpfgkghhmaaW.PrintWords Go.Proofs.YtdlkhpfgkghhmaaW.PrintLast Go.Proofs.YtdlkhpfgkghhmaaW.PrintMore
attribute [local go_sem] max2_int min2_int max_two min_two max_three min_three max_four min_four

/-! ### cmp_isNaN_string: function 106 -/
def cmp_isNaN_string.f (a0 : ByteArray) : Option (Bool) := some (a0.toList != a0.toList)
theorem cmp_isNaN_string.calls (a0 : ByteArray) (r : Bool) (w : World) (h : cmp_isNaN_string.f a0 = some r) :
 Calls Try.prog 106 #[.string a0] w fun e w' => e = .returned (.bool r) ∧ Drawn0 w w' := by
 have H : (some (a0.toList != a0.toList)) = some r := h
 clear h
 obtain rfl := zS H
 go_enter Try.func106, Try.ntmps106
 go_wp2
 go_ret
 exact ⟨zy, zd⟩


-- ==== PF98

/-! ### cmp_Less_string: function 98 -/
def cmp_Less_string.f (a0 : ByteArray) (a1 : ByteArray) : Option (Bool) := (cmp_isNaN_string.f a0).bind fun t101 => (if t101 = true then ((cmp_isNaN_string.f a1).bind fun t102 => (if t102 = true then (some (Op.bytesLess a0.toList a1.toList)) else (some true))) else (some (Op.bytesLess a0.toList a1.toList)))
theorem cmp_Less_string.calls (a0 : ByteArray) (a1 : ByteArray) (r : Bool) (w : World) (h : cmp_Less_string.f a0 a1 = some r) :
 Calls Try.prog 98 #[.string a0, .string a1] w fun e w' => e = .returned (.bool r) ∧ Drawn0 w w' := by
 have H : ((cmp_isNaN_string.f a0).bind fun t101 => (if t101 = true then ((cmp_isNaN_string.f a1).bind fun t102 => (if t102 = true then (some (Op.bytesLess a0.toList a1.toList)) else (some true))) else (some (Op.bytesLess a0.toList a1.toList)))) = some r := h
 clear h
 replace H := zB H
 obtain ⟨t101, A30, H⟩ := H
 try dsimp only at H
 have A3 := zM A30
 clear A30
 by_cases c4 : t101 = true
 ·
  subst c4
  rw [if_pos rfl] at H
  replace H := zB H
  obtain ⟨t102, A50, H⟩ := H
  try dsimp only at H
  have A5 := zM A50
  clear A50
  by_cases c6 : t102 = true
  ·
   subst c6
   rw [if_pos rfl] at H
   obtain rfl := zS H
   go_enter Try.func98, Try.ntmps98
   go_wp2_with (first | ((with_reducible refine gate_callee (f := 106) rfl ?_); refine goesL_ (some 6) rfl rfl Try.func106 (by kernel_rfl) rfl #[.string a0] rfl zl ?_; (with_reducible refine (cmp_isNaN_string.calls a0 true _ A3.out).mono ?_); rintro e w' ⟨rfl, ⟨nd, rfl⟩⟩; refine ⟨_, rfl, ?_⟩) | (go_at_call 106; (with_reducible refine (cmp_isNaN_string.calls a1 true _ A5.out).mono ?_); rintro e w' ⟨rfl, ⟨nd, rfl⟩⟩))
   go_ret
   exact ⟨zy, zd⟩
  ·
   replace c6 := zI c6
   subst c6
   rw [if_neg (show ¬ (false = true) by decide)] at H
   obtain rfl := zS H
   go_enter Try.func98, Try.ntmps98
   go_wp2_with (first | ((with_reducible refine gate_callee (f := 106) rfl ?_); refine goesL_ (some 6) rfl rfl Try.func106 (by kernel_rfl) rfl #[.string a0] rfl zl ?_; (with_reducible refine (cmp_isNaN_string.calls a0 true _ A3.out).mono ?_); rintro e w' ⟨rfl, ⟨nd, rfl⟩⟩; refine ⟨_, rfl, ?_⟩) | (go_at_call 106; (with_reducible refine (cmp_isNaN_string.calls a1 false _ A5.out).mono ?_); rintro e w' ⟨rfl, ⟨nd, rfl⟩⟩))
   go_ret
   exact ⟨zy, zd⟩
 ·
  replace c4 := zI c4
  subst c4
  rw [if_neg (show ¬ (false = true) by decide)] at H
  obtain rfl := zS H
  go_enter Try.func98, Try.ntmps98
  go_wp2_with (first | ((with_reducible refine gate_callee (f := 106) rfl ?_); refine goesL_ (some 6) rfl rfl Try.func106 (by kernel_rfl) rfl #[.string a0] rfl zl ?_; (with_reducible refine (cmp_isNaN_string.calls a0 false _ A3.out).mono ?_); rintro e w' ⟨rfl, ⟨nd, rfl⟩⟩; refine ⟨_, rfl, ?_⟩))
  go_ret
  exact ⟨zy, zd⟩


-- ==== PF99

/-! ### slices_isNaN_string: function 99 -/
def slices_isNaN_string.f (a0 : ByteArray) : Option (Bool) := some (a0.toList != a0.toList)
theorem slices_isNaN_string.calls (a0 : ByteArray) (r : Bool) (w : World) (h : slices_isNaN_string.f a0 = some r) :
 Calls Try.prog 99 #[.string a0] w fun e w' => e = .returned (.bool r) ∧ Drawn0 w w' := by
 have H : (some (a0.toList != a0.toList)) = some r := h
 clear h
 obtain rfl := zS H
 go_enter Try.func99, Try.ntmps99
 go_wp2
 go_ret
 exact ⟨zy, zd⟩


-- ==== PF90

/-! ### slices_BinarySearch_string_string: function 90 -/
def slices_BinarySearch_string_string.l0 : Nat → List ByteArray → ByteArray → Int → Int → Int → Option (Int × Bool)
 | 0, _, _, _, _, _ => none
 | k + 1, x0, x1, x6, x7, x8 => if x7 < x8 then (if 0 ≤ (wrap64 ((IntKind.u64.wrap (wrap64 (x7 + x8))) / 2)) then (if (wrap64 ((IntKind.u64.wrap (wrap64 (x7 + x8))) / 2)) < (x0.length : Int) then ((cmp_Less_string.f (rdOf ByteArray.empty x0 (wrap64 ((IntKind.u64.wrap (wrap64 (x7 + x8))) / 2))) x1).bind fun t102 => (if t102 = true then (slices_BinarySearch_string_string.l0 k x0 x1 x6 (wrap64 ((wrap64 ((IntKind.u64.wrap (wrap64 (x7 + x8))) / 2)) + 1)) x8) else (slices_BinarySearch_string_string.l0 k x0 x1 x6 x7 (wrap64 ((IntKind.u64.wrap (wrap64 (x7 + x8))) / 2))))) else (none)) else (none)) else (if x7 < x6 then (if 0 ≤ x7 then (if x7 < (x0.length : Int) then (if (rdOf ByteArray.empty x0 x7).toList = x1.toList then (some (x7, true)) else ((slices_isNaN_string.f (rdOf ByteArray.empty x0 x7)).bind fun t105 => (if t105 = true then ((slices_isNaN_string.f x1).bind fun t106 => (some (x7, t106))) else (some (x7, false))))) else (none)) else (none)) else (some (x7, false)))
def slices_BinarySearch_string_string.f (k : Nat) (l0 : List ByteArray) (a1 : ByteArray) : Option (Int × Bool) := slices_BinarySearch_string_string.l0 k l0 a1 (l0.length : Int) 0 (l0.length : Int)
theorem slices_BinarySearch_string_string.mono_l : ∀ k, (∀ y0 y1 y2 y3 y4, LeO (slices_BinarySearch_string_string.l0 k y0 y1 y2 y3 y4) (slices_BinarySearch_string_string.l0 (k + 1) y0 y1 y2 y3 y4))
 | 0 => fun _ _ _ _ _ r h => by simp [slices_BinarySearch_string_string.l0] at h
 | k + 1 => by
  have ih0 := slices_BinarySearch_string_string.mono_l k
  ·
   intro y0 y1 y2 y3 y4
   unfold slices_BinarySearch_string_string.l0
   repeat' first
   | (with_reducible exact ih0 _ _ _ _ _)
   | (with_reducible exact LeO.refl _)
   | (with_reducible exact LeO.none _)
   | (with_reducible refine LeO.ite ?_ ?_)
   | (with_reducible refine LeO.bind ?_ (fun _ => ?_))
theorem slices_BinarySearch_string_string.mono : ∀ a0 a1 k, LeO (slices_BinarySearch_string_string.f k a0 a1) (slices_BinarySearch_string_string.f (k + 1) a0 a1) := by
 intro a0 a1 k
 have ih0 := slices_BinarySearch_string_string.mono_l k
 unfold slices_BinarySearch_string_string.f
 repeat' first
  | (with_reducible exact ih0 _ _ _ _ _)
  | (with_reducible exact LeO.refl _)
  | (with_reducible exact LeO.none _)
  | (with_reducible refine LeO.ite ?_ ?_)
  | (with_reducible refine LeO.bind ?_ (fun _ => ?_))
theorem slices_BinarySearch_string_string.calls (k : Nat) (A0 : Option Addr) (c0 : Nat) (l0 : List ByteArray) (a1 : ByteArray) (r1 : Int) (r2 : Bool) (w : World) (hr0 : Kd.C Kd.string w A0 l0.length l0) (hc0 : l0.length ≤ c0) (h : slices_BinarySearch_string_string.f k l0 a1 = some (r1, r2)) :
 Calls Try.prog 90 #[.slice A0 l0.length c0, .string a1] w fun e w' => e = .returned (.tuple #[.int .i64 r1, .bool r2]) ∧ Drawn0 w w' := by
 have HR0 := zM hr0
 have HC0 := zM hc0
 clear hr0 hc0
 have H : (slices_BinarySearch_string_string.l0 k l0 a1 (l0.length : Int) 0 (l0.length : Int)) = some (r1, r2) := h
 clear h
 have H' := zM H
 clear H
 go_enter Try.func90, Try.ntmps90
 go_wp2
 go_loopg [7, 8] k (fun kq v7 v8 w' => ∃ (x7_1 : Int) (x8_1 : Int), v7 = .int .i64 x7_1 ∧ v8 = .int .i64 x8_1 ∧ Aside0 (slices_BinarySearch_string_string.l0 kq l0 a1 (l0.length : Int) x7_1 x8_1 = some (r1, r2)) ∧ Aside0 (kq ≤ k) ∧ Drawn0 w w')
 case atStart => exact ⟨(0), ((l0.length : Int)), zy, zy, H', ⟨Nat.le_refl _⟩, zd⟩
 case round =>
  clear H'
  try clear p2
  obtain ⟨x7_1, x8_1, rfl, rfl, HA, HK1, ⟨m1, rfl⟩⟩ := hrel
  cases gk with
  | zero => exact absurd HA.out (by simp [slices_BinarySearch_string_string.l0])
  | succ k1 =>
   have H := HA.out
   clear HA
   simp only [slices_BinarySearch_string_string.l0] at H
   by_cases c3 : x7_1 < x8_1
   ·
    rw [if_pos c3] at H
    have c3b0 : decide (x7_1 < x8_1) = true := zQ c3
    clear c3
    obtain ⟨ji4, hji4⟩ : ∃ j_ : Int, (wrap64 ((IntKind.u64.wrap (wrap64 (x7_1 + x8_1))) / 2)) = j_ := ⟨_, rfl⟩
    replace H : (if 0 ≤ (ji4) then (if (ji4) < (l0.length : Int) then ((cmp_Less_string.f (rdOf ByteArray.empty l0 (ji4)) a1).bind fun t102 => (if t102 = true then (slices_BinarySearch_string_string.l0 k1 l0 a1 (l0.length : Int) (wrap64 ((ji4) + 1)) x8_1) else (slices_BinarySearch_string_string.l0 k1 l0 a1 (l0.length : Int) x7_1 ji4))) else (none)) else (none)) = some (r1, r2) := by first | (rw [hji4] at H; exact H) | (simp only [hji4] at H ⊢; exact H)
    have hji4w : (IntKind.i64.wrap ((IntKind.u64.wrap (wrap64 (x7_1 + x8_1))) / 2)) = ji4 := (i64_w _).trans hji4
    by_cases c5 : 0 ≤ (ji4)
    ·
     rw [if_pos c5] at H
     have c5b0 : decide (0 ≤ (ji4)) = true := zQ c5
     clear c5
     by_cases c6 : (ji4) < (l0.length : Int)
     ·
      rw [if_pos c6] at H
      have c6b0 : decide ((ji4) < (l0.length : Int)) = true := zQ c6
      clear c6
      replace H := zB H
      obtain ⟨t102, A70, H⟩ := H
      try dsimp only at H
      have A7 := zM A70
      clear A70
      by_cases c8 : t102 = true
      ·
       subst c8
       rw [if_pos rfl] at H
       have H' := zM H
       clear H
       have p101 : 0 ≤ ((ji4) : Int) := zT zv
       have q101 : (ji4) < (l0.length : Int) := zT zv
       obtain ⟨ad101, e101, hx101_0⟩ := Kd.at_string HR0.out (ji4) p101 q101
       cases e101
       replace p101 := eq_true p101
       replace q101 := eq_true q101
       go_wp2_with (first | ((with_reducible refine gate_callee (f := 98) rfl ?_); refine goesL_ (some 27) rfl rfl Try.func98 (by kernel_rfl) rfl #[.string (rdOf ByteArray.empty l0 (ji4)), .string a1] rfl (by (try simp only [List.map_toArray, List.map_cons, List.map_nil]); first | done | (simp only [hji4]; rfl) | rfl | (simp only [List.length_drop, List.length_take]; rfl)) ?_; (with_reducible refine (cmp_Less_string.calls (rdOf ByteArray.empty l0 (ji4)) a1 true _ A7.out).mono ?_); rintro e w' ⟨rfl, ⟨nd, rfl⟩⟩; refine ⟨_, rfl, ?_⟩))
       go_roundg k1
       case measure => have := HK1.out; omega
       case rel => exact ⟨(wrap64 ((ji4) + 1)), (x8_1), (by first | rfl | (simp; done) | (simp only [← hji4] <;> (first | rfl | simp)) | (simp [*]; done)), zy, H', ⟨by have := HK1.out; omega⟩, zd⟩
      ·
       replace c8 := zI c8
       subst c8
       rw [if_neg (show ¬ (false = true) by decide)] at H
       have H' := zM H
       clear H
       have p101 : 0 ≤ ((ji4) : Int) := zT zv
       have q101 : (ji4) < (l0.length : Int) := zT zv
       obtain ⟨ad101, e101, hx101_0⟩ := Kd.at_string HR0.out (ji4) p101 q101
       cases e101
       replace p101 := eq_true p101
       replace q101 := eq_true q101
       go_wp2_with (first | ((with_reducible refine gate_callee (f := 98) rfl ?_); refine goesL_ (some 27) rfl rfl Try.func98 (by kernel_rfl) rfl #[.string (rdOf ByteArray.empty l0 (ji4)), .string a1] rfl (by (try simp only [List.map_toArray, List.map_cons, List.map_nil]); first | done | (simp only [hji4]; rfl) | rfl | (simp only [List.length_drop, List.length_take]; rfl)) ?_; (with_reducible refine (cmp_Less_string.calls (rdOf ByteArray.empty l0 (ji4)) a1 false _ A7.out).mono ?_); rintro e w' ⟨rfl, ⟨nd, rfl⟩⟩; refine ⟨_, rfl, ?_⟩))
       go_roundg k1
       case measure => have := HK1.out; omega
       case rel => exact ⟨(x7_1), (ji4), zy, (by first | rfl | (simp; done) | (simp only [← hji4] <;> (first | rfl | simp)) | (simp [*]; done)), H', ⟨by have := HK1.out; omega⟩, zd⟩
     ·
      rw [if_neg c6] at H
      exact absurd H (by simp)
    ·
     rw [if_neg c5] at H
     exact absurd H (by simp)
   ·
    rw [if_neg c3] at H
    have c3b0 : decide (x7_1 < x8_1) = false := zR c3
    clear c3
    by_cases c9 : x7_1 < (l0.length : Int)
    ·
     rw [if_pos c9] at H
     have c9b0 : decide (x7_1 < (l0.length : Int)) = true := zQ c9
     clear c9
     by_cases c10 : 0 ≤ x7_1
     ·
      rw [if_pos c10] at H
      have c10b0 : decide (0 ≤ x7_1) = true := zQ c10
      clear c10
      by_cases c11 : x7_1 < (l0.length : Int)
      ·
       rw [if_pos c11] at H
       have c11b0 : decide (x7_1 < (l0.length : Int)) = true := zQ c11
       clear c11
       by_cases c12 : (rdOf ByteArray.empty l0 x7_1).toList = a1.toList
       ·
        rw [if_pos c12] at H
        have c12b0 : ((rdOf ByteArray.empty l0 x7_1).toList == a1.toList) = true := zG c12
        have c12b1 : ((rdOf ByteArray.empty l0 x7_1).toList != a1.toList) = false := zH c12
        clear c12
        simp only [Option.some.injEq, Prod.mk.injEq] at H
        obtain ⟨rfl, rfl⟩ := H
        have p103 : 0 ≤ (x7_1 : Int) := zT zv
        have q103 : x7_1 < (l0.length : Int) := zT zv
        obtain ⟨ad103, e103, hx103_0⟩ := Kd.at_string HR0.out x7_1 p103 q103
        cases e103
        replace p103 := eq_true p103
        replace q103 := eq_true q103
        go_wp2
        go_ret2
        exact ⟨zy, zd⟩
       ·
        rw [if_neg c12] at H
        have c12b0 : ((rdOf ByteArray.empty l0 x7_1).toList == a1.toList) = false := zE c12
        have c12b1 : ((rdOf ByteArray.empty l0 x7_1).toList != a1.toList) = true := zF c12
        replace H := zB H
        obtain ⟨t105, A130, H⟩ := H
        try dsimp only at H
        have A13 := zM A130
        clear A130
        by_cases c14 : t105 = true
        ·
         subst c14
         rw [if_pos rfl] at H
         replace H := zB H
         obtain ⟨t106, A150, H⟩ := H
         try dsimp only at H
         have A15 := zM A150
         clear A150
         simp only [Option.some.injEq, Prod.mk.injEq] at H
         obtain ⟨rfl, rfl⟩ := H
         have p103 : 0 ≤ (x7_1 : Int) := zT zv
         have q103 : x7_1 < (l0.length : Int) := zT zv
         obtain ⟨ad103, e103, hx103_0⟩ := Kd.at_string HR0.out x7_1 p103 q103
         cases e103
         replace p103 := eq_true p103
         replace q103 := eq_true q103
         have p104 : 0 ≤ (x7_1 : Int) := zT zv
         have q104 : x7_1 < (l0.length : Int) := zT zv
         obtain ⟨ad104, e104, hx104_0⟩ := Kd.at_string HR0.out x7_1 p104 q104
         obtain rfl : ad103 = ad104 := (by injection e104)
         replace p104 := eq_true p104
         replace q104 := eq_true q104
         go_wp2_with (first | (go_at_call 99; (with_reducible refine (slices_isNaN_string.calls (rdOf ByteArray.empty l0 x7_1) true _ A13.out).mono ?_); rintro e w' ⟨rfl, ⟨nd, rfl⟩⟩) | (go_at_call 99; (with_reducible refine (slices_isNaN_string.calls a1 t106 _ A15.out).mono ?_); rintro e w' ⟨rfl, ⟨nd, rfl⟩⟩))
         go_ret2
         exact ⟨zy, zd⟩
        ·
         replace c14 := zI c14
         subst c14
         rw [if_neg (show ¬ (false = true) by decide)] at H
         simp only [Option.some.injEq, Prod.mk.injEq] at H
         obtain ⟨rfl, rfl⟩ := H
         have p103 : 0 ≤ (x7_1 : Int) := zT zv
         have q103 : x7_1 < (l0.length : Int) := zT zv
         obtain ⟨ad103, e103, hx103_0⟩ := Kd.at_string HR0.out x7_1 p103 q103
         cases e103
         replace p103 := eq_true p103
         replace q103 := eq_true q103
         have p104 : 0 ≤ (x7_1 : Int) := zT zv
         have q104 : x7_1 < (l0.length : Int) := zT zv
         obtain ⟨ad104, e104, hx104_0⟩ := Kd.at_string HR0.out x7_1 p104 q104
         obtain rfl : ad103 = ad104 := (by injection e104)
         replace p104 := eq_true p104
         replace q104 := eq_true q104
         go_wp2_with (first | (go_at_call 99; (with_reducible refine (slices_isNaN_string.calls (rdOf ByteArray.empty l0 x7_1) false _ A13.out).mono ?_); rintro e w' ⟨rfl, ⟨nd, rfl⟩⟩))
         go_ret2
         exact ⟨zy, zd⟩
      ·
       rw [if_neg c11] at H
       exact absurd H (by simp)
     ·
      rw [if_neg c10] at H
      exact absurd H (by simp)
    ·
     rw [if_neg c9] at H
     have c9b0 : decide (x7_1 < (l0.length : Int)) = false := zR c9
     clear c9
     simp only [Option.some.injEq, Prod.mk.injEq] at H
     obtain ⟨rfl, rfl⟩ := H
     go_wp2
     go_ret2
     exact ⟨zy, zd⟩

end Go.Proofs.Ytdlkhpfgkghhmaa.P

-- ==== Rw8
namespace Go.Proofs.Ytdlkhpfgkghhmaa.P
open Go.RowKit Go.Proofs.YtdlkhpfgkghhmaaW.PrintWords Go.Proofs.YtdlkhpfgkghhmaaW.PrintLast Go.Proofs.YtdlkhpfgkghhmaaW.PrintMore
def IsMcH (B : Nat) (W : World) (g : Nat) (rv tv : Value) (ops : List S70) (vals : List (List S54)) (st : Int) (vh : Value) (hd : List ByteArray) (fu : Int) : Prop :=
 ∃ vo vv, W.heap[g]? = some (.cells #[vo, vv, .int .i64 st, vh, rv, tv, .int .i64 fu] 94 (0, 0)) ∧ B ≤ g ∧ Kd.R k70 70 W B (fun _ => True) vo ops ∧ Kd.R (Kd.slice 54 k54) 23 W B (fun _ => True) vv vals ∧ Kd.R Kd.string 9 W B (fun _ => True) vh hd
theorem isMc_iff {B : Nat} {W : World} {g : Nat} {rv tv : Value} {ops : List S70} {vals : List (List S54)} {st fu : Int} {hd : List ByteArray} : IsMc B W g rv tv ops vals st hd fu ↔ ∃ vh, IsMcH B W g rv tv ops vals st vh hd fu := by
 constructor
 ·
  rintro ⟨vo, vv, vh, h⟩
  exact ⟨vh, vo, vv, h⟩
 ·
  rintro ⟨vh, vo, vv, h⟩
  exact ⟨vo, vv, vh, h⟩
def headF (k : Nat) : List ByteArray → List ByteArray → Option (List ByteArray)
 | [], hd => some hd
 | x :: r, hd => (slices_BinarySearch_string_string.f k hd x).bind fun b => if b.2 = true then headF k r hd else if 0 ≤ b.1 ∧ b.1 ≤ (hd.length : Int) ∧ hd.length < 8796093022207 then headF k r (insAt hd b.1.toNat x) else none
set_option maxHeartbeats 8000000 in
set_option maxRecDepth 100000 in
theorem head_calls {B g k : Nat} {w : World} {rv tv vh : Value} {ops : List S70} {vals : List (List S54)} {st fu : Int} {hd fin names : List ByteArray} {An : Option Addr} {cn : Nat}
 (h : IsMcH B w g rv tv ops vals st vh hd fu) (hn : Kd.F Kd.string w (fun q => q ≠ g ∧ vh.ownBlock ≠ some q) An names.length names) (hf : headF k names hd = some fin) :
 Calls Try.prog 73 #[.pointer (some ⟨g, 0, none⟩), .slice An names.length cn] w fun e w' => e = .returned (.tuple #[]) ∧ IsMc B w' g rv tv ops vals st fin fu ∧ Below B w w' ∧ Kept w w' (fun q => q = g ∨ vh.ownBlock = some q) := by
 have HI := Aside0.mk h
 have HN := Aside0.mk hn
 have HF := Aside0.mk hf
 have HM := Aside0.mk (show (names.length : Int) ≤ 9223372036854775807 by have := (Kd.F_now hn).2.1; omega)
 have HB := Aside0.mk (Below.refl B w)
 have HK := Aside0.mk (Kept.refl w (fun q => q = g ∨ vh.ownBlock = some q))
 have HV := Aside0.mk (show ∀ q, vh.ownBlock = some q → vh.ownBlock = some q ∨ w.heap.size ≤ q from fun q hq => .inl hq)
 clear h hn hf
 go_enter Try.func73, Try.ntmps73
 go_wp2
 go_loopg [10] names.length (fun kq v10 w' => ∃ (x : Int) (vc : Value) (cur : List ByteArray), v10 = .int .i64 x ∧ Aside0 (0 ≤ x ∧ x + kq = (names.length : Int)) ∧ Aside0 (headF k (names.drop x.toNat) cur = some fin) ∧ Aside0 (IsMcH B w' g rv tv ops vals st vc cur fu) ∧ Aside0 (Below B w w') ∧ Aside0 (Kept w w' (fun q => q = g ∨ vh.ownBlock = some q)) ∧ Aside0 (∀ q, vc.ownBlock = some q → vh.ownBlock = some q ∨ w.heap.size ≤ q))
 case atStart => exact ⟨0, vh, hd, rfl, ⟨by omega⟩, HF, HI, HB, HK, HV⟩
 case round =>
  clear HI HB HK HF HV
  obtain ⟨x, vc, cur, rfl, HX, HF, HI, HB, HK, HV⟩ := hrel
  cases gk with
  | succ k1 =>
   have hi : 0 ≤ x ∧ x < (names.length : Int) := by have := HX.out; omega
   have hnw := Kd.F_now (Kd.F_kept HN.out HK.out (fun q hq hs => hs.elim hq.1 hq.2))
   obtain ⟨ad, rfl, hx0⟩ := Kd.at_string hnw x hi.1 hi.2
   have hdr : names.drop x.toNat = rdOf ByteArray.empty names x :: names.drop (x.toNat + 1) := by
    rw [List.drop_eq_getElem_cons (show x.toNat < names.length by omega)]
    congr 1
    simp [rdOf, List.getD_eq_getElem?_getD, show x.toNat < names.length by omega]
   have hf := HF.out
   rw [hdr, headF] at hf
   generalize rdOf ByteArray.empty names x = s at hx0 hf
   obtain ⟨⟨j, b⟩, hbs, hf⟩ := Option.bind_eq_some_iff.mp hf
   simp only at hf
   obtain ⟨vo, vv, hb, hg, hO, hV, hH⟩ := HI.out
   obtain ⟨Ah, ch, rfl⟩ := Kd.R_slice hH
   obtain ⟨_, hch, hCh⟩ := Kd.R_reads' hH
   have B1 := fun (W : World) (hW : Kd.C Kd.string W Ah cur.length cur) => slices_BinarySearch_string_string.calls k Ah ch cur s j b W hW hch hbs
   have hm3 : wr.cell? ⟨g, 3, none⟩ = some (.slice Ah cur.length ch) := (blk_cell hb 3).trans rfl
   have HXI := Aside0.mk hi
   have HH := Aside0.mk hH
   have HCh := Aside0.mk hCh
   have HBK := Aside0.mk hb
   have HOV := Aside0.mk (And.intro hg (And.intro hO hV))
   have hpp := eq_true hi.1
   have hqq := eq_true hi.2
   have hb0 : decide (x < (names.length : Int)) = true := decide_eq_true hi.2
   have HFX := Aside0.mk hf
   clear hdr hnw hb hg hO hV hH hCh hbs hf hi hch
   cases b with
   | true =>
    have hf := HFX.out
    rw [if_pos rfl] at hf
    have HF2 := Aside0.mk hf
    clear hf HFX
    go_wp2_with (go_at_call 90; (with_reducible refine (B1 _ ?side1).mono ?_); (case side1 => exact HCh.out); rintro e w2 ⟨rfl, ⟨nd, rfl⟩⟩)
    go_roundg k1
    case measure => have := HX.out; omega
    case rel => exact ⟨x + 1, _, cur, by have e_ : wrap64 (x + 1) = x + 1 := (by have := HXI.out; have := HM.out; unfold wrap64; omega); first | rfl | rw [e_] | (simp [e_]; done), ⟨by have := HX.out; omega⟩, ⟨by rw [show (x + 1).toNat = x.toNat + 1 by have := HXI.out; omega]; exact HF2.out⟩, ⟨⟨_, _, HBK.out, HOV.out.1, Kd.R_drewN HOV.out.2.1 _, Kd.R_drewN HOV.out.2.2 _, Kd.R_drewN HH.out _⟩⟩, ⟨pw_below_drewN HB.out _⟩, ⟨Kept.drewN HK.out _⟩, HV⟩
   | false =>
    have hf := HFX.out
    rw [if_neg (by decide)] at hf
    by_cases hj : 0 ≤ j ∧ j ≤ (cur.length : Int) ∧ cur.length < 8796093022207
    case neg => rw [if_neg hj] at hf; cases hf
    rw [if_pos hj] at hf
    have HF2 := Aside0.mk hf
    have HJ := Aside0.mk hj
    obtain ⟨jn, rfl⟩ := Int.eq_ofNat_of_zero_le hj.1
    have I1 := fun (W : World) (hr : Kd.R Kd.string 9 W B (fun _ => True) (.slice Ah cur.length ch) cur) (hB : B ≤ W.heap.size) (vb : Nat) (hvb : W.heap[vb]? = some (.cells #[.string s] 9 (0, 0))) (hne : some vb ≠ (Value.slice Ah cur.length ch).ownBlock) => ins_calls (i := jn) hr (by have := HJ.out; omega) hvb hne hB (by have := HJ.out; omega)
    clear hf HFX hj
    go_wp2_with (first | (go_at_call 90; (with_reducible refine (B1 _ ?side2).mono ?_); (case side2 => exact HCh.out); rintro e w2 ⟨rfl, ⟨nd, rfl⟩⟩) | (go_at_call 91; (with_reducible refine (I1 _ ?side3 ?side4 wr.heap.size ?side5 ?side6).mono ?_); (case side3 => exact (by repeat (first | exact HH.out | apply Kd.R_alloc | apply Kd.R_drewN | apply Kd.R_drew))); (case side4 => exact Nat.le_trans HOV.out.1 (by have := blk_lt HBK.out; simp; omega)); (case side5 => exact heap_alloc_new _ _); (case side6 => exact fun he => by have := Kd.R_lt HH.out _ he.symm; omega); rintro e w3 ⟨A3, c3, rfl, hR, hB3, hK3, hV3⟩; have hz := blk_kept (((below_alloc (pw_below_drewN (Below.refl wr.heap.size wr) nd) (.cells #[.string s] 9)).block g (blk_lt HBK.out)).trans HBK.out) hK3 (fun he => Kd.R_ne HH.out HBK.out (by decide) he.symm); have HZ := Aside0.mk hz; have q3 := (blk_cell hz 3).trans rfl; have f3 := blk_frozen hz 3; have HR3 := Aside0.mk hR; have HB3 := Aside0.mk hB3; have HK3 := Aside0.mk hK3; have HV3 := Aside0.mk hV3; clear hz hR hB3 hK3 hV3))
    go_roundg k1
    case measure => have := HX.out; omega
    case rel =>
     have hW := pw_below_drewN (Below.refl wr.heap.size wr) nd
     have hW2 := below_alloc hW (.cells #[.string s] 9)
     have hO := Kd.R_mono (Kd.R_kept (Kd.R_apartR (Kd.R_below HOV.out.2.1 hW2) (Kd.R_below HH.out hW2) (by decide)) HK3.out (fun q hq hs => hq.2 hs.symm)) (fun _ _ => trivial)
     have hV := Kd.R_mono (Kd.R_kept (Kd.R_apartR (Kd.R_below HOV.out.2.2 hW2) (Kd.R_below HH.out hW2) (by decide)) HK3.out (fun q hq hs => hq.2 hs.symm)) (fun _ _ => trivial)
     have hsz := hW2.size
     have hws := HK.out.1
     refine ⟨x + 1, .slice A3 (cur.length + 1) c3, insAt cur jn s, by have e_ : wrap64 (x + 1) = x + 1 := (by have := HXI.out; have := HM.out; unfold wrap64; omega); first | rfl | rw [e_] | (simp [e_]; done), ⟨by have := HX.out; omega⟩, ⟨by rw [show (x + 1).toNat = x.toNat + 1 by have := HXI.out; omega]; exact HF2.out⟩, ⟨⟨_, _, by simpa using blk_set HZ.out 3 (.slice A3 (cur.length + 1) c3), HOV.out.1, Kd.R_set hO HZ.out (by decide) 3 _, Kd.R_set hV HZ.out (by decide) 3 _, Kd.R_set HR3.out HZ.out (by decide) 3 _⟩⟩, ⟨(below_trB (below_trB HB.out (below_less hW2 (Nat.le_trans HOV.out.1 (Nat.le_of_lt (blk_lt HBK.out))))) HB3.out).setCell (p := ⟨g, 3, none⟩) HOV.out.1 _⟩, ⟨Kept.setCell (Kept.then_ (Kept.below HK.out hW2) HK3.out (fun q hq => (HV.out q hq).elim (fun h => .inl (.inr h)) .inr)) (.inl (.inl rfl)) _⟩, ⟨fun q hq => (HV3.out q hq).elim (fun h => HV.out q h) (fun h => .inr (by omega))⟩⟩
  | zero =>
   have hb0 : decide (x < (names.length : Int)) = false := decide_eq_false (by have := HX.out; omega)
   have hf := HF.out
   rw [List.drop_eq_nil_of_le (by have := HX.out; omega), headF] at hf
   obtain rfl := Option.some.inj hf
   clear hf HF
   go_wp2
   (first | refine bodyPost_ret (results_none rfl _ _ _) rfl ?_ | refine bodyPost_end (results_none rfl _ _ _) rfl ?_)
   exact ⟨rfl, isMc_iff.2 ⟨_, HI.out⟩, HB.out, HK.out⟩
end Go.Proofs.Ytdlkhpfgkghhmaa.P

-- ==== PE0
namespace Go.Proofs.Ytdlkhpfgkghhmaa.P
open Go.RowKit Go.Proofs.YtdlkhpfgkghhmaaW.PrintWords Go.Proofs.YtdlkhpfgkghhmaaW.PrintLast Go.Proofs.YtdlkhpfgkghhmaaW.PrintMore
attribute [local go_sem] max2_int min2_int max_two min_two max_three min_three max_four min_four

theorem eqA54 (d : Nat) (w : World) (x0 y0 : ByteArray) (x1 y1 : Int) :
 (Op.equalIn (d + 2) 54 (.agg #[.string x0, .int .i64 x1]) (.agg #[.string y0, .int .i64 y1])).run Try.prog w = .ok (x0.toList == y0.toList && (x1 == y1)) w := by
 refine eqA_of Try.underlying54 (by kernel_rfl) ?_
 refine eqf_cons (by rfl) (by go_simp; rfl) (by go_simp; rfl) (by go_simp) ?_
 exact eqf_last (by rfl) (by go_simp; rfl) (by go_simp; rfl) (by go_simp)
end Go.Proofs.Ytdlkhpfgkghhmaa.P

-- ==== PM
/- A map from strings to ints that the call makes, read as a list of its stores, the latest first: what the walk asks of it. -/
namespace Go.Proofs.Ytdlkhpfgkghhmaa.P
open Go.RowKit Go.WideMaps Go.Maps Go.Proofs.YtdlkhpfgkghhmaaW.PrintWords

def mapHas (m : List S54) (s : ByteArray) : Bool := m.any (fun x => x.f0.data.toList == s.data.toList)
def mapAt (m : List S54) (s : ByteArray) : Int := match m.find? (fun x => x.f0.data.toList == s.data.toList) with
 | some x => x.f1
 | none => 0
def mapPut (m : List S54) (s : ByteArray) (a : Int) : List S54 := ⟨s, a⟩ :: m

def Mapped (base : Nat) (W w1 : World) : Prop := ∃ b es clock, base ≤ b ∧ W.heap[b]? = some (.map es clock) ∧ W.grownBy w1 (some b)

theorem below_mapped {w W w1 : World} {base : Nat} (h : Below base w W) (hm : Mapped base W w1) : Below base w w1 := by
 obtain ⟨b, es, clock, hb, hh, hg⟩ := hm
 refine ⟨hg.os.trans h.os, hg.tape.trans h.tape, hg.output.trans h.output, Nat.le_trans h.size hg.size, fun i hi => ?_⟩
 have := blk_lt hh
 exact (hg.block i (by omega) (by intro e; injection e with e; omega)).trans (h.block i hi)
theorem blk_mapped {W w1 : World} {base g : Nat} {o : Obj} (h : W.heap[g]? = some o) (hm : Mapped base W w1) (hne : ∀ es clock, o ≠ .map es clock := by intro _ _ h_; cases h_) : w1.heap[g]? = some o := by
 obtain ⟨b, es, clock, hb, hh, hg⟩ := hm
 refine (hg.block g (blk_lt h) (fun e => ?_)).trans h
 injection e with e
 subst e
 rw [h] at hh
 injection hh with hh
 exact hne _ _ hh

namespace Kd
section
variable {α : Type} {d : Kd α} {e base base' : Nat} {ok : Nat → Prop} {W w1 : World} {v : Value} {xs : List α}
theorem R_mapped (h : d.R e W base ok v xs) (hm : Mapped base' W w1) : d.R e w1 base ok v xs := by
 obtain ⟨b, es, clock, hb, hh, hg⟩ := hm
 refine Kd.R_mono (Kd.R_move (Kd.R_bound h) (fun k hk => hg.block k hk.2.2.1 (fun he => ?_))) (fun _ hk => hk.1)
 obtain ⟨_, _, _, q, hq, cells, hc⟩ := hk
 injection he with he
 subst he
 rw [hc] at hh
 cases hh
theorem S_mapped (h : Kd.S d e W base ok v xs) (hm : Mapped base' W w1) : Kd.S d e w1 base ok v xs := by
 obtain ⟨f, h⟩ := h
 exact ⟨f, R_mapped h hm⟩
end

def P (d : Kd S54) (e : Nat) (w : World) (base : Nat) (ok : Nat → Prop) (v : Value) (m : List S54) : Prop :=
 ∃ b, ∃ D : DataW Unit, v = .map (some b) ∧ ok b ∧ base ≤ b ∧ w.ownsMap Try.prog 9 (plainElem Try.prog 3) b m.length D ∧ IsMap D ∧
  ∀ s : ByteArray, Maps.has D (.string s.data.toList) = mapHas m s ∧ D.atKey (.string s.data.toList) (.lit (.int .i64 0)) = .lit (.int .i64 (mapAt m s))
section
variable {d : Kd S54} {e e' base base' : Nat} {ok ok' : Nat → Prop} {w w1 W : World} {v u : Value} {m : List S54}
theorem P_step (h : Kd.P d e w base ok v m) (hm : ∀ b es clock, ok b → w.heap[b]? = some (.map es clock) → w1.heap[b]? = w.heap[b]?) : Kd.P d e w1 base ok v m := by
 obtain ⟨b, D, rfl, ho, hb, ⟨es, clock, hh, hf⟩, hD, hs⟩ := h
 exact ⟨b, D, rfl, ho, hb, ⟨es, clock, (hm b es clock ho hh).trans hh, hf⟩, hD, hs⟩
theorem P_mono (h : Kd.P d e w base ok v m) (hk : ∀ k, ok k → ok' k) : Kd.P d e w base ok' v m := by
 obtain ⟨b, D, rfl, ho, r⟩ := h
 exact ⟨b, D, rfl, hk _ ho, r⟩
theorem P_lower (h : Kd.P d e w base ok v m) (hb : base' ≤ base) : Kd.P d e w base' ok v m := by
 obtain ⟨b, D, rfl, ho, h1, r⟩ := h
 exact ⟨b, D, rfl, ho, Nat.le_trans hb h1, r⟩
theorem P_below (h : Kd.P d e w base ok v m) (hb : Below w.heap.size w w1) : Kd.P d e w1 base ok v m := P_step h (fun b es clock _ hh => hb.block b (blk_lt hh))
theorem P_drew (h : Kd.P d e w base ok v m) : Kd.P d e w.drew base ok v m := P_below h (below_drew (Below.refl _ _))
theorem P_drewN (h : Kd.P d e w base ok v m) (n : Nat) : Kd.P d e (w.drewN n) base ok v m := P_below h (pw_below_drewN (Below.refl _ _) n)
theorem P_far (h : Kd.P d e w base ok v m) {p : Addr} (hok : ∀ k, ok k → k ≠ p.block) (x : Value) : Kd.P d e (w.setCell p x) base ok v m := P_step h (fun b _ _ ho _ => Below.heap_setCell w p x b (hok b ho))
theorem P_types (h : Kd.P d e w base ok v m) {g t : Nat} {cells : Array Value} (hb : w.heap[g]? = some (.cells cells t (0, 0))) (_ht : ∀ q, q ∈ e :: d.E → q ≠ t) : Kd.P d e w base (fun k => ok k ∧ k ≠ g) v m := by
 obtain ⟨b, D, rfl, ho, h1, ⟨es, clock, hh, hf⟩, r⟩ := h
 refine ⟨b, D, rfl, ⟨ho, fun he => ?_⟩, h1, ⟨es, clock, hh, hf⟩, r⟩
 subst he
 rw [hb] at hh
 cases hh
theorem P_over' (h : Kd.P d e W base ok u m) (hty : ∀ k, v.ownBlock = some k → ∃ cells, W.heap[k]? = some (.cells cells e' (0, 0))) (_ht : ∀ q, q ∈ e :: d.E → q ≠ e') (hg : W.grownBy w1 v.ownBlock) : Kd.P d e w1 base ok u m :=
 P_step h (fun b es clock _ hh => hg.block b (blk_lt hh) (fun he => by
  obtain ⟨cells, hc⟩ := hty b he.symm
  rw [hc] at hh
  cases hh))
end

section
variable {ops : Array Oper} {rest : List Oper} {o : Oper} {a : Act} {Q : Exit → Act → World → Prop} {W : World}
theorem P_make (d : Kd S54) {N : Tmp} (hg : o.guard = none) (hop : o.op = Op.makeMap 150 none) (_hN : o.dst = some N)
 (h : ∀ v w1, Kd.P d 150 w1 W.heap.size (fun _ => True) v [] → Below W.heap.size W w1 → wpList Try.prog ops Q rest (a.put o.dst v) w1) : wpList Try.prog ops Q (o :: rest) a W := by
 refine wpList_plain hg fun K hK => ?_
 unfold Oper.wp
 simp only [execOp, hop, Sem.run_bind, Sem.run_pure, Result.andThen]
 refine hK _ _ (h _ _ ⟨W.heap.size, .map [], rfl, trivial, Nat.le_refl _, World.ownsMap_made _ _ _ _, isMap_empty, fun s => ⟨rfl, rfl⟩⟩ (below_alloc (Below.refl _ _) _))
theorem P_look {d : Kd S54} {e base : Nat} {ok : Nat → Prop} {v : Value} {m : List S54} {s : ByteArray} {x y : Operand} (hg : o.guard = none) (hop : o.op = Op.lookup 150 x y true) (hm : a.eval x = v) (hx : a.eval y = .string s)
 (hs : s.size ≤ 9223372036854775807) (h : Kd.P d e W base ok v m) (hK : wpList Try.prog ops Q rest (a.put o.dst (.tuple #[.int .i64 (mapAt m s), .bool (mapHas m s)])) W) : wpList Try.prog ops Q (o :: rest) a W := by
 obtain ⟨b, D, rfl, _, _, hown, hD, hsp⟩ := h
 have hml : maxLen = 9223372036854775807 := by decide
 have zr : (zeroValue 3).run Try.prog W = .ok (.int .i64 0) W := by kernel_rfl
 refine wpList_lookup_own_ok_int (H := Unit) W hg x y 150 hop 9 3 .i64 (string_keyed Try.underlying9) Try.underlying150 Try.underlying3 zr b _ D hm hown (.string s) _ hx (keyOf_string_mk Try.underlying9 (by rw [hml]; exact hs)) ?_
 intro c hc _
 rw [(hsp s).2] at hc
 rw [(hsp s).1]
 have hc' : mapAt m s = c := (Lit.int.inj (DataW.lit.inj hc)).2
 rw [← hc']
 exact hK
theorem P_put {d : Kd S54} {e base : Nat} {ok : Nat → Prop} {v : Value} {m : List S54} {s : ByteArray} {n : Int} {x y z : Operand} (hg : o.guard = none) (hop : o.op = Op.mapUpdate 150 x y z) (hm : a.eval x = v) (hx : a.eval y = .string s) (hz : a.eval z = .int .i64 n)
 (hl : m.length < 9223372036854775807 ∧ s.size ≤ 9223372036854775807 ∧ 0 ≤ n ∧ n ≤ 9223372036854775807) (h : Kd.P d e W base ok v m)
 (hK : ∀ w1, Kd.P d e w1 base ok v (mapPut m s n) → Mapped base W w1 → wpList Try.prog ops Q rest (a.put o.dst undef) w1) : wpList Try.prog ops Q (o :: rest) a W := by
 obtain ⟨b, D, rfl, ho, hb, hown, hD, hsp⟩ := h
 have hml : maxLen = 9223372036854775807 := by decide
 refine wpList_mapUpdate_own (H := Unit) W hg x y z 150 hop 9 3 (string_keyed Try.underlying9) Try.underlying150 _ b _ D hm hown (by rw [hml]; exact hl.1) (.string s) (.int .i64 n) (.string s.data.toList) hx hz (keyOf_string_mk Try.underlying9 (by rw [hml]; exact hl.2.1)) _ [] (plainElem_int Try.underlying3 (WalkArith.wf_i64 (by omega))) ?_
 intro w1 h1 hgw
 obtain ⟨es, clock, hh, _⟩ := hown
 refine hK w1 ⟨b, _, rfl, ho, hb, h1, hD.put _ _, fun t => ?_⟩ ⟨b, es, clock, hb, hh, hgw⟩
 by_cases ht : s.data.toList = t.data.toList
 ·
  rw [← ht]
  refine ⟨?_, ?_⟩
  ·
   rw [has_put_same (k := .string s.data.toList) hD trivial]
   simp only [mapHas, mapPut, List.any_cons, ht, beq_self_eq_true, Bool.true_or]
  ·
   rw [atKey_put_same (k := .string s.data.toList) hD trivial]
   simp only [mapAt, mapPut, List.find?_cons, ht, beq_self_eq_true]
 ·
  have hne : (Lit.string t.data.toList) ≠ .string s.data.toList := fun he => ht (by injection he with he; exact he.symm)
  have hb' : (s.data.toList == t.data.toList) = false := by simpa using ht
  refine ⟨?_, ?_⟩
  ·
   rw [has_put_other hne, (hsp t).1]
   simp only [mapHas, mapPut, List.any_cons, hb', Bool.false_or]
  ·
   rw [atKey_put_other hne, (hsp t).2]
   simp only [mapAt, mapPut, List.find?_cons, hb']
end
end Kd
end Go.Proofs.Ytdlkhpfgkghhmaa.P

-- ==== PF102
namespace Go.Proofs.Ytdlkhpfgkghhmaa.P
open Go.RowKit Go.Proofs.YtdlkhpfgkghhmaaW.PrintWords Go.Proofs.YtdlkhpfgkghhmaaW.PrintLast Go.Proofs.YtdlkhpfgkghhmaaW.PrintMore
attribute [local go_sem] max2_int min2_int max_two min_two max_three min_three max_four min_four

/-! ### match_variable: function 102 -/
def match_variable.f (k : Nat) (a0_0 : ByteArray) (a0_1 : Int) : Option (Bool) := (name_Kind.f k a0_0).bind fun t102 => (some (t102 == 2))
theorem match_variable.mono : ∀ a0 a1 k, LeO (match_variable.f k a0 a1) (match_variable.f (k + 1) a0 a1) := by
 intro a0 a1 k
 unfold match_variable.f
 repeat' first
  | (with_reducible exact name_Kind.mono _ _)
  | (with_reducible exact LeO.refl _)
  | (with_reducible exact LeO.none _)
  | (with_reducible refine LeO.ite ?_ ?_)
  | (with_reducible refine LeO.bind ?_ (fun _ => ?_))
theorem match_variable.calls (k : Nat) (a0_0 : ByteArray) (a0_1 : Int) (r : Bool) (w : World) (h : match_variable.f k a0_0 a0_1 = some r) :
 Calls Try.prog 102 #[.agg #[.string a0_0, .int .i64 a0_1]] w fun e w' => e = .returned (.bool r) ∧ Below w.heap.size w w' := by
 have hu54 := Try.underlying54
 have HB := zM (Below.refl w.heap.size w)
 have H : ((name_Kind.f k a0_0).bind fun t102 => (some (t102 == 2))) = some r := h
 clear h
 replace H := zB H
 obtain ⟨t102, A20, H⟩ := H
 try dsimp only at H
 have A2 := zM A20
 clear A20
 obtain rfl := zS H
 go_enter Try.func102, Try.ntmps102
 go_wp2_with (first | ((with_reducible refine gate_dst (N := 1) rfl ?_); refine box_event ?hg (N := 1) ?hd (cs := #[.string a0_0, .int .i64 a0_1]) (t := 54) ?hr ?_; (case hd => rfl); (case hg => rfl); (case hr => first | (go_simp; done) | (go_simp; rfl)); intro gb101 hg w3 hbox hb; have BK101 := zM (hbox); have GW101 := zM (zh hg : w.heap.size ≤ gb101); have GE101 := zM (zh hg : w.heap.size ≤ gb101); replace HB := zM (below_step zb hb); clear hb hbox hg; have hcz4_0 : w3.cell? ⟨gb101, 0, none⟩ = some (.string a0_0) := (zX BK101.out 0).trans rfl; have hcz4_1 : w3.cell? ⟨gb101, 1, none⟩ = some (.int .i64 a0_1) := (zX BK101.out 1).trans rfl; have hfz4_0 := zY BK101.out 0; have hfz4_1 := zY BK101.out 1) | ((with_reducible refine gate_callee (f := 43) rfl ?_); refine goesL_ (some 5) rfl rfl Try.func43 (by kernel_rfl) rfl #[.string a0_0] rfl zl ?_; (with_reducible refine (name_Kind.calls k a0_0 t102 _ A2.out).mono ?_); rintro e w' ⟨rfl, ⟨nd, rfl⟩⟩; refine ⟨_, rfl, ?_⟩))
 go_ret
 exact ⟨zw, zb⟩


-- ==== PF103

/-! ### match_end: function 103 -/
def match_end.l0 : Nat → List (S54) → Int → Int → Option (Int)
 | 0, _, _, _ => none
 | k + 1, x0, x1, x5 => if x5 > 0 then (if 0 ≤ x1 then (if x1 < (x0.length : Int) then (match_end.l0 k x0 (wrap64 (x1 + 1)) (wrap64 (x5 + (wrap64 (((rd_T54 x0 x1).f1) - 1))))) else (none)) else (none)) else (some x1)
def match_end.f (k : Nat) (l0 : List (S54)) (a1 : Int) : Option (Int) := match_end.l0 k l0 a1 1
theorem match_end.mono_l : ∀ k, (∀ y0 y1 y2, LeO (match_end.l0 k y0 y1 y2) (match_end.l0 (k + 1) y0 y1 y2))
 | 0 => fun _ _ _ r h => by simp [match_end.l0] at h
 | k + 1 => by
  have ih0 := match_end.mono_l k
  ·
   intro y0 y1 y2
   unfold match_end.l0
   repeat' first
   | (with_reducible exact ih0 _ _ _)
   | (with_reducible exact LeO.refl _)
   | (with_reducible exact LeO.none _)
   | (with_reducible refine LeO.ite ?_ ?_)
   | (with_reducible refine LeO.bind ?_ (fun _ => ?_))
theorem match_end.mono : ∀ a0 a1 k, LeO (match_end.f k a0 a1) (match_end.f (k + 1) a0 a1) := by
 intro a0 a1 k
 have ih0 := match_end.mono_l k
 unfold match_end.f
 repeat' first
  | (with_reducible exact ih0 _ _ _)
  | (with_reducible exact LeO.refl _)
  | (with_reducible exact LeO.none _)
  | (with_reducible refine LeO.ite ?_ ?_)
  | (with_reducible refine LeO.bind ?_ (fun _ => ?_))
theorem match_end.calls (k : Nat) (A0 : Option Addr) (c0 : Nat) (l0 : List (S54)) (a1 : Int) (r : Int) (w : World) (hr0 : Kd.C k54 w A0 l0.length l0) (hc0 : l0.length ≤ c0) (h : match_end.f k l0 a1 = some r) :
 Calls Try.prog 103 #[.slice A0 l0.length c0, .int .i64 a1] w fun e w' => e = .returned (.int .i64 r) ∧ Drawn0 w w' := by
 have HR0 := zM hr0
 have HC0 := zM hc0
 clear hr0 hc0
 have H : (match_end.l0 k l0 a1 1) = some r := h
 clear h
 have H' := zM H
 clear H
 go_enter Try.func103, Try.ntmps103
 go_wp2
 go_loopg [1, 5] k (fun kq v1 v5 w' => ∃ (x1_1 : Int) (x5_1 : Int), v1 = .int .i64 x1_1 ∧ v5 = .int .i64 x5_1 ∧ Aside0 (match_end.l0 kq l0 x1_1 x5_1 = some r) ∧ Aside0 (kq ≤ k) ∧ Drawn0 w w')
 case atStart => exact ⟨(a1), (1), zy, zy, H', ⟨Nat.le_refl _⟩, zd⟩
 case round =>
  clear H'
  try clear c1
  try clear p2
  obtain ⟨x1_1, x5_1, rfl, rfl, HA, HK1, ⟨m1, rfl⟩⟩ := hrel
  cases gk with
  | zero => exact absurd HA.out (by simp [match_end.l0])
  | succ k1 =>
   have H := HA.out
   clear HA
   simp only [match_end.l0] at H
   by_cases c3 : x5_1 > 0
   ·
    rw [if_pos c3] at H
    have c3b0 : decide (0 < x5_1) = true := zQ c3
    clear c3
    by_cases c4 : 0 ≤ x1_1
    ·
     rw [if_pos c4] at H
     have c4b0 : decide (0 ≤ x1_1) = true := zQ c4
     clear c4
     by_cases c5 : x1_1 < (l0.length : Int)
     ·
      rw [if_pos c5] at H
      have c5b0 : decide (x1_1 < (l0.length : Int)) = true := zQ c5
      clear c5
      have H' := zM H
      clear H
      have p101 : 0 ≤ (x1_1 : Int) := zT zv
      have q101 : x1_1 < (l0.length : Int) := zT zv
      obtain ⟨ad101, e101, hx101_0, hx101_1⟩ := at_T54 HR0.out x1_1 p101 q101
      cases e101
      replace p101 := eq_true p101
      replace q101 := eq_true q101
      go_wp2
      go_roundg k1
      case measure => have := HK1.out; omega
      case rel => exact ⟨(wrap64 (x1_1 + 1)), (wrap64 (x5_1 + (wrap64 (((rd_T54 l0 x1_1).f1) - 1)))), zy, zy, H', ⟨by have := HK1.out; omega⟩, zd⟩
     ·
      rw [if_neg c5] at H
      exact absurd H (by simp)
    ·
     rw [if_neg c4] at H
     exact absurd H (by simp)
   ·
    rw [if_neg c3] at H
    have c3b0 : decide (0 < x5_1) = false := zR c3
    clear c3
    obtain rfl := zS H
    go_wp2
    go_ret
    exact ⟨zy, zd⟩


-- ==== PF104

attribute [local go_sem high] eqA54
/-! ### api_Cell_104: function 104 -/
def api_Cell_104.l0 : Nat → List (S54) → List (S54) → Int → Int → Option (Bool)
 | 0, _, _, _, _ => none
 | k + 1, x0, x1, x12, x13 => if x13 < x12 then (if 0 ≤ x13 then (if x13 < (x0.length : Int) then (if x13 < (x1.length : Int) then (if (!((((rd_T54 x0 x13).f0).toList) == (((rd_T54 x1 x13).f0).toList)) || (!(((rd_T54 x0 x13).f1) == ((rd_T54 x1 x13).f1)))) = true then (some false) else (api_Cell_104.l0 k x0 x1 x12 (wrap64 (x13 + 1)))) else (none)) else (none)) else (none)) else (some true)
def api_Cell_104.f (k : Nat) (l0 : List (S54)) (l1 : List (S54)) : Option (Bool) := if (l0.length : Int) = (l1.length : Int) then (api_Cell_104.l0 k l0 l1 (l0.length : Int) 0) else (some false)
theorem api_Cell_104.mono_l : ∀ k, (∀ y0 y1 y2 y3, LeO (api_Cell_104.l0 k y0 y1 y2 y3) (api_Cell_104.l0 (k + 1) y0 y1 y2 y3))
 | 0 => fun _ _ _ _ r h => by simp [api_Cell_104.l0] at h
 | k + 1 => by
  have ih0 := api_Cell_104.mono_l k
  ·
   intro y0 y1 y2 y3
   unfold api_Cell_104.l0
   repeat' first
   | (with_reducible exact ih0 _ _ _ _)
   | (with_reducible exact LeO.refl _)
   | (with_reducible exact LeO.none _)
   | (with_reducible refine LeO.ite ?_ ?_)
   | (with_reducible refine LeO.bind ?_ (fun _ => ?_))
theorem api_Cell_104.mono : ∀ a0 a1 k, LeO (api_Cell_104.f k a0 a1) (api_Cell_104.f (k + 1) a0 a1) := by
 intro a0 a1 k
 have ih0 := api_Cell_104.mono_l k
 unfold api_Cell_104.f
 repeat' first
  | (with_reducible exact ih0 _ _ _ _)
  | (with_reducible exact LeO.refl _)
  | (with_reducible exact LeO.none _)
  | (with_reducible refine LeO.ite ?_ ?_)
  | (with_reducible refine LeO.bind ?_ (fun _ => ?_))
theorem api_Cell_104.calls (k : Nat) (A0 : Option Addr) (c0 : Nat) (l0 : List (S54)) (A1 : Option Addr) (c1 : Nat) (l1 : List (S54)) (r : Bool) (w : World) (hr0 : Kd.C k54 w A0 l0.length l0) (hc0 : l0.length ≤ c0) (hr1 : Kd.C k54 w A1 l1.length l1) (hc1 : l1.length ≤ c1) (h : api_Cell_104.f k l0 l1 = some r) :
 Calls Try.prog 104 #[.slice A0 l0.length c0, .slice A1 l1.length c1] w fun e w' => e = .returned (.bool r) ∧ Drawn0 w w' := by
 have hu54 := Try.underlying54
 have HR0 := zM hr0
 have HC0 := zM hc0
 clear hr0 hc0
 have HR1 := zM hr1
 have HC1 := zM hc1
 clear hr1 hc1
 have H : (if (l0.length : Int) = (l1.length : Int) then (api_Cell_104.l0 k l0 l1 (l0.length : Int) 0) else (some false)) = some r := h
 clear h
 by_cases c3 : (l0.length : Int) = (l1.length : Int)
 ·
  rw [if_pos c3] at H
  have c3b0 : ((l0.length : Int) == (l1.length : Int)) = true := zG c3
  have c3b1 : ((l0.length : Int) != (l1.length : Int)) = false := zH c3
  have c3b2 : (l0.length == l1.length) = true := by first | simpa using c3 | (simp at c3 ⊢; omega)
  clear c3
  have H' := zM H
  clear H
  go_enter Try.func104, Try.ntmps104
  go_wp2
  repeat (go_quiet (fail); try go_wp2)
  go_loopg [13] k (fun kq v13 w' => ∃ (x13_1 : Int), v13 = .int .i64 x13_1 ∧ Aside0 (api_Cell_104.l0 kq l0 l1 (l0.length : Int) x13_1 = some r) ∧ Aside0 (kq ≤ k) ∧ Drawn0 w w')
  case atStart => exact ⟨(0), zy, H', ⟨Nat.le_refl _⟩, zd⟩
  case round =>
   clear H'
   try clear c1
   try clear p2
   try clear c3
   try clear c3b0
   try clear c3b1
   try clear c3b2
   obtain ⟨x13_1, rfl, HA, HK1, ⟨m1, rfl⟩⟩ := hrel
   cases gk with
   | zero => exact absurd HA.out (by simp [api_Cell_104.l0])
   | succ k1 =>
    have H := HA.out
    clear HA
    simp only [api_Cell_104.l0] at H
    by_cases c4 : x13_1 < (l0.length : Int)
    ·
     rw [if_pos c4] at H
     have c4b0 : decide (x13_1 < (l0.length : Int)) = true := zQ c4
     clear c4
     by_cases c5 : 0 ≤ x13_1
     ·
      rw [if_pos c5] at H
      have c5b0 : decide (0 ≤ x13_1) = true := zQ c5
      clear c5
      by_cases c6 : x13_1 < (l0.length : Int)
      ·
       rw [if_pos c6] at H
       have c6b0 : decide (x13_1 < (l0.length : Int)) = true := zQ c6
       clear c6
       by_cases c7 : x13_1 < (l1.length : Int)
       ·
        rw [if_pos c7] at H
        have c7b0 : decide (x13_1 < (l1.length : Int)) = true := zQ c7
        clear c7
        by_cases c8 : (!((((rd_T54 l0 x13_1).f0).toList) == (((rd_T54 l1 x13_1).f0).toList)) || (!(((rd_T54 l0 x13_1).f1) == ((rd_T54 l1 x13_1).f1)))) = true
        ·
         rw [if_pos c8] at H
         have c8b0 : (!((((rd_T54 l0 x13_1).f0).toList) == (((rd_T54 l1 x13_1).f0).toList)) || (!(((rd_T54 l0 x13_1).f1) == ((rd_T54 l1 x13_1).f1)))) = true := c8
         clear c8
         obtain rfl := zS H
         have p101 : 0 ≤ (x13_1 : Int) := zT zv
         have q101 : x13_1 < (l0.length : Int) := zT zv
         obtain ⟨ad101, e101, hx101_0, hx101_1⟩ := at_T54 HR0.out x13_1 p101 q101
         cases e101
         replace p101 := eq_true p101
         replace q101 := eq_true q101
         have p102 : 0 ≤ (x13_1 : Int) := zT zv
         have q102 : x13_1 < (l1.length : Int) := zT zv
         obtain ⟨ad102, e102, hx102_0, hx102_1⟩ := at_T54 HR1.out x13_1 p102 q102
         cases e102
         replace p102 := eq_true p102
         replace q102 := eq_true q102
         go_wp2
         repeat (go_quiet (fail); try go_wp2)
         go_ret
         exact ⟨zy, zd⟩
        ·
         rw [if_neg c8] at H
         have c8b0 : (!((((rd_T54 l0 x13_1).f0).toList) == (((rd_T54 l1 x13_1).f0).toList)) || (!(((rd_T54 l0 x13_1).f1) == ((rd_T54 l1 x13_1).f1)))) = false := by simpa using c8
         clear c8
         have H' := zM H
         clear H
         have p101 : 0 ≤ (x13_1 : Int) := zT zv
         have q101 : x13_1 < (l0.length : Int) := zT zv
         obtain ⟨ad101, e101, hx101_0, hx101_1⟩ := at_T54 HR0.out x13_1 p101 q101
         cases e101
         replace p101 := eq_true p101
         replace q101 := eq_true q101
         have p102 : 0 ≤ (x13_1 : Int) := zT zv
         have q102 : x13_1 < (l1.length : Int) := zT zv
         obtain ⟨ad102, e102, hx102_0, hx102_1⟩ := at_T54 HR1.out x13_1 p102 q102
         cases e102
         replace p102 := eq_true p102
         replace q102 := eq_true q102
         go_wp2
         repeat (go_quiet (fail); try go_wp2)
         go_roundg k1
         case measure => have := HK1.out; omega
         case rel => exact ⟨(wrap64 (x13_1 + 1)), zy, H', ⟨by have := HK1.out; omega⟩, zd⟩
       ·
        rw [if_neg c7] at H
        exact absurd H (by simp)
      ·
       rw [if_neg c6] at H
       exact absurd H (by simp)
     ·
      rw [if_neg c5] at H
      exact absurd H (by simp)
    ·
     rw [if_neg c4] at H
     have c4b0 : decide (x13_1 < (l0.length : Int)) = false := zR c4
     clear c4
     obtain rfl := zS H
     go_wp2
     repeat (go_quiet (fail); try go_wp2)
     go_ret
     exact ⟨zy, zd⟩
 ·
  rw [if_neg c3] at H
  have c3b0 : ((l0.length : Int) == (l1.length : Int)) = false := zE c3
  have c3b1 : ((l0.length : Int) != (l1.length : Int)) = true := zF c3
  have c3b2 : (l0.length == l1.length) = false := by first | simpa using c3 | (simp at c3 ⊢; omega)
  obtain rfl := zS H
  go_enter Try.func104, Try.ntmps104
  go_wp2
  repeat (go_quiet (fail); try go_wp2)
  go_ret
  exact ⟨zy, zd⟩

end Go.Proofs.Ytdlkhpfgkghhmaa.P
