/- RewriteOwn: the law answers true at every input that the given row speaks of. Conditions: those of the given row, none besides. (Part 1 of 5; written by programs of this session, which drive the kit's print, and by hand.) -/
import Derived.Test.YtdlkhpfgkghhmaaProg
import Derived.Below
import Derived.Deep.Draws
import Derived.Deep.AppendLies
import Derived.Maps.AppendAt
import Derived.OwnWalk
import Derived.Laws.BytesArg
import Derived.Laws.MakeOwn
import Derived.Laws.OwnMore
import Derived.Deep.OwnRows
import Derived.Tactics
import Derived.Lib.ConvBytes
import Derived.Laws.Slices
import Derived.WalkKit
import Derived.KernelRfl
import Derived.RowKit3
import Derived.Deep.LoopGhost
import Derived.Deep.QuietTactic
import Derived.BigQuiet
import Derived.WideLaws
import Derived.Deep.DeepCutAuto
import Derived.Deep.CutBlock
import Derived.Deep.RegionHeld3
import Derived.Laws.Rows
import Derived.Lib.AppendStr
import Derived.ArgAppend
import Derived.Laws.IdiomCopy
import Derived.OrdersHeld
import Derived.Laws.BitsLemmas
import Derived.RowKit
import Derived.Test.YtdlkhpfgkghhmaaZRewriteOwnUWWords
import Derived.Test.YtdlkhpfgkghhmaaZRewriteOwnUWLast
import Derived.Test.YtdlkhpfgkghhmaaZRewriteOwnUWTab
import Derived.Test.YtdlkhpfgkghhmaaZRewriteOwnUWApart
import Derived.Test.YtdlkhpfgkghhmaaZRewriteOwnUWFoot
import Derived.Test.YtdlkhpfgkghhmaaZRewriteOwnUWKept
import Derived.Test.YtdlkhpfgkghhmaaZRewriteOwnUWShare
import Derived.Test.YtdlkhpfgkghhmaaZRewriteOwnUWN
import Derived.Test.YtdlkhpfgkghhmaaZRewriteOwnUWEqStruct
import Derived.Test.YtdlkhpfgkghhmaaZRewriteOwnUWRepsOne
import Derived.Test.YtdlkhpfgkghhmaaZRewriteOwnUWInv
import Derived.Test.YtdlkhpfgkghhmaaZRewriteOwnUWGuard
import Derived.Test.YtdlkhpfgkghhmaaZRewriteOwnUWNEv
import Derived.Test.YtdlkhpfgkghhmaaZRewriteOwnUWMore
import Derived.WalkSpells
set_option maxHeartbeats 8000000
set_option maxRecDepth 100000
set_option linter.unusedVariables false
set_option linter.unusedSimpArgs false
-- ==== P0
namespace Go.Proofs.Ytdlkhpfgkghhmaa.P
open Go.RowKit Go.Proofs.YtdlkhpfgkghhmaaW.PrintWords Go.Proofs.YtdlkhpfgkghhmaaW.PrintLast Go.Proofs.YtdlkhpfgkghhmaaW.PrintMore
attribute [local go_sem] max2_int min2_int max_two min_two max_three min_three max_four min_four



def errW : Option Int → Value
 | none => .nilIface
 | some c => .iface 0 (.int .i64 c)
theorem errW_none : errW none = .nilIface := rfl
theorem errW_some (c : Int) : errW (some c) = .iface 0 (.int .i64 c) := rfl

theorem info9 : (Try.prog.info? 9).map (fun i => (i.zero, i.size, i.bytes)) = some (some (.string ⟨#[]⟩), 1, 16) := by kernel_rfl
theorem info23 : (Try.prog.info? 23).map (fun i => (i.zero, i.size, i.bytes)) = some (some (.slice none 0 0), 1, 24) := by kernel_rfl
theorem info54 : (Try.prog.info? 54).map (fun i => (i.zero, i.size, i.bytes)) = some (some (.agg #[(.string ⟨#[]⟩), (.int .i64 0)]), 2, 24) := by kernel_rfl
theorem info70 : (Try.prog.info? 70).map (fun i => (i.zero, i.size, i.bytes)) = some (some (.agg #[(.int .i64 0), (.string ⟨#[]⟩), (.int .i64 0), (.slice none 0 0)]), 4, 56) := by kernel_rfl
theorem info73 : (Try.prog.info? 73).map (fun i => (i.zero, i.size, i.bytes)) = some (some (.agg #[(.int .i64 0), (.slice none 0 0), (.slice none 0 0)]), 3, 56) := by kernel_rfl
theorem info104 : (Try.prog.info? 104).map (fun i => (i.zero, i.size, i.bytes)) = some (some (.agg #[(.string ⟨#[]⟩), (.slice none 0 0)]), 2, 40) := by kernel_rfl
structure S54 where
 f0 : ByteArray
 f1 : Int
def z54 : S54 := ⟨(⟨#[]⟩ : ByteArray), (0 : Int)⟩
def k54 : Kd S54 := Kd.iso (Kd.pair Kd.string (Kd.int .i64)) (fun x : S54 => (x.f0, x.f1))
theorem k54_open {w : World} {x : S54} {cs : List Value} (h : k54.K w x cs) : cs = [.string x.f0, .int .i64 x.f1] := by
 obtain ⟨_, _, rfl, rfl, rfl⟩ := h
 exact rfl
theorem k54_openM {w : World} {base : Nat} {ok : Nat → Prop} {x : S54} {cs : List Value} (h : k54.M w base ok x cs) : cs = [.string x.f0, .int .i64 x.f1] := by
 obtain ⟨_, _, rfl, rfl, rfl⟩ := h
 exact rfl
theorem k54_mk (w : World) (x : S54)  : k54.K w x [.string x.f0, .int .i64 x.f1] := ⟨[.string x.f0], [.int .i64 x.f1], rfl, rfl, rfl⟩
theorem k54_mkM (w : World) (base : Nat) (ok : Nat → Prop) (x : S54)  : k54.M w base ok x [.string x.f0, .int .i64 x.f1] := ⟨[.string x.f0], [.int .i64 x.f1], rfl, rfl, rfl⟩
def rd_T54 (xs : List S54) (i : Int) : S54 := xs.getD i.toNat z54
theorem at_T54 {w : World} {A : Option Addr} {n : Nat} {xs : List S54} (h : Kd.C k54 w A n xs) (i : Int) (h0 : 0 ≤ i) (h1 : i < n) : ∃ ad , A = some ad ∧ w.cell? (ad.add (i.toNat * 2)) = some (.string (rd_T54 xs i).f0) ∧ w.cell? ⟨(ad.add (i.toNat * 2)).block, (ad.add (i.toNat * 2)).off + 1, none⟩ = some (.int .i64 (rd_T54 xs i).f1) := by
 obtain ⟨ad, c, e, _, hK, hc0⟩ := Kd.C_get h z54 i h0 h1
 have hc : ∀ j u, c[j]? = some u → w.cell? (ad.add (i.toNat * 2 + j)) = some u := hc0
 obtain rfl := k54_open hK
 exact ⟨ad, e, hc 0 _ rfl, by rw [← add_field _ _ 1 (by omega)]; exact hc 1 _ rfl⟩

def rd_L3 (xs : List (List S54)) (i : Int) : (List S54) := xs.getD i.toNat ([] : List S54)
theorem at_L3 {w : World} {A : Option Addr} {n : Nat} {xs : List (List S54)} (h : Kd.C (Kd.slice 54 k54) w A n xs) (i : Int) (h0 : 0 ≤ i) (h1 : i < n) : ∃ ad A0 c0, A = some ad ∧ w.cell? (ad.add i.toNat) = some (.slice A0 (rd_L3 xs i).length c0) ∧ (rd_L3 xs i).length ≤ c0 ∧ k54.C w A0 (rd_L3 xs i).length (rd_L3 xs i) := by
 obtain ⟨ad, c, e, _, hK, hc0⟩ := Kd.C_get h ([] : List S54) i h0 h1
 have hc : ∀ j u, c[j]? = some u → w.cell? (ad.add (i.toNat * 1 + j)) = some u := hc0
 obtain ⟨A0, c0, rfl, l0, g0⟩ := hK
 exact ⟨ad, A0, c0, e, by have hq := hc 0 _ rfl; rwa [Nat.mul_one, Nat.add_zero] at hq, l0, g0⟩

structure S70 where
 f0 : Int
 f1 : S54
 f2 : (List S54)
def z70 : S70 := ⟨(0 : Int), z54, ([] : List S54)⟩
def k70 : Kd S70 := Kd.iso (Kd.pair (Kd.int .i64) (Kd.pair k54 (Kd.slice 54 k54))) (fun x : S70 => (x.f0, x.f1, x.f2))
theorem k70_open {w : World} {x : S70} {cs : List Value} (h : k70.K w x cs) : ∃ A3 c3, cs = [.int .i64 x.f0, .string x.f1.f0, .int .i64 x.f1.f1, .slice A3 x.f2.length c3] ∧ x.f2.length ≤ c3 ∧ k54.C w A3 x.f2.length x.f2 := by
 obtain ⟨_, _, rfl, rfl, ⟨_, _, rfl, s1, ⟨A3, c3, rfl, l3, g3⟩⟩⟩ := h
 obtain rfl := k54_open s1
 exact ⟨A3, c3, rfl, l3, g3⟩
theorem k70_openM {w : World} {base : Nat} {ok : Nat → Prop} {x : S70} {cs : List Value} (h : k70.M w base ok x cs) : ∃ v3, cs = [.int .i64 x.f0, .string x.f1.f0, .int .i64 x.f1.f1, v3] ∧ k54.R 54 w base ok v3 x.f2 := by
 obtain ⟨_, _, rfl, rfl, ⟨_, _, rfl, s1, ⟨v3, rfl, g3⟩⟩⟩ := h
 obtain rfl := k54_openM s1
 exact ⟨v3, rfl, g3⟩
theorem k70_mk (w : World) (x : S70) {A3 : Option Addr} {c3 : Nat} (l3 : x.f2.length ≤ c3) (g3 : k54.C w A3 x.f2.length x.f2) : k70.K w x [.int .i64 x.f0, .string x.f1.f0, .int .i64 x.f1.f1, .slice A3 x.f2.length c3] := ⟨[.int .i64 x.f0], [.string x.f1.f0, .int .i64 x.f1.f1, .slice A3 x.f2.length c3], rfl, rfl, ⟨[.string x.f1.f0, .int .i64 x.f1.f1], [.slice A3 x.f2.length c3], rfl, (k54_mk w x.f1 ), ⟨A3, c3, rfl, l3, g3⟩⟩⟩
theorem k70_mkM (w : World) (base : Nat) (ok : Nat → Prop) (x : S70) {v3 : Value} (g3 : k54.R 54 w base ok v3 x.f2) : k70.M w base ok x [.int .i64 x.f0, .string x.f1.f0, .int .i64 x.f1.f1, v3] := ⟨[.int .i64 x.f0], [.string x.f1.f0, .int .i64 x.f1.f1, v3], rfl, rfl, ⟨[.string x.f1.f0, .int .i64 x.f1.f1], [v3], rfl, (k54_mkM w base ok x.f1 ), ⟨v3, rfl, g3⟩⟩⟩
theorem k70_openF {W : World} {ok : Nat → Prop} {x : S70} {cs : List Value} (h : Kd.FK k70 W ok x cs) : ∃ A3 c3, cs = [.int .i64 x.f0, .string x.f1.f0, .int .i64 x.f1.f1, .slice A3 x.f2.length c3] ∧ x.f2.length ≤ c3 ∧ Kd.F k54 W ok A3 x.f2.length x.f2 := by
 obtain ⟨A3, c3, rfl, l3, _⟩ := k70_open (Kd.FK_now h)
 exact ⟨A3, c3, rfl, l3, (fun W' hW => by obtain ⟨A3_, c3_, he, l3_, g3_⟩ := k70_open (h W' hW); injection (Option.some.inj (show some (Value.slice A3 x.f2.length c3) = some (Value.slice A3_ x.f2.length c3_) from congrArg (fun l => l[3]?) he)) with ha_ _ _; rw [ha_]; exact g3_)⟩
theorem k70_mkF (W : World) (ok : Nat → Prop) (x : S70) {A3 : Option Addr} {c3 : Nat} (l3 : x.f2.length ≤ c3) (g3 : Kd.F k54 W ok A3 x.f2.length x.f2) : Kd.FK k70 W ok x [.int .i64 x.f0, .string x.f1.f0, .int .i64 x.f1.f1, .slice A3 x.f2.length c3] := fun W2 hW => k70_mk W2 x l3 (g3 W2 hW)
def rd_T70 (xs : List S70) (i : Int) : S70 := xs.getD i.toNat z70
theorem at_T70 {w : World} {A : Option Addr} {n : Nat} {xs : List S70} (h : Kd.C k70 w A n xs) (i : Int) (h0 : 0 ≤ i) (h1 : i < n) : ∃ ad A3 c3, A = some ad ∧ w.cell? (ad.add (i.toNat * 4)) = some (.int .i64 (rd_T70 xs i).f0) ∧ w.cell? ⟨(ad.add (i.toNat * 4)).block, (ad.add (i.toNat * 4)).off + 1, none⟩ = some (.string (rd_T70 xs i).f1.f0) ∧ w.cell? ⟨(ad.add (i.toNat * 4)).block, (ad.add (i.toNat * 4)).off + 2, none⟩ = some (.int .i64 (rd_T70 xs i).f1.f1) ∧ w.cell? ⟨(ad.add (i.toNat * 4)).block, (ad.add (i.toNat * 4)).off + 3, none⟩ = some (.slice A3 (rd_T70 xs i).f2.length c3) ∧ (rd_T70 xs i).f2.length ≤ c3 ∧ k54.C w A3 (rd_T70 xs i).f2.length (rd_T70 xs i).f2 := by
 obtain ⟨ad, c, e, _, hK, hc0⟩ := Kd.C_get h z70 i h0 h1
 have hc : ∀ j u, c[j]? = some u → w.cell? (ad.add (i.toNat * 4 + j)) = some u := hc0
 obtain ⟨A3, c3, rfl, l3, g3⟩ := k70_open hK
 exact ⟨ad, A3, c3, e, hc 0 _ rfl, by rw [← add_field _ _ 1 (by omega)]; exact hc 1 _ rfl, by rw [← add_field _ _ 2 (by omega)]; exact hc 2 _ rfl, by rw [← add_field _ _ 3 (by omega)]; exact hc 3 _ rfl, l3, g3⟩

structure S28 where
 f0 : (List S70)
 f1 : (List (List S54))
 f2 : Int
 f3 : (List ByteArray)
def k28 : Kd S28 := Kd.iso (Kd.pair (Kd.slice 70 k70) (Kd.pair (Kd.slice 23 (Kd.slice 54 k54)) (Kd.pair (Kd.int .i64) (Kd.slice 9 Kd.string)))) (fun x : S28 => (x.f0, x.f1, x.f2, x.f3))
theorem k28_open {w : World} {x : S28} {cs : List Value} (h : k28.K w x cs) : ∃ A0 c0 A1 c1 A3 c3, cs = [.slice A0 x.f0.length c0, .slice A1 x.f1.length c1, .int .i64 x.f2, .slice A3 x.f3.length c3] ∧ x.f0.length ≤ c0 ∧ k70.C w A0 x.f0.length x.f0 ∧ x.f1.length ≤ c1 ∧ (Kd.slice 54 k54).C w A1 x.f1.length x.f1 ∧ x.f3.length ≤ c3 ∧ Kd.string.C w A3 x.f3.length x.f3 := by
 obtain ⟨_, _, rfl, ⟨A0, c0, rfl, l0, g0⟩, ⟨_, _, rfl, ⟨A1, c1, rfl, l1, g1⟩, ⟨_, _, rfl, rfl, ⟨A3, c3, rfl, l3, g3⟩⟩⟩⟩ := h
 exact ⟨A0, c0, A1, c1, A3, c3, rfl, l0, g0, l1, g1, l3, g3⟩
structure S73 where
 f0 : Int
 f1 : (List S54)
 f2 : (List S54)
def z73 : S73 := ⟨(0 : Int), ([] : List S54), ([] : List S54)⟩
def k73 : Kd S73 := Kd.iso (Kd.pair (Kd.int .i64) (Kd.pair (Kd.slice 54 k54) (Kd.slice 54 k54))) (fun x : S73 => (x.f0, x.f1, x.f2))
theorem k73_open {w : World} {x : S73} {cs : List Value} (h : k73.K w x cs) : ∃ A1 c1 A2 c2, cs = [.int .i64 x.f0, .slice A1 x.f1.length c1, .slice A2 x.f2.length c2] ∧ x.f1.length ≤ c1 ∧ k54.C w A1 x.f1.length x.f1 ∧ x.f2.length ≤ c2 ∧ k54.C w A2 x.f2.length x.f2 := by
 obtain ⟨_, _, rfl, rfl, ⟨_, _, rfl, ⟨A1, c1, rfl, l1, g1⟩, ⟨A2, c2, rfl, l2, g2⟩⟩⟩ := h
 exact ⟨A1, c1, A2, c2, rfl, l1, g1, l2, g2⟩
theorem k73_mk (w : World) (x : S73) {A1 : Option Addr} {c1 : Nat} (l1 : x.f1.length ≤ c1) (g1 : k54.C w A1 x.f1.length x.f1) {A2 : Option Addr} {c2 : Nat} (l2 : x.f2.length ≤ c2) (g2 : k54.C w A2 x.f2.length x.f2) : k73.K w x [.int .i64 x.f0, .slice A1 x.f1.length c1, .slice A2 x.f2.length c2] := ⟨[.int .i64 x.f0], [.slice A1 x.f1.length c1, .slice A2 x.f2.length c2], rfl, rfl, ⟨[.slice A1 x.f1.length c1], [.slice A2 x.f2.length c2], rfl, ⟨A1, c1, rfl, l1, g1⟩, ⟨A2, c2, rfl, l2, g2⟩⟩⟩
theorem k73_mkM (w : World) (base : Nat) (ok : Nat → Prop) (x : S73) {v1 : Value} (g1 : k54.R 54 w base ok v1 x.f1) {v2 : Value} (g2 : k54.R 54 w base ok v2 x.f2) : k73.M w base ok x [.int .i64 x.f0, v1, v2] := ⟨[.int .i64 x.f0], [v1, v2], rfl, rfl, ⟨[v1], [v2], rfl, ⟨v1, rfl, g1⟩, ⟨v2, rfl, g2⟩⟩⟩
theorem k73_mkF (W : World) (ok : Nat → Prop) (x : S73) {A1 : Option Addr} {c1 : Nat} (l1 : x.f1.length ≤ c1) (g1 : Kd.F k54 W ok A1 x.f1.length x.f1) {A2 : Option Addr} {c2 : Nat} (l2 : x.f2.length ≤ c2) (g2 : Kd.F k54 W ok A2 x.f2.length x.f2) : Kd.FK k73 W ok x [.int .i64 x.f0, .slice A1 x.f1.length c1, .slice A2 x.f2.length c2] := fun W2 hW => k73_mk W2 x l1 (g1 W2 hW) l2 (g2 W2 hW)
def rd_T73 (xs : List S73) (i : Int) : S73 := xs.getD i.toNat z73
theorem at_T73 {w : World} {A : Option Addr} {n : Nat} {xs : List S73} (h : Kd.C k73 w A n xs) (i : Int) (h0 : 0 ≤ i) (h1 : i < n) : ∃ ad A1 c1 A2 c2, A = some ad ∧ w.cell? (ad.add (i.toNat * 3)) = some (.int .i64 (rd_T73 xs i).f0) ∧ w.cell? ⟨(ad.add (i.toNat * 3)).block, (ad.add (i.toNat * 3)).off + 1, none⟩ = some (.slice A1 (rd_T73 xs i).f1.length c1) ∧ w.cell? ⟨(ad.add (i.toNat * 3)).block, (ad.add (i.toNat * 3)).off + 2, none⟩ = some (.slice A2 (rd_T73 xs i).f2.length c2) ∧ (rd_T73 xs i).f1.length ≤ c1 ∧ k54.C w A1 (rd_T73 xs i).f1.length (rd_T73 xs i).f1 ∧ (rd_T73 xs i).f2.length ≤ c2 ∧ k54.C w A2 (rd_T73 xs i).f2.length (rd_T73 xs i).f2 := by
 obtain ⟨ad, c, e, _, hK, hc0⟩ := Kd.C_get h z73 i h0 h1
 have hc : ∀ j u, c[j]? = some u → w.cell? (ad.add (i.toNat * 3 + j)) = some u := hc0
 obtain ⟨A1, c1, A2, c2, rfl, l1, g1, l2, g2⟩ := k73_open hK
 exact ⟨ad, A1, c1, A2, c2, e, hc 0 _ rfl, by rw [← add_field _ _ 1 (by omega)]; exact hc 1 _ rfl, by rw [← add_field _ _ 2 (by omega)]; exact hc 2 _ rfl, l1, g1, l2, g2⟩

structure S104 where
 f0 : ByteArray
 f1 : (List S54)
def z104 : S104 := ⟨(⟨#[]⟩ : ByteArray), ([] : List S54)⟩
def k104 : Kd S104 := Kd.iso (Kd.pair Kd.string (Kd.slice 54 k54)) (fun x : S104 => (x.f0, x.f1))
theorem k104_open {w : World} {x : S104} {cs : List Value} (h : k104.K w x cs) : ∃ A1 c1, cs = [.string x.f0, .slice A1 x.f1.length c1] ∧ x.f1.length ≤ c1 ∧ k54.C w A1 x.f1.length x.f1 := by
 obtain ⟨_, _, rfl, rfl, ⟨A1, c1, rfl, l1, g1⟩⟩ := h
 exact ⟨A1, c1, rfl, l1, g1⟩
theorem k104_openM {w : World} {base : Nat} {ok : Nat → Prop} {x : S104} {cs : List Value} (h : k104.M w base ok x cs) : ∃ v1, cs = [.string x.f0, v1] ∧ k54.R 54 w base ok v1 x.f1 := by
 obtain ⟨_, _, rfl, rfl, ⟨v1, rfl, g1⟩⟩ := h
 exact ⟨v1, rfl, g1⟩
theorem k104_mkM (w : World) (base : Nat) (ok : Nat → Prop) (x : S104) {v1 : Value} (g1 : k54.R 54 w base ok v1 x.f1) : k104.M w base ok x [.string x.f0, v1] := ⟨[.string x.f0], [v1], rfl, rfl, ⟨v1, rfl, g1⟩⟩
def rd_T104 (xs : List S104) (i : Int) : S104 := xs.getD i.toNat z104
theorem at_T104 {w : World} {A : Option Addr} {n : Nat} {xs : List S104} (h : Kd.C k104 w A n xs) (i : Int) (h0 : 0 ≤ i) (h1 : i < n) : ∃ ad A1 c1, A = some ad ∧ w.cell? (ad.add (i.toNat * 2)) = some (.string (rd_T104 xs i).f0) ∧ w.cell? ⟨(ad.add (i.toNat * 2)).block, (ad.add (i.toNat * 2)).off + 1, none⟩ = some (.slice A1 (rd_T104 xs i).f1.length c1) ∧ (rd_T104 xs i).f1.length ≤ c1 ∧ k54.C w A1 (rd_T104 xs i).f1.length (rd_T104 xs i).f1 := by
 obtain ⟨ad, c, e, _, hK, hc0⟩ := Kd.C_get h z104 i h0 h1
 have hc : ∀ j u, c[j]? = some u → w.cell? (ad.add (i.toNat * 2 + j)) = some u := hc0
 obtain ⟨A1, c1, rfl, l1, g1⟩ := k104_open hK
 exact ⟨ad, A1, c1, e, hc 0 _ rfl, by rw [← add_field _ _ 1 (by omega)]; exact hc 1 _ rfl, l1, g1⟩

structure S52 where
 f0 : (List S54)
 f1 : (List S54)
 f2 : (List ByteArray)
end Go.Proofs.Ytdlkhpfgkghhmaa.P

-- ==== A0
namespace Go.Proofs.Ytdlkhpfgkghhmaa.P
open Go.RowKit Go.Proofs.YtdlkhpfgkghhmaaW.PrintWords
theorem zA {w W : World} (h : Below w.heap.size w W) (o : Obj) : Below w.heap.size w (W.alloc o) := below_alloc h o
theorem zN {B : Nat} {w W : World} (h : Below B w W) (n : Nat) : Below B w (W.drewN n) := pw_below_drewN h n
theorem zD {base : Nat} {w W : World} (h : Below base w W) : Below base w W.drew := below_drew1 h
theorem zM {p : Prop} (h : p) : Aside0 p := ⟨h⟩
theorem zT {p : Prop} [Decidable p] (h : decide p = true) : p := of_decide_eq_true h
theorem zB {α β : Type} {x : Option α} {f : α → Option β} {b : β} (h : x.bind f = some b) : ∃ a, x = some a ∧ f a = some b := Option.bind_eq_some_iff.mp h
theorem zE {α : Type} [BEq α] [LawfulBEq α] {a b : α} (h : a ≠ b) : (a == b) = false := beq_eq_false_iff_ne.mpr h
theorem zF {α : Type} [BEq α] [LawfulBEq α] {a b : α} (h : a ≠ b) : (a != b) = true := bne_iff_ne.mpr h
theorem zG {α : Type} [BEq α] [LawfulBEq α] {a b : α} (h : a = b) : (a == b) = true := beq_iff_eq.mpr h
theorem zH {α : Type} [BEq α] [LawfulBEq α] {a b : α} (h : a = b) : (a != b) = false := bne_eq_false_iff_eq.mpr h
theorem zQ {p : Prop} [Decidable p] (h : p) : decide p = true := decide_eq_true h
theorem zR {p : Prop} [Decidable p] (h : ¬ p) : decide p = false := decide_eq_false h
theorem zS {α : Type} {a b : α} (h : some a = some b) : a = b := Option.some.inj h
theorem zX {w : World} {g : Nat} {t : TypeId} {cs : Array Value} (h : w.heap[g]? = some (.cells cs t (0, 0))) (i : Nat) : w.cell? ⟨g, i, none⟩ = cs[i]? := blk_cell h i
theorem zY {w : World} {g : Nat} {t : TypeId} {cs : Array Value} (h : w.heap[g]? = some (.cells cs t (0, 0))) (i : Nat) : w.frozen? ⟨g, i, none⟩ = false := blk_frozen h i
theorem zc4 {w : World} {g : Nat} {t : TypeId} {cs : Array Value} (h : w.heap[g]? = some (.cells cs t (0, 0))) : w.cell? ⟨g, 0, none⟩ = cs[0]? ∧ w.cell? ⟨g, 1, none⟩ = cs[1]? ∧ w.cell? ⟨g, 2, none⟩ = cs[2]? ∧ w.cell? ⟨g, 3, none⟩ = cs[3]? := ⟨blk_cell h 0, blk_cell h 1, blk_cell h 2, blk_cell h 3⟩
theorem zf4 {w : World} {g : Nat} {t : TypeId} {cs : Array Value} (h : w.heap[g]? = some (.cells cs t (0, 0))) : w.frozen? ⟨g, 0, none⟩ = false ∧ w.frozen? ⟨g, 1, none⟩ = false ∧ w.frozen? ⟨g, 2, none⟩ = false ∧ w.frozen? ⟨g, 3, none⟩ = false := ⟨blk_frozen h 0, blk_frozen h 1, blk_frozen h 2, blk_frozen h 3⟩
theorem zcf {w : World} {g : Nat} {t : TypeId} {cs : Array Value} (h : w.heap[g]? = some (.cells cs t (0, 0))) : w.cell? ⟨g, 0, none⟩ = cs[0]? ∧ w.cell? ⟨g, 1, none⟩ = cs[1]? ∧ w.cell? ⟨g, 2, none⟩ = cs[2]? ∧ w.cell? ⟨g, 3, none⟩ = cs[3]? ∧ w.frozen? ⟨g, 0, none⟩ = false ∧ w.frozen? ⟨g, 1, none⟩ = false ∧ w.frozen? ⟨g, 2, none⟩ = false ∧ w.frozen? ⟨g, 3, none⟩ = false := ⟨blk_cell h 0, blk_cell h 1, blk_cell h 2, blk_cell h 3, blk_frozen h 0, blk_frozen h 1, blk_frozen h 2, blk_frozen h 3⟩
theorem zg {w W : World} (h : Below w.heap.size w W := by with_reducible (repeat (first | apply zA | apply zN | apply zD)); exact Below.refl _ _) : Below w.heap.size w W := h
theorem zk {w W : World} {g : Nat} {o : Obj} (h : w.heap[g]? = some o) (s : Below w.heap.size w W := by exact zg) : W.heap[g]? = some o := blk_below h s
theorem zr {α : Type} {d : Kd α} {e base : Nat} {w W : World} {ok : Nat → Prop} {v : Value} {xs : List α} (h : d.R e w base ok v xs) (s : Below w.heap.size w W := by exact zg) : d.R e W base ok v xs := Kd.R_below h s
theorem zb {w W : World} (h : Below w.heap.size w W := by repeat (first | (with_reducible first | exact HB.out | apply zA | apply zN | apply zD | refine below_set ?_ (Aside0.out (by assumption)) | refine below_set ?_ (IsS93.ge HI0.out)) | exact HB.out)) : Below w.heap.size w W := h
theorem zv {p : Prop} (h : p := by first | (with_reducible assumption) | assumption) : p := h
theorem zl {p : Prop} (h : p := by (try simp only [List.map_toArray, List.map_cons, List.map_nil]); first | done | rfl) : p := h
theorem zy {p : Prop} (h : p := by first | rfl | (simp; done) | (simp [*]; done)) : p := h
theorem zd {w W : World} (h : Drawn0 w W := by repeat (first | exact Drawn0.refl _ | apply Drawn0.step)) : Drawn0 w W := h
theorem zh {w W : World} {g : Nat} (hg : g = W.heap.size) (h : Below w.heap.size w W := by exact zb) : w.heap.size ≤ g := by rw [hg]; exact h.size
theorem ze {w W : World} {g : Nat} {row : Option Nat} (h : KeepBut w W g row := by repeat (first | (with_reducible first | exact HK.out | apply KeepBut.set_ | apply keep_drewN | apply keep_drew | apply keep_alloc) | exact HK.out)) : KeepBut w W g row := h
theorem zf {w W : World} {S : Nat → Prop} (h : Kept w W S := by repeat (first | (with_reducible first | exact HK.out | apply Kept.alloc | apply Kept.drewN | apply Kept.drew) | exact HK.out)) : Kept w W S := h
theorem zw {p : Prop} (h : p := by first | rfl | (simp [errW_none, errW_some] <;> rfl) | (simp [*, errW_none, errW_some] <;> rfl)) : p := h
theorem zi {p : Prop} (h : p := by repeat (first | (with_reducible first | exact HI0.out | apply IsS93.alloc | apply IsS93.drewN | apply IsS93.drew | apply IsS93.set_0 | apply IsS93.set_1) | exact HI0.out)) : p := h
theorem zI {b : Bool} (h : b ≠ true) : b = false := Bool.eq_false_iff.mpr h
theorem zq {n : Nat} {w0 w W : World} (h : Below n w0 w) (s : Below n w0 w → Below n w0 W := by intro h_; repeat (first | exact h_ | apply pw_below_drewN | apply below_drew1 | apply below_alloc)) : Below n w0 W := s h
theorem zp1 {α : Type} (l : List α) (i : Nat) (a : α) : l.toArray.setIfInBounds i a = (l.set i a).toArray := List.setIfInBounds_toArray ..
theorem zp2 {α : Type} (a b : α) (l : List α) : (a :: l).set 0 b = b :: l := List.set_cons_zero
theorem zp3 {α : Type} (a b : α) (l : List α) (n : Nat) : (a :: l).set (n + 1) b = a :: l.set n b := List.set_cons_succ
end Go.Proofs.Ytdlkhpfgkghhmaa.P

-- ==== PF71
namespace Go.Proofs.Ytdlkhpfgkghhmaa.P
open Go.RowKit Go.Proofs.YtdlkhpfgkghhmaaW.PrintWords Go.Proofs.YtdlkhpfgkghhmaaW.PrintLast Go.Proofs.YtdlkhpfgkghhmaaW.PrintMore
attribute [local go_sem] max2_int min2_int max_two min_two max_three min_three max_four min_four

def api_Cell_71.f (l0 : List (S54)) : Option ((List (S54))) := if ([] : List (S54)).length + l0.length < 5864062014805 then some (([] : List (S54)) ++ l0) else none
theorem api_Cell_71.calls (A0 : Option Addr) (c0 : Nat) (l0 : List (S54)) (r : List (S54)) (w : World) (hr0 : Kd.C k54 w A0 l0.length l0) (hc0 : l0.length ≤ c0) (h : api_Cell_71.f l0 = some r) :
 Calls Try.prog 71 #[.slice A0 l0.length c0] w fun e w' => ∃ v0_ : Value, e = .returned (v0_) ∧ Kd.R k54 54 w' w.heap.size (fun _ => True) v0_ r ∧ Below w.heap.size w w' := by
 have HR0 := zM hr0
 have HC0 := zM hc0
 have HB := zM (Below.refl w.heap.size w)
 unfold api_Cell_71.f at h
 by_cases c2 : ([] : List (S54)).length + l0.length < 5864062014805
 ·
  rw [if_pos c2] at h
  have LMc2 := zM c2
  obtain rfl := zS h
  clear c2 h hc0
  have hnil := fun (W : World) (n c : Nat) => Lib.run_eql_slice_nil (P := Try.prog) W 23 54 A0 n c 0 0 Try.underlying23
  cases A0 with
  | none =>
   have hnil' : ∀ (W : World) (n c : Nat), Sem.run Try.prog (binOp BinOp.eql 23 (.slice none n c) (.slice none 0 0)) W = Result.ok (Value.bool true) W := hnil
   clear hnil
   have h0 : l0 = [] := by
    rcases Nat.eq_zero_or_pos l0.length with h0 | h0
    ·
     exact List.eq_nil_of_length_eq_zero h0
    ·
     obtain ⟨ad, h1, _⟩ := hr0.2.2 h0
     cases h1
   subst h0
   clear hr0 HR0 HC0 LMc2
   go_enter Try.func71, Try.ntmps71
   go_wp2
   go_ret
   exact ⟨_, rfl, Kd.R_nil _ _ _ _ _, Below.refl _ _⟩
  | some ad =>
   have hnil' : ∀ (W : World) (n c : Nat), Sem.run Try.prog (binOp BinOp.eql 23 (.slice (some ad) n c) (.slice none 0 0)) W = Result.ok (Value.bool false) W := hnil
   clear hnil
   clear hr0
   obtain ⟨y129, hy129⟩ : ∃ y_ : List (S54), y_ = (([] : List (S54)) ++ l0) := ⟨_, rfl⟩
   have Ny129 := zM hy129
   rw [← hy129]
   clear hy129
   have HE : ∀ W : World, Kd.R k54 54 (W.alloc (.cells #[] 54)) W.heap.size (fun _ => True) (.slice (some ⟨W.heap.size, 0, none⟩) 0 0) [] := fun W =>
    ⟨fun _ _ => trivial, [], World.ownsRow_lit (base := W.heap.size) (e := 54) (size := 2) W #[] 0 (Nat.le_refl _) (Nat.zero_le _) rfl, Reps.none _ _⟩
   have HE' := zM HE
   clear HE
   go_enter Try.func71, Try.ntmps71
   go_wp2_with (first | ((with_reducible refine gate_builtin (b := .append) (xs := #[.tmp 5, .tmp 6]) rfl ?_); at_builtin; refine Kd.R_append_rows k54 (w0 := w) w.heap.size rfl (.tmp 5) (.tmp 6) 23 54 (.agg #[(.string ⟨#[]⟩), (.int .i64 0)]) 24 rfl Try.underlying23 info54 rfl (by decide) (by omega) (.slice (some ⟨w.heap.size, 0, none⟩) 0 0) ([] : List (S54)) l0 _ _ _ (fun _ => True) (fun _ => False) rfl rfl ?aO ?aR (fun _ _ h => h) (fun _ h => h.elim) ?aF ?aB ?aS ?aL ?_; (case aR => exact Kd.C_alloc HR0.out _); (case aB => exact zb); (case aF => exact (fun _ _ => trivial)); (case aO => exact HE'.out w); (case aS => exact (below_size zb)); (case aL => have := LMc2.out; omega); intro v130 w3 ho hb hg hat; rw [← Ny129.out] at ho; replace HB := zM (hb); have HO131 := zM (ho); clear ho hb hg hat))
   go_ret
   exact ⟨_, zw, zr HO131.out, zb⟩
 ·
  rw [if_neg c2] at h
  cases h



-- ==== PF68

mutual
def name_sign.j0 : Nat → Int → Bool → Option (Int × Int)
 | 0, _, _ => none
 | k + 1, x0, x4 => if x4 = true then (some (1, 1)) else (if x0 ≥ 65 then (name_sign.j1 k x0 (decide (x0 ≤ 90))) else (name_sign.j1 k x0 false))
def name_sign.j1 : Nat → Int → Bool → Option (Int × Int)
 | 0, _, _ => none
 | k + 1, x0, x11 => if x11 = true then (some (2, 2)) else (if x0 ≥ 48 then (if x0 ≤ 57 then (some (0, 3)) else (some (0, 0))) else (some (0, 0)))
end
def name_sign.f (k : Nat) (a0 : Int) : Option (Int × Int) := if a0 ≥ 97 then (name_sign.j0 k a0 (decide (a0 ≤ 122))) else (name_sign.j0 k a0 false)
theorem name_sign.mono_l : ∀ k, (∀ y0 y1, LeO (name_sign.j0 k y0 y1) (name_sign.j0 (k + 1) y0 y1)) ∧ (∀ y0 y1, LeO (name_sign.j1 k y0 y1) (name_sign.j1 (k + 1) y0 y1))
 | 0 => ⟨fun _ _ r h => by simp [name_sign.j0] at h, fun _ _ r h => by simp [name_sign.j1] at h⟩
 | k + 1 => by
  obtain ⟨ih0, ih1⟩ := name_sign.mono_l k
  refine ⟨?_, ?_⟩
  ·
   intro y0 y1
   unfold name_sign.j0
   repeat' first
   | (with_reducible exact ih0 _ _)
   | (with_reducible exact ih1 _ _)
   | (with_reducible exact LeO.refl _)
   | (with_reducible exact LeO.none _)
   | (with_reducible refine LeO.ite ?_ ?_)
   | (with_reducible refine LeO.bind ?_ (fun _ => ?_))
  ·
   intro y0 y1
   unfold name_sign.j1
   repeat' first
   | (with_reducible exact ih0 _ _)
   | (with_reducible exact ih1 _ _)
   | (with_reducible exact LeO.refl _)
   | (with_reducible exact LeO.none _)
   | (with_reducible refine LeO.ite ?_ ?_)
   | (with_reducible refine LeO.bind ?_ (fun _ => ?_))
theorem name_sign.mono : ∀ a0 k, LeO (name_sign.f k a0) (name_sign.f (k + 1) a0) := by
 intro a0 k
 obtain ⟨ih0, ih1⟩ := name_sign.mono_l k
 unfold name_sign.f
 repeat' first
  | (with_reducible exact ih0 _ _)
  | (with_reducible exact ih1 _ _)
  | (with_reducible exact LeO.refl _)
  | (with_reducible exact LeO.none _)
  | (with_reducible refine LeO.ite ?_ ?_)
  | (with_reducible refine LeO.bind ?_ (fun _ => ?_))
theorem name_sign.calls (k : Nat) (a0 : Int) (r1 : Int) (r2 : Int) (w : World) (h : name_sign.f k a0 = some (r1, r2)) :
 Calls Try.prog 68 #[.int .u8 a0] w fun e w' => e = .returned (.tuple #[.int .i64 r1, .int .i64 r2]) ∧ Drawn0 w w' := by
 have H : (if a0 ≥ 97 then (name_sign.j0 k a0 (decide (a0 ≤ 122))) else (name_sign.j0 k a0 false)) = some (r1, r2) := h
 clear h
 have HC2 := zM H
 clear H
 go_enter Try.func68, Try.ntmps68
 go_upto_region 1 with (fail)
 go_cut [4] (fun v4 wc => ∃ (kq : Nat) (x4_1 : Bool), v4 = .bool x4_1 ∧ Aside0 (name_sign.j0 kq a0 x4_1 = some (r1, r2)) ∧ Aside0 (kq ≤ k) ∧ Drawn0 w wc)
 case first =>
  have H := HC2.out
  clear HC2
  by_cases c3 : a0 ≥ 97
  ·
   rw [if_pos c3] at H
   have c3b0 : decide (97 ≤ a0) = true := zQ c3
   clear c3
   (first | rw [c3b0] | (simp only [i64_w, i32_w]; rw [c3b0]) | skip)
   have H' := zM H
   clear H
   go_wp2
   go_meet
   case rel => exact ⟨_, (decide (a0 ≤ 122)), zy, H', ⟨by first | omega | exact Nat.le_refl _⟩, zd⟩
  ·
   rw [if_neg c3] at H
   have c3b0 : decide (97 ≤ a0) = false := zR c3
   clear c3
   (first | rw [c3b0] | (simp only [i64_w, i32_w]; rw [c3b0]) | skip)
   have H' := zM H
   clear H
   go_wp2
   go_meet
   case rel => exact ⟨_, (false), zy, H', ⟨by first | omega | exact Nat.le_refl _⟩, zd⟩
 case rest =>
  clear HC2
  try clear p2
  try clear c3
  try clear c3b0
  obtain ⟨kq, x4_1, rfl, HA, HJ1, ⟨mc1, rfl⟩⟩ := hcut
  cases kq with
  | zero => exact absurd HA.out (by simp [name_sign.j0])
  | succ kj1 =>
   have H := HA.out
   clear HA
   simp only [name_sign.j0] at H
   by_cases c4 : x4_1 = true
   ·
    subst c4
    rw [if_pos rfl] at H
    simp only [Option.some.injEq, Prod.mk.injEq] at H
    obtain ⟨rfl, rfl⟩ := H
    go_wp2
    go_ret2
    exact ⟨zy, zd⟩
   ·
    replace c4 := zI c4
    subst c4
    rw [if_neg (show ¬ (false = true) by decide)] at H
    have HC5 := zM H
    clear H
    go_upto_region 3 with (fail)
    go_cut [11] (fun v11 wc => ∃ (kq : Nat) (x11_4 : Bool), v11 = .bool x11_4 ∧ Aside0 (name_sign.j1 kq a0 x11_4 = some (r1, r2)) ∧ Aside0 (kq ≤ kj1) ∧ Drawn0 w wc)
    case first =>
     have H := HC5.out
     clear HC5
     by_cases c6 : a0 ≥ 65
     ·
      rw [if_pos c6] at H
      have c6b0 : decide (65 ≤ a0) = true := zQ c6
      clear c6
      (first | rw [c6b0] | (simp only [i64_w, i32_w]; rw [c6b0]) | skip)
      have H' := zM H
      clear H
      go_wp2
      go_meet
      case rel => exact ⟨_, (decide (a0 ≤ 90)), zy, H', ⟨by have := HJ1.out; first | omega | exact Nat.le_refl _⟩, zd⟩
     ·
      rw [if_neg c6] at H
      have c6b0 : decide (65 ≤ a0) = false := zR c6
      clear c6
      (first | rw [c6b0] | (simp only [i64_w, i32_w]; rw [c6b0]) | skip)
      have H' := zM H
      clear H
      go_wp2
      go_meet
      case rel => exact ⟨_, (false), zy, H', ⟨by have := HJ1.out; first | omega | exact Nat.le_refl _⟩, zd⟩
    case rest =>
     clear HC5
     try clear c1
     try clear p2
     try clear c3
     try clear c3b0
     try clear c4
     try clear c6
     try clear c6b0
     try clear p2
     obtain ⟨kq, x11_4, rfl, HA, HJ4, ⟨mc4, rfl⟩⟩ := hcut
     cases kq with
     | zero => exact absurd HA.out (by simp [name_sign.j1])
     | succ kj4 =>
      have H := HA.out
      clear HA
      simp only [name_sign.j1] at H
      by_cases c7 : x11_4 = true
      ·
       subst c7
       rw [if_pos rfl] at H
       simp only [Option.some.injEq, Prod.mk.injEq] at H
       obtain ⟨rfl, rfl⟩ := H
       go_wp2
       go_ret2
       exact ⟨zy, zd⟩
      ·
       replace c7 := zI c7
       subst c7
       rw [if_neg (show ¬ (false = true) by decide)] at H
       by_cases c8 : a0 ≥ 48
       ·
        rw [if_pos c8] at H
        have c8b0 : decide (48 ≤ a0) = true := zQ c8
        clear c8
        by_cases c9 : a0 ≤ 57
        ·
         rw [if_pos c9] at H
         have c9b0 : decide (a0 ≤ 57) = true := zQ c9
         clear c9
         simp only [Option.some.injEq, Prod.mk.injEq] at H
         obtain ⟨rfl, rfl⟩ := H
         go_wp2
         go_ret2
         exact ⟨zy, zd⟩
        ·
         rw [if_neg c9] at H
         have c9b0 : decide (a0 ≤ 57) = false := zR c9
         clear c9
         simp only [Option.some.injEq, Prod.mk.injEq] at H
         obtain ⟨rfl, rfl⟩ := H
         go_wp2
         go_ret2
         exact ⟨zy, zd⟩
       ·
        rw [if_neg c8] at H
        have c8b0 : decide (48 ≤ a0) = false := zR c8
        clear c8
        simp only [Option.some.injEq, Prod.mk.injEq] at H
        obtain ⟨rfl, rfl⟩ := H
        go_wp2
        go_ret2
        exact ⟨zy, zd⟩


-- ==== PF43

mutual
def name_Kind.j0 : Nat → ByteArray → Bool → Option (Int)
 | 0, _, _ => none
 | k + 1, x0, x14 => if x14 = true then (some 0) else (if 0 < (x0.size : Int) then ((name_sign.f k (bt x0 0)).bind fun bt101 => (name_Kind.l0 k x0 bt101.1 (x0.size : Int) 0)) else (none))
def name_Kind.l0 : Nat → ByteArray → Int → Int → Int → Option (Int)
 | 0, _, _, _, _ => none
 | k + 1, x0, x3, x22, x23 => if x23 < x22 then (if 0 ≤ x23 then (if x23 < (x0.size : Int) then ((name_sign.f k (bt x0 x23)).bind fun bt103 => (if (Go.bits .and .i64 bt103.2 x3) = 0 then (some 0) else (name_Kind.l0 k x0 x3 x22 (wrap64 (x23 + 1))))) else (none)) else (none)) else (some x3)
end
def name_Kind.f (k : Nat) (a0 : ByteArray) : Option (Int) := if a0.toList = ([] : List UInt8) then (name_Kind.j0 k a0 true) else (name_Kind.j0 k a0 (decide ((a0.size : Int) > 8)))
theorem name_Kind.mono_l : ∀ k, (∀ y0 y1, LeO (name_Kind.j0 k y0 y1) (name_Kind.j0 (k + 1) y0 y1)) ∧ (∀ y0 y1 y2 y3, LeO (name_Kind.l0 k y0 y1 y2 y3) (name_Kind.l0 (k + 1) y0 y1 y2 y3))
 | 0 => ⟨fun _ _ r h => by simp [name_Kind.j0] at h, fun _ _ _ _ r h => by simp [name_Kind.l0] at h⟩
 | k + 1 => by
  obtain ⟨ih0, ih1⟩ := name_Kind.mono_l k
  refine ⟨?_, ?_⟩
  ·
   intro y0 y1
   unfold name_Kind.j0
   repeat' first
   | (with_reducible exact ih0 _ _)
   | (with_reducible exact ih1 _ _ _ _)
   | (with_reducible exact name_sign.mono _ _)
   | (with_reducible exact LeO.refl _)
   | (with_reducible exact LeO.none _)
   | (with_reducible refine LeO.ite ?_ ?_)
   | (with_reducible refine LeO.bind ?_ (fun _ => ?_))
  ·
   intro y0 y1 y2 y3
   unfold name_Kind.l0
   repeat' first
   | (with_reducible exact ih0 _ _)
   | (with_reducible exact ih1 _ _ _ _)
   | (with_reducible exact name_sign.mono _ _)
   | (with_reducible exact LeO.refl _)
   | (with_reducible exact LeO.none _)
   | (with_reducible refine LeO.ite ?_ ?_)
   | (with_reducible refine LeO.bind ?_ (fun _ => ?_))
theorem name_Kind.mono : ∀ a0 k, LeO (name_Kind.f k a0) (name_Kind.f (k + 1) a0) := by
 intro a0 k
 obtain ⟨ih0, ih1⟩ := name_Kind.mono_l k
 unfold name_Kind.f
 repeat' first
  | (with_reducible exact ih0 _ _)
  | (with_reducible exact ih1 _ _ _ _)
  | (with_reducible exact name_sign.mono _ _)
  | (with_reducible exact LeO.refl _)
  | (with_reducible exact LeO.none _)
  | (with_reducible refine LeO.ite ?_ ?_)
  | (with_reducible refine LeO.bind ?_ (fun _ => ?_))
theorem name_Kind.calls (k : Nat) (a0 : ByteArray) (r : Int) (w : World) (h : name_Kind.f k a0 = some r) :
 Calls Try.prog 43 #[.string a0] w fun e w' => e = .returned (.int .i64 r) ∧ Drawn0 w w' := by
 have H : (if a0.toList = ([] : List UInt8) then (name_Kind.j0 k a0 true) else (name_Kind.j0 k a0 (decide ((a0.size : Int) > 8)))) = some r := h
 clear h
 have HC2 := zM H
 clear H
 go_enter Try.func43, Try.ntmps43
 go_upto_region 1 with (fail)
 go_cut [14] (fun v14 wc => ∃ (kq : Nat) (x14_1 : Bool), v14 = .bool x14_1 ∧ Aside0 (name_Kind.j0 kq a0 x14_1 = some r) ∧ Aside0 (kq ≤ k) ∧ Drawn0 w wc)
 case first =>
  have H := HC2.out
  clear HC2
  by_cases c3 : a0.toList = ([] : List UInt8)
  ·
   rw [if_pos c3] at H
   have c3b0 : (a0.toList == ([] : List UInt8)) = true := zG c3
   have c3b1 : (a0.toList != ([] : List UInt8)) = false := zH c3
   clear c3
   (first | rw [c3b0] | (simp only [i64_w, i32_w]; rw [c3b0]) | skip)
   have H' := zM H
   clear H
   go_wp2
   go_meet
   case rel => exact ⟨_, (true), zy, H', ⟨by first | omega | exact Nat.le_refl _⟩, zd⟩
  ·
   rw [if_neg c3] at H
   have c3b0 : (a0.toList == ([] : List UInt8)) = false := zE c3
   have c3b1 : (a0.toList != ([] : List UInt8)) = true := zF c3
   (first | rw [c3b0] | (simp only [i64_w, i32_w]; rw [c3b0]) | skip)
   have H' := zM H
   clear H
   go_wp2
   go_meet
   case rel => exact ⟨_, (decide ((a0.size : Int) > 8)), zy, H', ⟨by first | omega | exact Nat.le_refl _⟩, zd⟩
 case rest =>
  clear HC2
  try clear p2
  try clear c3
  try clear c3b0
  try clear c3b1
  obtain ⟨kq, x14_1, rfl, HA, HJ1, ⟨mc1, rfl⟩⟩ := hcut
  cases kq with
  | zero => exact absurd HA.out (by simp [name_Kind.j0])
  | succ kj1 =>
   have H := HA.out
   clear HA
   simp only [name_Kind.j0] at H
   by_cases c4 : x14_1 = true
   ·
    subst c4
    rw [if_pos rfl] at H
    obtain rfl := zS H
    go_wp2
    go_ret
    exact ⟨zy, zd⟩
   ·
    replace c4 := zI c4
    subst c4
    rw [if_neg (show ¬ (false = true) by decide)] at H
    by_cases c5 : 0 < (a0.size : Int)
    ·
     rw [if_pos c5] at H
     have c5b0 : decide (0 < (a0.size : Int)) = true := zQ c5
     have c5b1 : decide (0 < a0.size) = true := zQ (by omega)
     clear c5
     replace H := zB H
     obtain ⟨⟨t101, t102⟩, A70, H⟩ := H
     try dsimp only at H
     have A7 := zM A70
     clear A70
     have H' := zM H
     clear H
     have p6 : 0 ≤ (0 : Int) := (by omega)
     have q6 : 0 < a0.size := (by have : (0 : Int) < (a0.size : Int) := zT zv; omega)
     have hx6 : ∀ h : 0 < a0.size, ((a0[0]'h).toNat : Int) = bt a0 0 := bt_at a0 0
     clear p6
     have qi6 : (0 < (a0.size : Int)) = True := eq_true (zT zv)
     replace q6 := eq_true q6
     go_wp2_with (first | ((with_reducible refine gate_callee (f := 68) rfl ?_); refine goesL_ (some 18) rfl rfl Try.func68 (by kernel_rfl) rfl #[.int .u8 (bt a0 0)] rfl zl ?_; (with_reducible refine (name_sign.calls kj1 (bt a0 0) t101 t102 _ A7.out).mono ?_); rintro e w' ⟨rfl, ⟨nd, rfl⟩⟩; refine ⟨_, rfl, ?_⟩))
     go_loopg [23] kj1 (fun kq v23 w' => ∃ (x23_2 : Int), v23 = .int .i64 x23_2 ∧ Aside0 (name_Kind.l0 kq a0 t101 (a0.size : Int) x23_2 = some r) ∧ Aside0 (kq ≤ kj1) ∧ Drawn0 w w')
     case atStart => exact ⟨(0), zy, H', ⟨Nat.le_refl _⟩, zd⟩
     case round =>
      clear H'
      try clear c1
      try clear p2
      try clear c3
      try clear c3b0
      try clear c3b1
      try clear c4
      try clear c5
      try clear c5b0
      try clear c5b1
      try clear c6
      try clear p6
      try clear q6
      try clear hx6
      try clear qi6
      try clear p2
      try clear p6
      try clear q6
      obtain ⟨x23_2, rfl, HA, HK2, ⟨m2, rfl⟩⟩ := hrel
      cases gk with
      | zero => exact absurd HA.out (by simp [name_Kind.l0])
      | succ k2 =>
       have H := HA.out
       clear HA
       simp only [name_Kind.l0] at H
       by_cases c8 : x23_2 < (a0.size : Int)
       ·
        rw [if_pos c8] at H
        have c8b0 : decide (x23_2 < (a0.size : Int)) = true := zQ c8
        clear c8
        by_cases c9 : 0 ≤ x23_2
        ·
         rw [if_pos c9] at H
         have c9b0 : decide (0 ≤ x23_2) = true := zQ c9
         clear c9
         by_cases c10 : x23_2 < (a0.size : Int)
         ·
          rw [if_pos c10] at H
          have c10b0 : decide (x23_2 < (a0.size : Int)) = true := zQ c10
          clear c10
          replace H := zB H
          obtain ⟨⟨t103, t104⟩, A120, H⟩ := H
          try dsimp only at H
          have A12 := zM A120
          clear A120
          by_cases c13 : (Go.bits .and .i64 t104 t101) = 0
          ·
           rw [if_pos c13] at H
           have c13b0 : ((Go.bits .and .i64 t104 t101) == 0) = true := zG c13
           have c13b1 : ((Go.bits .and .i64 t104 t101) != 0) = false := zH c13
           clear c13
           obtain rfl := zS H
           have p11 : 0 ≤ (x23_2 : Int) := zT zv
           have q11 : x23_2 < (a0.size : Int) := zT zv
           have hx11 := bt_at a0 x23_2
           replace p11 := eq_true p11
           replace q11 := eq_true q11
           go_wp2_with (first | ((with_reducible refine gate_callee (f := 68) rfl ?_); refine goesL_ (some 30) rfl rfl Try.func68 (by kernel_rfl) rfl #[.int .u8 (bt a0 x23_2)] rfl zl ?_; (with_reducible refine (name_sign.calls k2 (bt a0 x23_2) t103 t104 _ A12.out).mono ?_); rintro e w' ⟨rfl, ⟨nd, rfl⟩⟩; refine ⟨_, rfl, ?_⟩))
           go_ret
           exact ⟨zy, zd⟩
          ·
           rw [if_neg c13] at H
           have c13b0 : ((Go.bits .and .i64 t104 t101) == 0) = false := zE c13
           have c13b1 : ((Go.bits .and .i64 t104 t101) != 0) = true := zF c13
           have H' := zM H
           clear H
           have p11 : 0 ≤ (x23_2 : Int) := zT zv
           have q11 : x23_2 < (a0.size : Int) := zT zv
           have hx11 := bt_at a0 x23_2
           replace p11 := eq_true p11
           replace q11 := eq_true q11
           go_wp2_with (first | ((with_reducible refine gate_callee (f := 68) rfl ?_); refine goesL_ (some 30) rfl rfl Try.func68 (by kernel_rfl) rfl #[.int .u8 (bt a0 x23_2)] rfl zl ?_; (with_reducible refine (name_sign.calls k2 (bt a0 x23_2) t103 t104 _ A12.out).mono ?_); rintro e w' ⟨rfl, ⟨nd, rfl⟩⟩; refine ⟨_, rfl, ?_⟩))
           go_roundg k2
           case measure => have := HJ1.out; have := HK2.out; omega
           case rel => exact ⟨(wrap64 (x23_2 + 1)), zy, H', ⟨by have := HJ1.out; have := HK2.out; omega⟩, zd⟩
         ·
          rw [if_neg c10] at H
          exact absurd H (by simp)
        ·
         rw [if_neg c9] at H
         exact absurd H (by simp)
       ·
        rw [if_neg c8] at H
        have c8b0 : decide (x23_2 < (a0.size : Int)) = false := zR c8
        clear c8
        obtain rfl := zS H
        go_wp2
        go_ret
        exact ⟨zy, zd⟩
    ·
     rw [if_neg c5] at H
     exact absurd H (by simp)


-- ==== PF60

def term_cell.f (k : Nat) (a0_0 : ByteArray) (a0_1 : Int) : Option (Int) := (name_Kind.f k a0_0).bind fun t102 => (if t102 = 0 then (some 4) else (if a0_1 < 0 then (some 5) else (if a0_1 > 4 then (some 5) else (if t102 = 2 then (if a0_1 > 0 then (some 5) else (some 0)) else (some 0)))))
theorem term_cell.mono : ∀ a0 a1 k, LeO (term_cell.f k a0 a1) (term_cell.f (k + 1) a0 a1) := by
 intro a0 a1 k
 unfold term_cell.f
 repeat' first
  | (with_reducible exact name_Kind.mono _ _)
  | (with_reducible exact LeO.refl _)
  | (with_reducible exact LeO.none _)
  | (with_reducible refine LeO.ite ?_ ?_)
  | (with_reducible refine LeO.bind ?_ (fun _ => ?_))
theorem term_cell.calls (k : Nat) (a0_0 : ByteArray) (a0_1 : Int) (r : Int) (w : World) (h : term_cell.f k a0_0 a0_1 = some r) :
 Calls Try.prog 60 #[.agg #[.string a0_0, .int .i64 a0_1]] w fun e w' => e = .returned (.int .i64 r) ∧ Below w.heap.size w w' := by
 have hu54 := Try.underlying54
 have HB := zM (Below.refl w.heap.size w)
 have H : ((name_Kind.f k a0_0).bind fun t102 => (if t102 = 0 then (some 4) else (if a0_1 < 0 then (some 5) else (if a0_1 > 4 then (some 5) else (if t102 = 2 then (if a0_1 > 0 then (some 5) else (some 0)) else (some 0)))))) = some r := h
 clear h
 replace H := zB H
 obtain ⟨t102, A20, H⟩ := H
 try dsimp only at H
 have A2 := zM A20
 clear A20
 by_cases c3 : t102 = 0
 ·
  rw [if_pos c3] at H
  have c3b0 : (t102 == 0) = true := zG c3
  have c3b1 : (t102 != 0) = false := zH c3
  clear c3
  obtain rfl := zS H
  go_enter Try.func60, Try.ntmps60
  go_wp2_with (first | ((with_reducible refine gate_dst (N := 1) rfl ?_); refine box_event ?hg (N := 1) ?hd (cs := #[.string a0_0, .int .i64 a0_1]) (t := 54) ?hr ?_; (case hd => rfl); (case hg => rfl); (case hr => first | (go_simp; done) | (go_simp; rfl)); intro gb101 hg w4 hbox hb; have BK101 := zM (hbox); have GW101 := zM (zh hg : w.heap.size ≤ gb101); have GE101 := zM (zh hg : w.heap.size ≤ gb101); replace HB := zM (below_step zb hb); clear hb hbox hg; have hcz5_0 : w4.cell? ⟨gb101, 0, none⟩ = some (.string a0_0) := (zX BK101.out 0).trans rfl; have hcz5_1 : w4.cell? ⟨gb101, 1, none⟩ = some (.int .i64 a0_1) := (zX BK101.out 1).trans rfl; have hfz5_0 := zY BK101.out 0; have hfz5_1 := zY BK101.out 1) | ((with_reducible refine gate_callee (f := 43) rfl ?_); refine goesL_ (some 6) rfl rfl Try.func43 (by kernel_rfl) rfl #[.string a0_0] rfl zl ?_; (with_reducible refine (name_Kind.calls k a0_0 t102 _ A2.out).mono ?_); rintro e w' ⟨rfl, ⟨nd, rfl⟩⟩; refine ⟨_, rfl, ?_⟩))
  go_ret
  exact ⟨zw, zb⟩
 ·
  rw [if_neg c3] at H
  have c3b0 : (t102 == 0) = false := zE c3
  have c3b1 : (t102 != 0) = true := zF c3
  by_cases c6 : a0_1 < 0
  ·
   rw [if_pos c6] at H
   have c6b0 : decide (a0_1 < 0) = true := zQ c6
   clear c6
   obtain rfl := zS H
   go_enter Try.func60, Try.ntmps60
   go_wp2_with (first | ((with_reducible refine gate_dst (N := 1) rfl ?_); refine box_event ?hg (N := 1) ?hd (cs := #[.string a0_0, .int .i64 a0_1]) (t := 54) ?hr ?_; (case hd => rfl); (case hg => rfl); (case hr => first | (go_simp; done) | (go_simp; rfl)); intro gb101 hg w7 hbox hb; have BK101 := zM (hbox); have GW101 := zM (zh hg : w.heap.size ≤ gb101); have GE101 := zM (zh hg : w.heap.size ≤ gb101); replace HB := zM (below_step zb hb); clear hb hbox hg; have hcz8_0 : w7.cell? ⟨gb101, 0, none⟩ = some (.string a0_0) := (zX BK101.out 0).trans rfl; have hcz8_1 : w7.cell? ⟨gb101, 1, none⟩ = some (.int .i64 a0_1) := (zX BK101.out 1).trans rfl; have hfz8_0 := zY BK101.out 0; have hfz8_1 := zY BK101.out 1) | ((with_reducible refine gate_callee (f := 43) rfl ?_); refine goesL_ (some 6) rfl rfl Try.func43 (by kernel_rfl) rfl #[.string a0_0] rfl zl ?_; (with_reducible refine (name_Kind.calls k a0_0 t102 _ A2.out).mono ?_); rintro e w' ⟨rfl, ⟨nd, rfl⟩⟩; refine ⟨_, rfl, ?_⟩))
   go_ret
   exact ⟨zw, zb⟩
  ·
   rw [if_neg c6] at H
   have c6b0 : decide (a0_1 < 0) = false := zR c6
   clear c6
   by_cases c9 : a0_1 > 4
   ·
    rw [if_pos c9] at H
    have c9b0 : decide (4 < a0_1) = true := zQ c9
    clear c9
    obtain rfl := zS H
    go_enter Try.func60, Try.ntmps60
    go_wp2_with (first | ((with_reducible refine gate_dst (N := 1) rfl ?_); refine box_event ?hg (N := 1) ?hd (cs := #[.string a0_0, .int .i64 a0_1]) (t := 54) ?hr ?_; (case hd => rfl); (case hg => rfl); (case hr => first | (go_simp; done) | (go_simp; rfl)); intro gb101 hg w10 hbox hb; have BK101 := zM (hbox); have GW101 := zM (zh hg : w.heap.size ≤ gb101); have GE101 := zM (zh hg : w.heap.size ≤ gb101); replace HB := zM (below_step zb hb); clear hb hbox hg; have hcz11_0 : w10.cell? ⟨gb101, 0, none⟩ = some (.string a0_0) := (zX BK101.out 0).trans rfl; have hcz11_1 : w10.cell? ⟨gb101, 1, none⟩ = some (.int .i64 a0_1) := (zX BK101.out 1).trans rfl; have hfz11_0 := zY BK101.out 0; have hfz11_1 := zY BK101.out 1) | ((with_reducible refine gate_callee (f := 43) rfl ?_); refine goesL_ (some 6) rfl rfl Try.func43 (by kernel_rfl) rfl #[.string a0_0] rfl zl ?_; (with_reducible refine (name_Kind.calls k a0_0 t102 _ A2.out).mono ?_); rintro e w' ⟨rfl, ⟨nd, rfl⟩⟩; refine ⟨_, rfl, ?_⟩))
    go_ret
    exact ⟨zw, zb⟩
   ·
    rw [if_neg c9] at H
    have c9b0 : decide (4 < a0_1) = false := zR c9
    clear c9
    by_cases c12 : t102 = 2
    ·
     rw [if_pos c12] at H
     have c12b0 : (t102 == 2) = true := zG c12
     have c12b1 : (t102 != 2) = false := zH c12
     clear c12
     by_cases c13 : a0_1 > 0
     ·
      rw [if_pos c13] at H
      have c13b0 : decide (0 < a0_1) = true := zQ c13
      clear c13
      obtain rfl := zS H
      go_enter Try.func60, Try.ntmps60
      go_wp2_with (first | ((with_reducible refine gate_dst (N := 1) rfl ?_); refine box_event ?hg (N := 1) ?hd (cs := #[.string a0_0, .int .i64 a0_1]) (t := 54) ?hr ?_; (case hd => rfl); (case hg => rfl); (case hr => first | (go_simp; done) | (go_simp; rfl)); intro gb101 hg w14 hbox hb; have BK101 := zM (hbox); have GW101 := zM (zh hg : w.heap.size ≤ gb101); have GE101 := zM (zh hg : w.heap.size ≤ gb101); replace HB := zM (below_step zb hb); clear hb hbox hg; have hcz15_0 : w14.cell? ⟨gb101, 0, none⟩ = some (.string a0_0) := (zX BK101.out 0).trans rfl; have hcz15_1 : w14.cell? ⟨gb101, 1, none⟩ = some (.int .i64 a0_1) := (zX BK101.out 1).trans rfl; have hfz15_0 := zY BK101.out 0; have hfz15_1 := zY BK101.out 1) | ((with_reducible refine gate_callee (f := 43) rfl ?_); refine goesL_ (some 6) rfl rfl Try.func43 (by kernel_rfl) rfl #[.string a0_0] rfl zl ?_; (with_reducible refine (name_Kind.calls k a0_0 t102 _ A2.out).mono ?_); rintro e w' ⟨rfl, ⟨nd, rfl⟩⟩; refine ⟨_, rfl, ?_⟩))
      go_ret
      exact ⟨zw, zb⟩
     ·
      rw [if_neg c13] at H
      have c13b0 : decide (0 < a0_1) = false := zR c13
      clear c13
      obtain rfl := zS H
      go_enter Try.func60, Try.ntmps60
      go_wp2_with (first | ((with_reducible refine gate_dst (N := 1) rfl ?_); refine box_event ?hg (N := 1) ?hd (cs := #[.string a0_0, .int .i64 a0_1]) (t := 54) ?hr ?_; (case hd => rfl); (case hg => rfl); (case hr => first | (go_simp; done) | (go_simp; rfl)); intro gb101 hg w16 hbox hb; have BK101 := zM (hbox); have GW101 := zM (zh hg : w.heap.size ≤ gb101); have GE101 := zM (zh hg : w.heap.size ≤ gb101); replace HB := zM (below_step zb hb); clear hb hbox hg; have hcz17_0 : w16.cell? ⟨gb101, 0, none⟩ = some (.string a0_0) := (zX BK101.out 0).trans rfl; have hcz17_1 : w16.cell? ⟨gb101, 1, none⟩ = some (.int .i64 a0_1) := (zX BK101.out 1).trans rfl; have hfz17_0 := zY BK101.out 0; have hfz17_1 := zY BK101.out 1) | ((with_reducible refine gate_callee (f := 43) rfl ?_); refine goesL_ (some 6) rfl rfl Try.func43 (by kernel_rfl) rfl #[.string a0_0] rfl zl ?_; (with_reducible refine (name_Kind.calls k a0_0 t102 _ A2.out).mono ?_); rintro e w' ⟨rfl, ⟨nd, rfl⟩⟩; refine ⟨_, rfl, ?_⟩))
      go_ret
      exact ⟨zw, zb⟩
    ·
     rw [if_neg c12] at H
     have c12b0 : (t102 == 2) = false := zE c12
     have c12b1 : (t102 != 2) = true := zF c12
     obtain rfl := zS H
     go_enter Try.func60, Try.ntmps60
     go_wp2_with (first | ((with_reducible refine gate_dst (N := 1) rfl ?_); refine box_event ?hg (N := 1) ?hd (cs := #[.string a0_0, .int .i64 a0_1]) (t := 54) ?hr ?_; (case hd => rfl); (case hg => rfl); (case hr => first | (go_simp; done) | (go_simp; rfl)); intro gb101 hg w18 hbox hb; have BK101 := zM (hbox); have GW101 := zM (zh hg : w.heap.size ≤ gb101); have GE101 := zM (zh hg : w.heap.size ≤ gb101); replace HB := zM (below_step zb hb); clear hb hbox hg; have hcz19_0 : w18.cell? ⟨gb101, 0, none⟩ = some (.string a0_0) := (zX BK101.out 0).trans rfl; have hcz19_1 : w18.cell? ⟨gb101, 1, none⟩ = some (.int .i64 a0_1) := (zX BK101.out 1).trans rfl; have hfz19_0 := zY BK101.out 0; have hfz19_1 := zY BK101.out 1) | ((with_reducible refine gate_callee (f := 43) rfl ?_); refine goesL_ (some 6) rfl rfl Try.func43 (by kernel_rfl) rfl #[.string a0_0] rfl zl ?_; (with_reducible refine (name_Kind.calls k a0_0 t102 _ A2.out).mono ?_); rintro e w' ⟨rfl, ⟨nd, rfl⟩⟩; refine ⟨_, rfl, ?_⟩))
     go_ret
     exact ⟨zw, zb⟩


-- ==== PF61

def term_behind.l0 : Nat → List (S54) → Int → Int → Option (Int)
 | 0, _, _, _ => none
 | k + 1, x0, x1, x5 => if x5 > 0 then (if x1 ≥ (x0.length : Int) then (some (-1)) else (if 0 ≤ x1 then (if x1 < (x0.length : Int) then (term_behind.l0 k x0 (wrap64 (x1 + 1)) (wrap64 (x5 + (wrap64 (((rd_T54 x0 x1).f1) - 1))))) else (none)) else (none))) else (some x1)
def term_behind.f (k : Nat) (l0 : List (S54)) (a1 : Int) : Option (Int) := term_behind.l0 k l0 a1 1
theorem term_behind.mono_l : ∀ k, (∀ y0 y1 y2, LeO (term_behind.l0 k y0 y1 y2) (term_behind.l0 (k + 1) y0 y1 y2))
 | 0 => fun _ _ _ r h => by simp [term_behind.l0] at h
 | k + 1 => by
  have ih0 := term_behind.mono_l k
  ·
   intro y0 y1 y2
   unfold term_behind.l0
   repeat' first
   | (with_reducible exact ih0 _ _ _)
   | (with_reducible exact LeO.refl _)
   | (with_reducible exact LeO.none _)
   | (with_reducible refine LeO.ite ?_ ?_)
   | (with_reducible refine LeO.bind ?_ (fun _ => ?_))
theorem term_behind.mono : ∀ a0 a1 k, LeO (term_behind.f k a0 a1) (term_behind.f (k + 1) a0 a1) := by
 intro a0 a1 k
 have ih0 := term_behind.mono_l k
 unfold term_behind.f
 repeat' first
  | (with_reducible exact ih0 _ _ _)
  | (with_reducible exact LeO.refl _)
  | (with_reducible exact LeO.none _)
  | (with_reducible refine LeO.ite ?_ ?_)
  | (with_reducible refine LeO.bind ?_ (fun _ => ?_))
theorem term_behind.calls (k : Nat) (A0 : Option Addr) (c0 : Nat) (l0 : List (S54)) (a1 : Int) (r : Int) (w : World) (hr0 : Kd.C k54 w A0 l0.length l0) (hc0 : l0.length ≤ c0) (h : term_behind.f k l0 a1 = some r) :
 Calls Try.prog 61 #[.slice A0 l0.length c0, .int .i64 a1] w fun e w' => e = .returned (.int .i64 r) ∧ Drawn0 w w' := by
 have HR0 := zM hr0
 have HC0 := zM hc0
 clear hr0 hc0
 have H : (term_behind.l0 k l0 a1 1) = some r := h
 clear h
 have H' := zM H
 clear H
 go_enter Try.func61, Try.ntmps61
 go_wp2
 go_loopg [1, 5] k (fun kq v1 v5 w' => ∃ (x1_1 : Int) (x5_1 : Int), v1 = .int .i64 x1_1 ∧ v5 = .int .i64 x5_1 ∧ Aside0 (term_behind.l0 kq l0 x1_1 x5_1 = some r) ∧ Aside0 (kq ≤ k) ∧ Drawn0 w w')
 case atStart => exact ⟨(a1), (1), zy, zy, H', ⟨Nat.le_refl _⟩, zd⟩
 case round =>
  clear H'
  try clear p2
  obtain ⟨x1_1, x5_1, rfl, rfl, HA, HK1, ⟨m1, rfl⟩⟩ := hrel
  cases gk with
  | zero => exact absurd HA.out (by simp [term_behind.l0])
  | succ k1 =>
   have H := HA.out
   clear HA
   simp only [term_behind.l0] at H
   by_cases c3 : x5_1 > 0
   ·
    rw [if_pos c3] at H
    have c3b0 : decide (0 < x5_1) = true := zQ c3
    clear c3
    by_cases c4 : x1_1 ≥ (l0.length : Int)
    ·
     rw [if_pos c4] at H
     have c4b0 : decide ((l0.length : Int) ≤ x1_1) = true := zQ c4
     clear c4
     obtain rfl := zS H
     go_wp2
     go_ret
     exact ⟨zy, zd⟩
    ·
     rw [if_neg c4] at H
     have c4b0 : decide ((l0.length : Int) ≤ x1_1) = false := zR c4
     clear c4
     by_cases c5 : 0 ≤ x1_1
     ·
      rw [if_pos c5] at H
      have c5b0 : decide (0 ≤ x1_1) = true := zQ c5
      clear c5
      by_cases c6 : x1_1 < (l0.length : Int)
      ·
       rw [if_pos c6] at H
       have c6b0 : decide (x1_1 < (l0.length : Int)) = true := zQ c6
       clear c6
       have H' := zM H
       clear H
       have p101 : 0 ≤ (x1_1 : Int) := zT zv
       have q101 : x1_1 < (l0.length : Int) := zT zv
       obtain ⟨ad101, e101, hx101_0, hx101_1⟩ := at_T54 HR0.out x1_1 p101 q101
       cases e101
       replace p101 := eq_true p101
       replace q101 := eq_true q101
       go_wp2
       go_roundg k1
       case measure => have := HK1.out; omega
       case rel => exact ⟨(wrap64 (x1_1 + 1)), (wrap64 (x5_1 + (wrap64 (((rd_T54 l0 x1_1).f1) - 1)))), zy, zy, H', ⟨by have := HK1.out; omega⟩, zd⟩
      ·
       rw [if_neg c6] at H
       exact absurd H (by simp)
     ·
      rw [if_neg c5] at H
      exact absurd H (by simp)
   ·
    rw [if_neg c3] at H
    have c3b0 : decide (0 < x5_1) = false := zR c3
    clear c3
    obtain rfl := zS H
    go_wp2
    go_ret
    exact ⟨zy, zd⟩


-- ==== PF30

def term_Check.l0 : Nat → List (S54) → List (S54) → Int → Int → Option (Int)
 | 0, _, _, _, _ => none
 | k + 1, x0, x9, x10, x11 => if x11 < x10 then (if 0 ≤ x11 then (if x11 < (x9.length : Int) then ((term_cell.f k ((rd_T54 x9 x11).f0) ((rd_T54 x9 x11).f1)).bind fun t103 => (if t103 = 0 then (term_Check.l0 k x0 x9 x10 (wrap64 (x11 + 1))) else (some t103))) else (none)) else (none)) else ((term_behind.f k x0 0).bind fun t104 => (if t104 = (x0.length : Int) then (some 0) else (some 3)))
def term_Check.f (k : Nat) (l0 : List (S54)) : Option (Int) := if (l0.length : Int) > 64 then (some 6) else (term_Check.l0 k l0 l0 (l0.length : Int) 0)
theorem term_Check.mono_l : ∀ k, (∀ y0 y1 y2 y3, LeO (term_Check.l0 k y0 y1 y2 y3) (term_Check.l0 (k + 1) y0 y1 y2 y3))
 | 0 => fun _ _ _ _ r h => by simp [term_Check.l0] at h
 | k + 1 => by
  have ih0 := term_Check.mono_l k
  ·
   intro y0 y1 y2 y3
   unfold term_Check.l0
   repeat' first
   | (with_reducible exact ih0 _ _ _ _)
   | (with_reducible exact term_behind.mono _ _ _)
   | (with_reducible exact term_cell.mono _ _ _)
   | (with_reducible exact LeO.refl _)
   | (with_reducible exact LeO.none _)
   | (with_reducible refine LeO.ite ?_ ?_)
   | (with_reducible refine LeO.bind ?_ (fun _ => ?_))
theorem term_Check.mono : ∀ a0 k, LeO (term_Check.f k a0) (term_Check.f (k + 1) a0) := by
 intro a0 k
 have ih0 := term_Check.mono_l k
 unfold term_Check.f
 repeat' first
  | (with_reducible exact ih0 _ _ _ _)
  | (with_reducible exact term_behind.mono _ _ _)
  | (with_reducible exact term_cell.mono _ _ _)
  | (with_reducible exact LeO.refl _)
  | (with_reducible exact LeO.none _)
  | (with_reducible refine LeO.ite ?_ ?_)
  | (with_reducible refine LeO.bind ?_ (fun _ => ?_))
theorem term_Check.calls (k : Nat) (A0 : Option Addr) (c0 : Nat) (l0 : List (S54)) (r : Int) (w : World) (hr0 : Kd.C k54 w A0 l0.length l0) (hc0 : l0.length ≤ c0) (h : term_Check.f k l0 = some r) :
 Calls Try.prog 30 #[.slice A0 l0.length c0] w fun e w' => e = .returned (.int .i64 r) ∧ Below w.heap.size w w' := by
 have hu54 := Try.underlying54
 have HR0 := zM hr0
 have HC0 := zM hc0
 clear hr0 hc0
 have HB := zM (Below.refl w.heap.size w)
 have H : (if (l0.length : Int) > 64 then (some 6) else (term_Check.l0 k l0 l0 (l0.length : Int) 0)) = some r := h
 clear h
 by_cases c2 : (l0.length : Int) > 64
 ·
  rw [if_pos c2] at H
  have c2b0 : decide (64 < (l0.length : Int)) = true := zQ c2
  have c2b1 : decide (64 < l0.length) = true := zQ (by omega)
  clear c2
  obtain rfl := zS H
  go_enter Try.func30, Try.ntmps30
  go_wp2
  go_ret
  exact ⟨zw, zb⟩
 ·
  rw [if_neg c2] at H
  have c2b0 : decide (64 < (l0.length : Int)) = false := zR c2
  have c2b1 : decide (64 < l0.length) = false := zR (by omega)
  clear c2
  have H' := zM H
  clear H
  go_enter Try.func30, Try.ntmps30
  go_wp2
  go_loopg [11] k (fun kq v11 w' => ∃ (x11_1 : Int), v11 = .int .i64 x11_1 ∧ Aside0 (term_Check.l0 kq l0 l0 (l0.length : Int) x11_1 = some r) ∧ Aside0 (kq ≤ k) ∧ Aside0 (Below w.heap.size w w'))
  case atStart => exact ⟨(0), zy, H', ⟨Nat.le_refl _⟩, ⟨zb⟩⟩
  case round =>
   clear H'
   try clear c2
   try clear c2b0
   try clear c2b1
   try clear p2
   obtain ⟨x11_1, rfl, HA, HK1, HB⟩ := hrel
   cases gk with
   | zero => exact absurd HA.out (by simp [term_Check.l0])
   | succ k1 =>
    have H := HA.out
    clear HA
    simp only [term_Check.l0] at H
    by_cases c3 : x11_1 < (l0.length : Int)
    ·
     rw [if_pos c3] at H
     have c3b0 : decide (x11_1 < (l0.length : Int)) = true := zQ c3
     clear c3
     by_cases c4 : 0 ≤ x11_1
     ·
      rw [if_pos c4] at H
      have c4b0 : decide (0 ≤ x11_1) = true := zQ c4
      clear c4
      by_cases c5 : x11_1 < (l0.length : Int)
      ·
       rw [if_pos c5] at H
       have c5b0 : decide (x11_1 < (l0.length : Int)) = true := zQ c5
       clear c5
       replace H := zB H
       obtain ⟨t103, A60, H⟩ := H
       try dsimp only at H
       have A6 := zM A60
       clear A60
       by_cases c7 : t103 = 0
       ·
        rw [if_pos c7] at H
        have c7b0 : (t103 == 0) = true := zG c7
        have c7b1 : (t103 != 0) = false := zH c7
        clear c7
        have H' := zM H
        clear H
        have p101 : 0 ≤ (x11_1 : Int) := zT zv
        have q101 : x11_1 < (l0.length : Int) := zT zv
        obtain ⟨ad101, e101, hx101_0, hx101_1⟩ := at_T54 HR0.out x11_1 p101 q101
        cases e101
        replace hx101_0 := (HB.out.cell (World.block_lt_of_cell? w _ hx101_0)).trans hx101_0
        replace hx101_1 := (HB.out.cell (World.block_lt_of_cell? w _ hx101_1)).trans hx101_1
        replace p101 := eq_true p101
        replace q101 := eq_true q101
        go_wp2_with (first | ((with_reducible refine gate_dst (N := 4) rfl ?_); refine box_event ?hg (N := 4) ?hd (cs := #[.string (⟨#[]⟩ : ByteArray), .int .i64 0]) (t := 54) ?hr ?_; (case hd => rfl); (case hg => rfl); (case hr => first | (go_simp; done) | (go_simp; rfl)); intro gb102 hg w8 hbox hb; have BK102 := zM (hbox); have GW102 := zM (zh hg : w.heap.size ≤ gb102); have GE102 := zM (zh hg : w.heap.size ≤ gb102); replace HB := zM (below_step zb hb); clear hb hbox hg; have hcz9_0 : w8.cell? ⟨gb102, 0, none⟩ = some (.string (⟨#[]⟩ : ByteArray)) := (zX BK102.out 0).trans rfl; have hcz9_1 : w8.cell? ⟨gb102, 1, none⟩ = some (.int .i64 0) := (zX BK102.out 1).trans rfl; have hfz9_0 := zY BK102.out 0; have hfz9_1 := zY BK102.out 1) | ((with_reducible refine gate_callee (f := 60) rfl ?_); refine goesL_ (some 16) rfl rfl Try.func60 (by kernel_rfl) rfl #[.agg #[.string ((rd_T54 l0 x11_1).f0), .int .i64 ((rd_T54 l0 x11_1).f1)]] rfl zl ?_; (with_reducible refine (term_cell.calls k1 ((rd_T54 l0 x11_1).f0) ((rd_T54 l0 x11_1).f1) t103 _ A6.out).mono ?_); rintro e w10 ⟨rfl, hb⟩; refine ⟨_, rfl, ?_⟩; replace BK102 := zM (blk_below (g := gb102) (o := .cells #[.string ((rd_T54 l0 x11_1).f0), .int .i64 ((rd_T54 l0 x11_1).f1)] 54 (0, 0)) (by refine zk ?_; refine blk_put (cs := #[.string ((rd_T54 l0 x11_1).f0), .int .i64 0]) ?_ 1 _ rfl; refine zk ?_; refine blk_put (cs := #[.string (⟨#[]⟩ : ByteArray), .int .i64 0]) ?_ 0 _ rfl; refine zk ?_; exact BK102.out) hb); replace HB := zM (below_step zb hb); (try clear hb)))
        go_roundg k1
        case measure => have := HK1.out; omega
        case rel => exact ⟨(wrap64 (x11_1 + 1)), zy, H', ⟨by have := HK1.out; omega⟩, ⟨zb⟩⟩
       ·
        rw [if_neg c7] at H
        have c7b0 : (t103 == 0) = false := zE c7
        have c7b1 : (t103 != 0) = true := zF c7
        obtain rfl := zS H
        have p101 : 0 ≤ (x11_1 : Int) := zT zv
        have q101 : x11_1 < (l0.length : Int) := zT zv
        obtain ⟨ad101, e101, hx101_0, hx101_1⟩ := at_T54 HR0.out x11_1 p101 q101
        cases e101
        replace hx101_0 := (HB.out.cell (World.block_lt_of_cell? w _ hx101_0)).trans hx101_0
        replace hx101_1 := (HB.out.cell (World.block_lt_of_cell? w _ hx101_1)).trans hx101_1
        replace p101 := eq_true p101
        replace q101 := eq_true q101
        go_wp2_with (first | ((with_reducible refine gate_dst (N := 4) rfl ?_); refine box_event ?hg (N := 4) ?hd (cs := #[.string (⟨#[]⟩ : ByteArray), .int .i64 0]) (t := 54) ?hr ?_; (case hd => rfl); (case hg => rfl); (case hr => first | (go_simp; done) | (go_simp; rfl)); intro gb102 hg w11 hbox hb; have BK102 := zM (hbox); have GW102 := zM (zh hg : w.heap.size ≤ gb102); have GE102 := zM (zh hg : w.heap.size ≤ gb102); replace HB := zM (below_step zb hb); clear hb hbox hg; have hcz12_0 : w11.cell? ⟨gb102, 0, none⟩ = some (.string (⟨#[]⟩ : ByteArray)) := (zX BK102.out 0).trans rfl; have hcz12_1 : w11.cell? ⟨gb102, 1, none⟩ = some (.int .i64 0) := (zX BK102.out 1).trans rfl; have hfz12_0 := zY BK102.out 0; have hfz12_1 := zY BK102.out 1) | ((with_reducible refine gate_callee (f := 60) rfl ?_); refine goesL_ (some 16) rfl rfl Try.func60 (by kernel_rfl) rfl #[.agg #[.string ((rd_T54 l0 x11_1).f0), .int .i64 ((rd_T54 l0 x11_1).f1)]] rfl zl ?_; (with_reducible refine (term_cell.calls k1 ((rd_T54 l0 x11_1).f0) ((rd_T54 l0 x11_1).f1) t103 _ A6.out).mono ?_); rintro e w13 ⟨rfl, hb⟩; refine ⟨_, rfl, ?_⟩; replace BK102 := zM (blk_below (g := gb102) (o := .cells #[.string ((rd_T54 l0 x11_1).f0), .int .i64 ((rd_T54 l0 x11_1).f1)] 54 (0, 0)) (by refine zk ?_; refine blk_put (cs := #[.string ((rd_T54 l0 x11_1).f0), .int .i64 0]) ?_ 1 _ rfl; refine zk ?_; refine blk_put (cs := #[.string (⟨#[]⟩ : ByteArray), .int .i64 0]) ?_ 0 _ rfl; refine zk ?_; exact BK102.out) hb); replace HB := zM (below_step zb hb); (try clear hb)))
        go_ret
        exact ⟨zw, zb⟩
      ·
       rw [if_neg c5] at H
       exact absurd H (by simp)
     ·
      rw [if_neg c4] at H
      exact absurd H (by simp)
    ·
     rw [if_neg c3] at H
     have c3b0 : decide (x11_1 < (l0.length : Int)) = false := zR c3
     clear c3
     replace H := zB H
     obtain ⟨t104, A140, H⟩ := H
     try dsimp only at H
     have A14 := zM A140
     clear A140
     by_cases c15 : t104 = (l0.length : Int)
     ·
      rw [if_pos c15] at H
      have c15b0 : (t104 == (l0.length : Int)) = true := zG c15
      have c15b1 : (t104 != (l0.length : Int)) = false := zH c15
      clear c15
      obtain rfl := zS H
      go_wp2_with (first | ((with_reducible refine gate_callee (f := 61) rfl ?_); refine goesL_ (some 22) rfl rfl Try.func61 (by kernel_rfl) rfl #[.slice A0 l0.length c0, .int .i64 0] rfl zl ?_; (with_reducible refine (term_behind.calls k1 _ _ l0 0 t104 _ ?side1 ?side2 A14.out).mono ?_); (case side1 => exact Kd.C_below HR0.out zb); (case side2 => exact HC0.out); rintro e w' ⟨rfl, ⟨nd, rfl⟩⟩; refine ⟨_, rfl, ?_⟩))
      go_ret
      exact ⟨zw, zb⟩
     ·
      rw [if_neg c15] at H
      have c15b0 : (t104 == (l0.length : Int)) = false := zE c15
      have c15b1 : (t104 != (l0.length : Int)) = true := zF c15
      obtain rfl := zS H
      go_wp2_with (first | ((with_reducible refine gate_callee (f := 61) rfl ?_); refine goesL_ (some 22) rfl rfl Try.func61 (by kernel_rfl) rfl #[.slice A0 l0.length c0, .int .i64 0] rfl zl ?_; (with_reducible refine (term_behind.calls k1 _ _ l0 0 t104 _ ?side1 ?side2 A14.out).mono ?_); (case side1 => exact Kd.C_below HR0.out zb); (case side2 => exact HC0.out); rintro e w' ⟨rfl, ⟨nd, rfl⟩⟩; refine ⟨_, rfl, ?_⟩))
      go_ret
      exact ⟨zw, zb⟩


-- ==== PF95

def slices_Index_string_string.l0 : Nat → List ByteArray → ByteArray → Int → Int → Option (Int)
 | 0, _, _, _, _ => none
 | k + 1, x0, x1, x7, x8 => if x8 < x7 then (if 0 ≤ x8 then (if x8 < (x0.length : Int) then (if x1.toList = (rdOf ByteArray.empty x0 x8).toList then (some x8) else (slices_Index_string_string.l0 k x0 x1 x7 (wrap64 (x8 + 1)))) else (none)) else (none)) else (some (-1))
def slices_Index_string_string.f (k : Nat) (l0 : List ByteArray) (a1 : ByteArray) : Option (Int) := slices_Index_string_string.l0 k l0 a1 (l0.length : Int) 0
theorem slices_Index_string_string.mono_l : ∀ k, (∀ y0 y1 y2 y3, LeO (slices_Index_string_string.l0 k y0 y1 y2 y3) (slices_Index_string_string.l0 (k + 1) y0 y1 y2 y3))
 | 0 => fun _ _ _ _ r h => by simp [slices_Index_string_string.l0] at h
 | k + 1 => by
  have ih0 := slices_Index_string_string.mono_l k
  ·
   intro y0 y1 y2 y3
   unfold slices_Index_string_string.l0
   repeat' first
   | (with_reducible exact ih0 _ _ _ _)
   | (with_reducible exact LeO.refl _)
   | (with_reducible exact LeO.none _)
   | (with_reducible refine LeO.ite ?_ ?_)
   | (with_reducible refine LeO.bind ?_ (fun _ => ?_))
theorem slices_Index_string_string.mono : ∀ a0 a1 k, LeO (slices_Index_string_string.f k a0 a1) (slices_Index_string_string.f (k + 1) a0 a1) := by
 intro a0 a1 k
 have ih0 := slices_Index_string_string.mono_l k
 unfold slices_Index_string_string.f
 repeat' first
  | (with_reducible exact ih0 _ _ _ _)
  | (with_reducible exact LeO.refl _)
  | (with_reducible exact LeO.none _)
  | (with_reducible refine LeO.ite ?_ ?_)
  | (with_reducible refine LeO.bind ?_ (fun _ => ?_))
theorem slices_Index_string_string.calls (k : Nat) (A0 : Option Addr) (c0 : Nat) (l0 : List ByteArray) (a1 : ByteArray) (r : Int) (w : World) (hr0 : Kd.C Kd.string w A0 l0.length l0) (hc0 : l0.length ≤ c0) (h : slices_Index_string_string.f k l0 a1 = some r) :
 Calls Try.prog 95 #[.slice A0 l0.length c0, .string a1] w fun e w' => e = .returned (.int .i64 r) ∧ Drawn0 w w' := by
 have HR0 := zM hr0
 have HC0 := zM hc0
 clear hr0 hc0
 have H : (slices_Index_string_string.l0 k l0 a1 (l0.length : Int) 0) = some r := h
 clear h
 have H' := zM H
 clear H
 go_enter Try.func95, Try.ntmps95
 go_wp2
 go_loopg [8] k (fun kq v8 w' => ∃ (x8_1 : Int), v8 = .int .i64 x8_1 ∧ Aside0 (slices_Index_string_string.l0 kq l0 a1 (l0.length : Int) x8_1 = some r) ∧ Aside0 (kq ≤ k) ∧ Drawn0 w w')
 case atStart => exact ⟨(0), zy, H', ⟨Nat.le_refl _⟩, zd⟩
 case round =>
  clear H'
  try clear p2
  obtain ⟨x8_1, rfl, HA, HK1, ⟨m1, rfl⟩⟩ := hrel
  cases gk with
  | zero => exact absurd HA.out (by simp [slices_Index_string_string.l0])
  | succ k1 =>
   have H := HA.out
   clear HA
   simp only [slices_Index_string_string.l0] at H
   by_cases c3 : x8_1 < (l0.length : Int)
   ·
    rw [if_pos c3] at H
    have c3b0 : decide (x8_1 < (l0.length : Int)) = true := zQ c3
    clear c3
    by_cases c4 : 0 ≤ x8_1
    ·
     rw [if_pos c4] at H
     have c4b0 : decide (0 ≤ x8_1) = true := zQ c4
     clear c4
     by_cases c5 : x8_1 < (l0.length : Int)
     ·
      rw [if_pos c5] at H
      have c5b0 : decide (x8_1 < (l0.length : Int)) = true := zQ c5
      clear c5
      by_cases c6 : a1.toList = (rdOf ByteArray.empty l0 x8_1).toList
      ·
       rw [if_pos c6] at H
       have c6b0 : (a1.toList == (rdOf ByteArray.empty l0 x8_1).toList) = true := zG c6
       have c6b1 : (a1.toList != (rdOf ByteArray.empty l0 x8_1).toList) = false := zH c6
       clear c6
       obtain rfl := zS H
       have p101 : 0 ≤ (x8_1 : Int) := zT zv
       have q101 : x8_1 < (l0.length : Int) := zT zv
       obtain ⟨ad101, e101, hx101_0⟩ := Kd.at_string HR0.out x8_1 p101 q101
       cases e101
       replace p101 := eq_true p101
       replace q101 := eq_true q101
       go_wp2
       go_ret
       exact ⟨zy, zd⟩
      ·
       rw [if_neg c6] at H
       have c6b0 : (a1.toList == (rdOf ByteArray.empty l0 x8_1).toList) = false := zE c6
       have c6b1 : (a1.toList != (rdOf ByteArray.empty l0 x8_1).toList) = true := zF c6
       have H' := zM H
       clear H
       have p101 : 0 ≤ (x8_1 : Int) := zT zv
       have q101 : x8_1 < (l0.length : Int) := zT zv
       obtain ⟨ad101, e101, hx101_0⟩ := Kd.at_string HR0.out x8_1 p101 q101
       cases e101
       replace p101 := eq_true p101
       replace q101 := eq_true q101
       go_wp2
       go_roundg k1
       case measure => have := HK1.out; omega
       case rel => exact ⟨(wrap64 (x8_1 + 1)), zy, H', ⟨by have := HK1.out; omega⟩, zd⟩
     ·
      rw [if_neg c5] at H
      exact absurd H (by simp)
    ·
     rw [if_neg c4] at H
     exact absurd H (by simp)
   ·
    rw [if_neg c3] at H
    have c3b0 : decide (x8_1 < (l0.length : Int)) = false := zR c3
    clear c3
    obtain rfl := zS H
    go_wp2
    go_ret
    exact ⟨zy, zd⟩


-- ==== PF80

def slices_Contains_string_string.f (k : Nat) (l0 : List ByteArray) (a1 : ByteArray) : Option (Bool) := (slices_Index_string_string.f k l0 a1).bind fun t101 => (some (decide (t101 ≥ 0)))
theorem slices_Contains_string_string.mono : ∀ a0 a1 k, LeO (slices_Contains_string_string.f k a0 a1) (slices_Contains_string_string.f (k + 1) a0 a1) := by
 intro a0 a1 k
 unfold slices_Contains_string_string.f
 repeat' first
  | (with_reducible exact slices_Index_string_string.mono _ _ _)
  | (with_reducible exact LeO.refl _)
  | (with_reducible exact LeO.none _)
  | (with_reducible refine LeO.ite ?_ ?_)
  | (with_reducible refine LeO.bind ?_ (fun _ => ?_))
theorem slices_Contains_string_string.calls (k : Nat) (A0 : Option Addr) (c0 : Nat) (l0 : List ByteArray) (a1 : ByteArray) (r : Bool) (w : World) (hr0 : Kd.C Kd.string w A0 l0.length l0) (hc0 : l0.length ≤ c0) (h : slices_Contains_string_string.f k l0 a1 = some r) :
 Calls Try.prog 80 #[.slice A0 l0.length c0, .string a1] w fun e w' => e = .returned (.bool r) ∧ Drawn0 w w' := by
 have HR0 := zM hr0
 have HC0 := zM hc0
 clear hr0 hc0
 have H : ((slices_Index_string_string.f k l0 a1).bind fun t101 => (some (decide (t101 ≥ 0)))) = some r := h
 clear h
 replace H := zB H
 obtain ⟨t101, A30, H⟩ := H
 try dsimp only at H
 have A3 := zM A30
 clear A30
 obtain rfl := zS H
 go_enter Try.func80, Try.ntmps80
 go_wp2_with (first | ((with_reducible refine gate_callee (f := 95) rfl ?_); refine goesL_ (some 7) rfl rfl Try.func95 (by kernel_rfl) rfl #[.slice A0 l0.length c0, .string a1] rfl zl ?_; (with_reducible refine (slices_Index_string_string.calls k _ _ l0 a1 t101 _ ?side1 ?side2 A3.out).mono ?_); (case side1 => exact Kd.C_below HR0.out zg); (case side2 => exact HC0.out); rintro e w' ⟨rfl, ⟨nd, rfl⟩⟩; refine ⟨_, rfl, ?_⟩))
 go_ret
 exact ⟨zy, zd⟩


-- ==== PF62

def term_Vars.l0 : Nat → List ByteArray → List (S54) → Int → Int → Option (List ByteArray × Int)
 | 0, _, _, _, _ => none
 | k + 1, x5, x13, x14, x15 => if x15 < x14 then (if 0 ≤ x15 then (if x15 < (x13.length : Int) then ((name_Kind.f k ((rd_T54 x13 x15).f0)).bind fun t104 => (if t104 = 2 then ((slices_Contains_string_string.f k x5 ((rd_T54 x13 x15).f0)).bind fun t105 => (if t105 = true then (term_Vars.l0 k x5 x13 x14 (wrap64 (x15 + 1))) else (if x5.length < 8796093022208 then (term_Vars.l0 k (x5 ++ [(rd_T54 x13 x15).f0]) x13 x14 (wrap64 (x15 + 1))) else (none)))) else (term_Vars.l0 k x5 x13 x14 (wrap64 (x15 + 1))))) else (none)) else (none)) else (some (x5, 0))
def term_Vars.f (k : Nat) (l0 : List (S54)) : Option (List ByteArray × Int) := (term_Check.f k l0).bind fun t101 => (if t101 = 0 then (term_Vars.l0 k ([] : List ByteArray) l0 (l0.length : Int) 0) else (some (([] : List ByteArray), t101)))
theorem term_Vars.mono_l : ∀ k, (∀ y0 y1 y2 y3, LeO (term_Vars.l0 k y0 y1 y2 y3) (term_Vars.l0 (k + 1) y0 y1 y2 y3))
 | 0 => fun _ _ _ _ r h => by simp [term_Vars.l0] at h
 | k + 1 => by
  have ih0 := term_Vars.mono_l k
  ·
   intro y0 y1 y2 y3
   unfold term_Vars.l0
   repeat' first
   | (with_reducible exact ih0 _ _ _ _)
   | (with_reducible exact name_Kind.mono _ _)
   | (with_reducible exact slices_Contains_string_string.mono _ _ _)
   | (with_reducible exact term_Check.mono _ _)
   | (with_reducible exact LeO.refl _)
   | (with_reducible exact LeO.none _)
   | (with_reducible refine LeO.ite ?_ ?_)
   | (with_reducible refine LeO.bind ?_ (fun _ => ?_))
theorem term_Vars.mono : ∀ a0 k, LeO (term_Vars.f k a0) (term_Vars.f (k + 1) a0) := by
 intro a0 k
 have ih0 := term_Vars.mono_l k
 unfold term_Vars.f
 repeat' first
  | (with_reducible exact ih0 _ _ _ _)
  | (with_reducible exact name_Kind.mono _ _)
  | (with_reducible exact slices_Contains_string_string.mono _ _ _)
  | (with_reducible exact term_Check.mono _ _)
  | (with_reducible exact LeO.refl _)
  | (with_reducible exact LeO.none _)
  | (with_reducible refine LeO.ite ?_ ?_)
  | (with_reducible refine LeO.bind ?_ (fun _ => ?_))
theorem term_Vars.calls (k : Nat) (A0 : Option Addr) (c0 : Nat) (l0 : List (S54)) (r1 : List ByteArray) (r2 : Int) (w : World) (hr0 : Kd.C k54 w A0 l0.length l0) (hc0 : l0.length ≤ c0) (h : term_Vars.f k l0 = some (r1, r2)) :
 Calls Try.prog 62 #[.slice A0 l0.length c0] w fun e w' => ∃ v0_ : Value, e = .returned (.tuple #[v0_, .int .i64 r2]) ∧ Kd.R Kd.string 9 w' w.heap.size (fun _ => True) v0_ r1 ∧ Below w.heap.size w w' := by
 have hu54 := Try.underlying54
 have HR0 := zM hr0
 have HC0 := zM hc0
 clear hr0 hc0
 have HB := zM (Below.refl w.heap.size w)
 have H : ((term_Check.f k l0).bind fun t101 => (if t101 = 0 then (term_Vars.l0 k ([] : List ByteArray) l0 (l0.length : Int) 0) else (some (([] : List ByteArray), t101)))) = some (r1, r2) := h
 clear h
 replace H := zB H
 obtain ⟨t101, A20, H⟩ := H
 try dsimp only at H
 have A2 := zM A20
 clear A20
 by_cases c3 : t101 = 0
 ·
  rw [if_pos c3] at H
  have c3b0 : (t101 == 0) = true := zG c3
  have c3b1 : (t101 != 0) = false := zH c3
  clear c3
  have H' := zM H
  clear H
  go_enter Try.func62, Try.ntmps62
  go_wp2_with (first | ((with_reducible refine gate_callee (f := 30) rfl ?_); refine goesL_ (some 9) rfl rfl Try.func30 (by kernel_rfl) rfl #[.slice A0 l0.length c0] rfl zl ?_; (with_reducible refine (term_Check.calls k _ _ l0 t101 _ ?side1 ?side2 A2.out).mono ?_); (case side1 => exact Kd.C_below HR0.out zg); (case side2 => exact HC0.out); rintro e w4 ⟨rfl, hb⟩; refine ⟨_, rfl, ?_⟩; replace HB := zM (below_step zb hb); (try clear hb)))
  go_loopg [5, 15] k (fun kq v5 v15 w' => ∃ (x5_1 : List ByteArray) (x15_1 : Int), v15 = .int .i64 x15_1 ∧ Aside0 (term_Vars.l0 kq x5_1 l0 (l0.length : Int) x15_1 = some (r1, r2)) ∧ Aside0 (kq ≤ k) ∧ Aside0 (Kd.R Kd.string 9 w' w.heap.size (fun _ => True) v5 x5_1) ∧ Aside0 (Below w.heap.size w w'))
  case atStart => exact ⟨(([] : List ByteArray)), (0), zy, H', ⟨Nat.le_refl _⟩, ⟨by first | exact Kd.R_nil _ _ _ _ _ | exact Kd.N_nil _ _ _ _ _ | exact Kd.V_nil _ _ _ _ _ | exact Kd.Q_nil _ _ _ _ _ | exact Kd.S_nil _ _ _ _ _⟩, ⟨zb⟩⟩
  case round =>
   clear H'
   try clear p2
   try clear c3
   try clear c3b0
   try clear c3b1
   obtain ⟨x5_1, x15_1, rfl, HA, HK1, HO_5, HB⟩ := hrel
   cases gk with
   | zero => exact absurd HA.out (by simp [term_Vars.l0])
   | succ k1 =>
    have H := HA.out
    clear HA
    simp only [term_Vars.l0] at H
    by_cases c5 : x15_1 < (l0.length : Int)
    ·
     rw [if_pos c5] at H
     have c5b0 : decide (x15_1 < (l0.length : Int)) = true := zQ c5
     clear c5
     by_cases c6 : 0 ≤ x15_1
     ·
      rw [if_pos c6] at H
      have c6b0 : decide (0 ≤ x15_1) = true := zQ c6
      clear c6
      by_cases c7 : x15_1 < (l0.length : Int)
      ·
       rw [if_pos c7] at H
       have c7b0 : decide (x15_1 < (l0.length : Int)) = true := zQ c7
       clear c7
       replace H := zB H
       obtain ⟨t104, A80, H⟩ := H
       try dsimp only at H
       have A8 := zM A80
       clear A80
       by_cases c9 : t104 = 2
       ·
        rw [if_pos c9] at H
        have c9b0 : (t104 == 2) = true := zG c9
        have c9b1 : (t104 != 2) = false := zH c9
        clear c9
        replace H := zB H
        obtain ⟨t105, A100, H⟩ := H
        try dsimp only at H
        have A10 := zM A100
        clear A100
        by_cases c11 : t105 = true
        ·
         subst c11
         rw [if_pos rfl] at H
         have H' := zM H
         clear H
         have p102 : 0 ≤ (x15_1 : Int) := zT zv
         have q102 : x15_1 < (l0.length : Int) := zT zv
         obtain ⟨ad102, e102, hx102_0, hx102_1⟩ := at_T54 HR0.out x15_1 p102 q102
         cases e102
         replace hx102_0 := (HB.out.cell (World.block_lt_of_cell? w _ hx102_0)).trans hx102_0
         replace hx102_1 := (HB.out.cell (World.block_lt_of_cell? w _ hx102_1)).trans hx102_1
         replace p102 := eq_true p102
         replace q102 := eq_true q102
         go_wp2_with (first | ((with_reducible refine gate_dst (N := 7) rfl ?_); refine box_event ?hg (N := 7) ?hd (cs := #[.string (⟨#[]⟩ : ByteArray), .int .i64 0]) (t := 54) ?hr ?_; (case hd => rfl); (case hg => rfl); (case hr => first | (go_simp; done) | (go_simp; rfl)); intro gb103 hg w12 hbox hb; replace HO_5 := zM (Kd.R_below (zr HO_5.out) hb); have BK103 := zM (hbox); have GW103 := zM (zh hg : w.heap.size ≤ gb103); have GE103 := zM (zh hg : w.heap.size ≤ gb103); replace HB := zM (below_step zb hb); clear hb hbox hg; have hcz13_0 : w12.cell? ⟨gb103, 0, none⟩ = some (.string (⟨#[]⟩ : ByteArray)) := (zX BK103.out 0).trans rfl; have hcz13_1 : w12.cell? ⟨gb103, 1, none⟩ = some (.int .i64 0) := (zX BK103.out 1).trans rfl; have hfz13_0 := zY BK103.out 0; have hfz13_1 := zY BK103.out 1) | ((with_reducible refine gate_callee (f := 43) rfl ?_); refine goesL_ (some 21) rfl rfl Try.func43 (by kernel_rfl) rfl #[.string ((rd_T54 l0 x15_1).f0)] rfl zl ?_; (with_reducible refine (name_Kind.calls k1 ((rd_T54 l0 x15_1).f0) t104 _ A8.out).mono ?_); rintro e w' ⟨rfl, ⟨nd, rfl⟩⟩; refine ⟨_, rfl, ?_⟩; obtain ⟨Ao14, co14, eo14⟩ := Kd.R_slice HO_5.out; subst eo14) | (go_at_call 80; (with_reducible refine (slices_Contains_string_string.calls k1 _ _ x5_1 ((rd_T54 l0 x15_1).f0) true _ ?side1 ?side2 A10.out).mono ?_); (case side1 => refine (Kd.R_reads' (e := 9) (base := w.heap.size) (ok := fun k_ => True) (n := x5_1.length) (c := co14) ?_).2.2; exact (by (with_reducible repeat (first | apply Kd.R_alloc | apply Kd.R_drewN | apply Kd.R_drew)); exact (Kd.R_mono (Kd.R_far (p := ⟨gb103, 1, none⟩) (Kd.R_far (p := ⟨gb103, 0, none⟩) (Kd.R_types HO_5.out BK103.out (by decide)) (fun _ hk => hk.2) (.string ((rd_T54 l0 x15_1).f0))) (fun _ hk => hk.2) (.int .i64 ((rd_T54 l0 x15_1).f1))) (fun _ h_ => h_.1)))); (case side2 => exact (Kd.R_reads' HO_5.out).2.1); rintro e w' ⟨rfl, ⟨nd, rfl⟩⟩))
         go_roundg k1
         case measure => have := HK1.out; omega
         case rel => exact ⟨(x5_1), (wrap64 (x15_1 + 1)), zy, H', ⟨by have := HK1.out; omega⟩, ⟨by (with_reducible repeat (first | apply Kd.R_alloc | apply Kd.R_drewN | apply Kd.R_drew)); exact Kd.R_mono (Kd.R_far (p := ⟨gb103, 1, none⟩) (Kd.R_far (p := ⟨gb103, 0, none⟩) (Kd.R_types HO_5.out BK103.out (by decide)) (fun _ hk => hk.2) (.string ((rd_T54 l0 x15_1).f0))) (fun _ hk => hk.2) (.int .i64 ((rd_T54 l0 x15_1).f1))) (fun _ hk => trivial)⟩, ⟨zb⟩⟩
        ·
         replace c11 := zI c11
         subst c11
         rw [if_neg (show ¬ (false = true) by decide)] at H
         by_cases c15 : x5_1.length < 8796093022208
         ·
          rw [if_pos c15] at H
          have LMc15 := zM c15
          clear c15
          obtain ⟨y106, hy106⟩ : ∃ y_ : List ByteArray, y_ = (x5_1 ++ [(rd_T54 l0 x15_1).f0]) := ⟨_, rfl⟩
          replace H : (term_Vars.l0 k1 y106 l0 (l0.length : Int) (wrap64 (x15_1 + 1))) = some (r1, r2) := by first | (rw [hy106]; with_reducible exact H) | (have H2_ := (Option.bind_some _ _).symm.trans H; rw [hy106]; with_reducible exact H2_) | (have H2_ := (Option.bind_some _ _).symm.trans H; with_reducible exact H2_) | with_reducible exact H | (rw [hy106]; exact H) | exact H
          have Ny106 := zM hy106
          clear hy106
          have H' := zM H
          clear H
          have p102 : 0 ≤ (x15_1 : Int) := zT zv
          have q102 : x15_1 < (l0.length : Int) := zT zv
          obtain ⟨ad102, e102, hx102_0, hx102_1⟩ := at_T54 HR0.out x15_1 p102 q102
          cases e102
          replace hx102_0 := (HB.out.cell (World.block_lt_of_cell? w _ hx102_0)).trans hx102_0
          replace hx102_1 := (HB.out.cell (World.block_lt_of_cell? w _ hx102_1)).trans hx102_1
          replace p102 := eq_true p102
          replace q102 := eq_true q102
          go_wp2_with (first | ((with_reducible refine gate_dst (N := 7) rfl ?_); refine box_event ?hg (N := 7) ?hd (cs := #[.string (⟨#[]⟩ : ByteArray), .int .i64 0]) (t := 54) ?hr ?_; (case hd => rfl); (case hg => rfl); (case hr => first | (go_simp; done) | (go_simp; rfl)); intro gb103 hg w16 hbox hb; replace HO_5 := zM (Kd.R_below (zr HO_5.out) hb); have BK103 := zM (hbox); have GW103 := zM (zh hg : w.heap.size ≤ gb103); have GE103 := zM (zh hg : w.heap.size ≤ gb103); replace HB := zM (below_step zb hb); clear hb hbox hg; have hcz17_0 : w16.cell? ⟨gb103, 0, none⟩ = some (.string (⟨#[]⟩ : ByteArray)) := (zX BK103.out 0).trans rfl; have hcz17_1 : w16.cell? ⟨gb103, 1, none⟩ = some (.int .i64 0) := (zX BK103.out 1).trans rfl; have hfz17_0 := zY BK103.out 0; have hfz17_1 := zY BK103.out 1) | ((with_reducible refine gate_callee (f := 43) rfl ?_); refine goesL_ (some 21) rfl rfl Try.func43 (by kernel_rfl) rfl #[.string ((rd_T54 l0 x15_1).f0)] rfl zl ?_; (with_reducible refine (name_Kind.calls k1 ((rd_T54 l0 x15_1).f0) t104 _ A8.out).mono ?_); rintro e w' ⟨rfl, ⟨nd, rfl⟩⟩; refine ⟨_, rfl, ?_⟩; obtain ⟨Ao18, co18, eo18⟩ := Kd.R_slice HO_5.out; subst eo18) | (go_at_call 80; (with_reducible refine (slices_Contains_string_string.calls k1 _ _ x5_1 ((rd_T54 l0 x15_1).f0) false _ ?side1 ?side2 A10.out).mono ?_); (case side1 => refine (Kd.R_reads' (e := 9) (base := w.heap.size) (ok := fun k_ => True) (n := x5_1.length) (c := co18) ?_).2.2; exact (by (with_reducible repeat (first | apply Kd.R_alloc | apply Kd.R_drewN | apply Kd.R_drew)); exact (Kd.R_mono (Kd.R_far (p := ⟨gb103, 1, none⟩) (Kd.R_far (p := ⟨gb103, 0, none⟩) (Kd.R_types HO_5.out BK103.out (by decide)) (fun _ hk => hk.2) (.string ((rd_T54 l0 x15_1).f0))) (fun _ hk => hk.2) (.int .i64 ((rd_T54 l0 x15_1).f1))) (fun _ h_ => h_.1)))); (case side2 => exact (Kd.R_reads' HO_5.out).2.1); rintro e w' ⟨rfl, ⟨nd, rfl⟩⟩) | ((with_reducible refine gate_builtin (b := .append) (xs := #[.tmp 30, .tmp 33]) rfl ?_); at_builtin; refine Kd.R_append Kd.string (w0 := w) w.heap.size rfl (.tmp 30) (.tmp 33) 26 9 (.string ⟨#[]⟩) 16 rfl Try.underlying26 info9 rfl (by decide) (by omega) (.slice Ao18 x5_1.length co18) x5_1 ((rd_T54 l0 x15_1).f0) [.string ((rd_T54 l0 x15_1).f0)] (fun _ => True) (fun _ => False) rfl (by first | (go_simp; done) | (go_simp; rfl)) ?aP (fun _ hk => hk.elim) ?aF ?aO ?aB ?aS ?aL ?_; (case aP => exact rfl); (case aB => exact zb); (case aF => exact (fun _ _ => trivial)); (case aO => exact (by (with_reducible repeat (first | apply Kd.R_alloc | apply Kd.R_drewN | apply Kd.R_drew)); exact Kd.R_mono (Kd.R_far (p := ⟨gb103, 1, none⟩) (Kd.R_far (p := ⟨gb103, 0, none⟩) (Kd.R_types HO_5.out BK103.out (by decide)) (fun _ hk => hk.2) (.string ((rd_T54 l0 x15_1).f0))) (fun _ hk => hk.2) (.int .i64 ((rd_T54 l0 x15_1).f1))) (fun _ hk => trivial))); (case aS => exact (below_size zb)); (case aL => have := LMc15.out; omega); intro v107 w19 ho hb hg hat; rw [← Ny106.out] at ho; replace BK103 := zM (blk_grown (g := gb103) (o := .cells #[.string ((rd_T54 l0 x15_1).f0), .int .i64 ((rd_T54 l0 x15_1).f1)] 54 (0, 0)) (by refine zk ?_; refine blk_put (cs := #[.string ((rd_T54 l0 x15_1).f0), .int .i64 0]) ?_ 1 _ rfl; refine zk ?_; refine blk_put (cs := #[.string (⟨#[]⟩ : ByteArray), .int .i64 0]) ?_ 0 _ rfl; refine zk ?_; exact BK103.out) hg (Kd.R_ne HO_5.out BK103.out (by decide))); replace HB := zM (hb); have HO108 := zM (ho); clear HO_5; clear ho hb hg hat))
          go_roundg k1
          case measure => have := HK1.out; omega
          case rel => exact ⟨(y106), (wrap64 (x15_1 + 1)), zy, H', ⟨by have := HK1.out; omega⟩, ⟨zr HO108.out⟩, ⟨zb⟩⟩
         ·
          rw [if_neg c15] at H
          exact absurd H (by simp)
       ·
        rw [if_neg c9] at H
        have c9b0 : (t104 == 2) = false := zE c9
        have c9b1 : (t104 != 2) = true := zF c9
        have H' := zM H
        clear H
        have p102 : 0 ≤ (x15_1 : Int) := zT zv
        have q102 : x15_1 < (l0.length : Int) := zT zv
        obtain ⟨ad102, e102, hx102_0, hx102_1⟩ := at_T54 HR0.out x15_1 p102 q102
        cases e102
        replace hx102_0 := (HB.out.cell (World.block_lt_of_cell? w _ hx102_0)).trans hx102_0
        replace hx102_1 := (HB.out.cell (World.block_lt_of_cell? w _ hx102_1)).trans hx102_1
        replace p102 := eq_true p102
        replace q102 := eq_true q102
        go_wp2_with (first | ((with_reducible refine gate_dst (N := 7) rfl ?_); refine box_event ?hg (N := 7) ?hd (cs := #[.string (⟨#[]⟩ : ByteArray), .int .i64 0]) (t := 54) ?hr ?_; (case hd => rfl); (case hg => rfl); (case hr => first | (go_simp; done) | (go_simp; rfl)); intro gb103 hg w20 hbox hb; replace HO_5 := zM (Kd.R_below (zr HO_5.out) hb); have BK103 := zM (hbox); have GW103 := zM (zh hg : w.heap.size ≤ gb103); have GE103 := zM (zh hg : w.heap.size ≤ gb103); replace HB := zM (below_step zb hb); clear hb hbox hg; have hcz21_0 : w20.cell? ⟨gb103, 0, none⟩ = some (.string (⟨#[]⟩ : ByteArray)) := (zX BK103.out 0).trans rfl; have hcz21_1 : w20.cell? ⟨gb103, 1, none⟩ = some (.int .i64 0) := (zX BK103.out 1).trans rfl; have hfz21_0 := zY BK103.out 0; have hfz21_1 := zY BK103.out 1) | ((with_reducible refine gate_callee (f := 43) rfl ?_); refine goesL_ (some 21) rfl rfl Try.func43 (by kernel_rfl) rfl #[.string ((rd_T54 l0 x15_1).f0)] rfl zl ?_; (with_reducible refine (name_Kind.calls k1 ((rd_T54 l0 x15_1).f0) t104 _ A8.out).mono ?_); rintro e w' ⟨rfl, ⟨nd, rfl⟩⟩; refine ⟨_, rfl, ?_⟩))
        go_roundg k1
        case measure => have := HK1.out; omega
        case rel => exact ⟨(x5_1), (wrap64 (x15_1 + 1)), zy, H', ⟨by have := HK1.out; omega⟩, ⟨by (with_reducible repeat (first | apply Kd.R_alloc | apply Kd.R_drewN | apply Kd.R_drew)); exact Kd.R_mono (Kd.R_far (p := ⟨gb103, 1, none⟩) (Kd.R_far (p := ⟨gb103, 0, none⟩) (Kd.R_types HO_5.out BK103.out (by decide)) (fun _ hk => hk.2) (.string ((rd_T54 l0 x15_1).f0))) (fun _ hk => hk.2) (.int .i64 ((rd_T54 l0 x15_1).f1))) (fun _ hk => trivial)⟩, ⟨zb⟩⟩
      ·
       rw [if_neg c7] at H
       exact absurd H (by simp)
     ·
      rw [if_neg c6] at H
      exact absurd H (by simp)
    ·
     rw [if_neg c5] at H
     have c5b0 : decide (x15_1 < (l0.length : Int)) = false := zR c5
     clear c5
     simp only [Option.some.injEq, Prod.mk.injEq] at H
     obtain ⟨rfl, rfl⟩ := H
     go_wp2
     go_ret2
     exact ⟨_, zw, zr HO_5.out, zb⟩
 ·
  rw [if_neg c3] at H
  have c3b0 : (t101 == 0) = false := zE c3
  have c3b1 : (t101 != 0) = true := zF c3
  simp only [Option.some.injEq, Prod.mk.injEq] at H
  obtain ⟨rfl, rfl⟩ := H
  go_enter Try.func62, Try.ntmps62
  go_wp2_with (first | ((with_reducible refine gate_callee (f := 30) rfl ?_); refine goesL_ (some 9) rfl rfl Try.func30 (by kernel_rfl) rfl #[.slice A0 l0.length c0] rfl zl ?_; (with_reducible refine (term_Check.calls k _ _ l0 t101 _ ?side1 ?side2 A2.out).mono ?_); (case side1 => exact Kd.C_below HR0.out zg); (case side2 => exact HC0.out); rintro e w22 ⟨rfl, hb⟩; refine ⟨_, rfl, ?_⟩; replace HB := zM (below_step zb hb); (try clear hb)))
  go_ret2
  exact ⟨_, zw, by first | exact Kd.R_nil _ _ _ _ _ | exact Kd.N_nil _ _ _ _ _ | exact Kd.V_nil _ _ _ _ _ | exact Kd.Q_nil _ _ _ _ _ | exact Kd.S_nil _ _ _ _ _, zb⟩


-- ==== PF31

def rewrite_ground.f (k : Nat) (l0 : List (S54)) : Option (Bool) := (term_Vars.f k l0).bind fun bt101 => (if bt101.2 = 0 then (some ((bt101.1.length : Int) == 0)) else (some false))
theorem rewrite_ground.mono : ∀ a0 k, LeO (rewrite_ground.f k a0) (rewrite_ground.f (k + 1) a0) := by
 intro a0 k
 unfold rewrite_ground.f
 repeat' first
  | (with_reducible exact term_Vars.mono _ _)
  | (with_reducible exact LeO.refl _)
  | (with_reducible exact LeO.none _)
  | (with_reducible refine LeO.ite ?_ ?_)
  | (with_reducible refine LeO.bind ?_ (fun _ => ?_))
theorem rewrite_ground.calls (k : Nat) (A0 : Option Addr) (c0 : Nat) (l0 : List (S54)) (r : Bool) (w : World) (hr0 : Kd.C k54 w A0 l0.length l0) (hc0 : l0.length ≤ c0) (h : rewrite_ground.f k l0 = some r) :
 Calls Try.prog 31 #[.slice A0 l0.length c0] w fun e w' => e = .returned (.bool r) ∧ Below w.heap.size w w' := by
 have HR0 := zM hr0
 have HC0 := zM hc0
 clear hr0 hc0
 have HB := zM (Below.refl w.heap.size w)
 have H : ((term_Vars.f k l0).bind fun bt101 => (if bt101.2 = 0 then (some ((bt101.1.length : Int) == 0)) else (some false))) = some r := h
 clear h
 replace H := zB H
 obtain ⟨⟨t101, t102⟩, A20, H⟩ := H
 try dsimp only at H
 have A2 := zM A20
 clear A20
 by_cases c3 : t102 = 0
 ·
  rw [if_pos c3] at H
  have c3b0 : (t102 == 0) = true := zG c3
  have c3b1 : (t102 != 0) = false := zH c3
  clear c3
  obtain rfl := zS H
  go_enter Try.func31, Try.ntmps31
  go_wp2_with (first | ((with_reducible refine gate_callee (f := 62) rfl ?_); refine goesL_ (some 7) rfl rfl Try.func62 (by kernel_rfl) rfl #[.slice A0 l0.length c0] rfl zl ?_; (with_reducible refine (term_Vars.calls k _ _ l0 t101 t102 _ ?side1 ?side2 A2.out).mono ?_); (case side1 => exact Kd.C_below HR0.out zg); (case side2 => exact HC0.out); rintro e w4 ⟨v103, rfl, ho0, hb⟩; refine ⟨_, rfl, ?_⟩; have HO104 := zM (Kd.R_lower ho0 (below_size zb)); replace HB := zM (below_step zb hb); (try clear hb); (try clear ho0); obtain ⟨Ao5, co5, eo5⟩ := Kd.R_slice HO104.out; subst eo5))
  go_ret
  exact ⟨zw, zb⟩
 ·
  rw [if_neg c3] at H
  have c3b0 : (t102 == 0) = false := zE c3
  have c3b1 : (t102 != 0) = true := zF c3
  obtain rfl := zS H
  go_enter Try.func31, Try.ntmps31
  go_wp2_with (first | ((with_reducible refine gate_callee (f := 62) rfl ?_); refine goesL_ (some 7) rfl rfl Try.func62 (by kernel_rfl) rfl #[.slice A0 l0.length c0] rfl zl ?_; (with_reducible refine (term_Vars.calls k _ _ l0 t101 t102 _ ?side1 ?side2 A2.out).mono ?_); (case side1 => exact Kd.C_below HR0.out zg); (case side2 => exact HC0.out); rintro e w6 ⟨v103, rfl, ho0, hb⟩; refine ⟨_, rfl, ?_⟩; have HO104 := zM (Kd.R_lower ho0 (below_size zb)); replace HB := zM (below_step zb hb); (try clear hb); (try clear ho0)))
  go_ret
  exact ⟨zw, zb⟩


-- ==== PF70

def slices_Clone_string_string.f (l0 : List (ByteArray)) : Option ((List (ByteArray))) := if ([] : List (ByteArray)).length + l0.length < 8796093022208 then some (([] : List (ByteArray)) ++ l0) else none
theorem slices_Clone_string_string.calls (A0 : Option Addr) (c0 : Nat) (l0 : List (ByteArray)) (r : List (ByteArray)) (w : World) (hr0 : Kd.C Kd.string w A0 l0.length l0) (hc0 : l0.length ≤ c0) (h : slices_Clone_string_string.f l0 = some r) :
 Calls Try.prog 70 #[.slice A0 l0.length c0] w fun e w' => ∃ v0_ : Value, e = .returned (v0_) ∧ Kd.R Kd.string 9 w' w.heap.size (fun _ => True) v0_ r ∧ Below w.heap.size w w' := by
 have HR0 := zM hr0
 have HC0 := zM hc0
 have HB := zM (Below.refl w.heap.size w)
 unfold slices_Clone_string_string.f at h
 by_cases c2 : ([] : List (ByteArray)).length + l0.length < 8796093022208
 ·
  rw [if_pos c2] at h
  have LMc2 := zM c2
  obtain rfl := zS h
  clear c2 h hc0
  have hnil := fun (W : World) (n c : Nat) => Lib.run_eql_slice_nil (P := Try.prog) W 26 9 A0 n c 0 0 Try.underlying26
  cases A0 with
  | none =>
   have hnil' : ∀ (W : World) (n c : Nat), Sem.run Try.prog (binOp BinOp.eql 26 (.slice none n c) (.slice none 0 0)) W = Result.ok (Value.bool true) W := hnil
   clear hnil
   have h0 : l0 = [] := by
    rcases Nat.eq_zero_or_pos l0.length with h0 | h0
    ·
     exact List.eq_nil_of_length_eq_zero h0
    ·
     obtain ⟨ad, h1, _⟩ := hr0.2.2 h0
     cases h1
   subst h0
   clear hr0 HR0 HC0 LMc2
   go_enter Try.func70, Try.ntmps70
   go_wp2
   go_ret
   exact ⟨_, rfl, Kd.R_nil _ _ _ _ _, Below.refl _ _⟩
  | some ad =>
   have hnil' : ∀ (W : World) (n c : Nat), Sem.run Try.prog (binOp BinOp.eql 26 (.slice (some ad) n c) (.slice none 0 0)) W = Result.ok (Value.bool false) W := hnil
   clear hnil
   clear hr0
   obtain ⟨y129, hy129⟩ : ∃ y_ : List (ByteArray), y_ = (([] : List (ByteArray)) ++ l0) := ⟨_, rfl⟩
   have Ny129 := zM hy129
   rw [← hy129]
   clear hy129
   have HE : ∀ W : World, Kd.R Kd.string 9 (W.alloc (.cells #[] 9)) W.heap.size (fun _ => True) (.slice (some ⟨W.heap.size, 0, none⟩) 0 0) [] := fun W =>
    ⟨fun _ _ => trivial, [], World.ownsRow_lit (base := W.heap.size) (e := 9) (size := 1) W #[] 0 (Nat.le_refl _) (Nat.zero_le _) rfl, Reps.none _ _⟩
   have HE' := zM HE
   clear HE
   go_enter Try.func70, Try.ntmps70
   go_wp2_with (first | ((with_reducible refine gate_builtin (b := .append) (xs := #[.tmp 5, .tmp 6]) rfl ?_); at_builtin; refine Kd.R_append_rows Kd.string (w0 := w) w.heap.size rfl (.tmp 5) (.tmp 6) 26 9 (.string ⟨#[]⟩) 16 rfl Try.underlying26 info9 rfl (by decide) (by omega) (.slice (some ⟨w.heap.size, 0, none⟩) 0 0) ([] : List (ByteArray)) l0 _ _ _ (fun _ => True) (fun _ => False) rfl rfl ?aO ?aR (fun _ _ h => h) (fun _ h => h.elim) ?aF ?aB ?aS ?aL ?_; (case aR => exact Kd.C_alloc HR0.out _); (case aB => exact zb); (case aF => exact (fun _ _ => trivial)); (case aO => exact HE'.out w); (case aS => exact (below_size zb)); (case aL => have := LMc2.out; omega); intro v130 w3 ho hb hg hat; rw [← Ny129.out] at ho; replace HB := zM (hb); have HO131 := zM (ho); clear ho hb hg hat))
   go_ret
   exact ⟨_, zw, zr HO131.out, zb⟩
 ·
  rw [if_neg c2] at h
  cases h



-- ==== PF106

def cmp_isNaN_string.f (a0 : ByteArray) : Option (Bool) := some (a0.toList != a0.toList)
theorem cmp_isNaN_string.calls (a0 : ByteArray) (r : Bool) (w : World) (h : cmp_isNaN_string.f a0 = some r) :
 Calls Try.prog 106 #[.string a0] w fun e w' => e = .returned (.bool r) ∧ Drawn0 w w' := by
 have H : (some (a0.toList != a0.toList)) = some r := h
 clear h
 obtain rfl := zS H
 go_enter Try.func106, Try.ntmps106
 go_wp2
 go_ret
 exact ⟨zy, zd⟩


-- ==== PF98

def cmp_Less_string.f (a0 : ByteArray) (a1 : ByteArray) : Option (Bool) := (cmp_isNaN_string.f a0).bind fun t101 => (if t101 = true then ((cmp_isNaN_string.f a1).bind fun t102 => (if t102 = true then (some (Op.bytesLess a0.toList a1.toList)) else (some true))) else (some (Op.bytesLess a0.toList a1.toList)))
theorem cmp_Less_string.calls (a0 : ByteArray) (a1 : ByteArray) (r : Bool) (w : World) (h : cmp_Less_string.f a0 a1 = some r) :
 Calls Try.prog 98 #[.string a0, .string a1] w fun e w' => e = .returned (.bool r) ∧ Drawn0 w w' := by
 have H : ((cmp_isNaN_string.f a0).bind fun t101 => (if t101 = true then ((cmp_isNaN_string.f a1).bind fun t102 => (if t102 = true then (some (Op.bytesLess a0.toList a1.toList)) else (some true))) else (some (Op.bytesLess a0.toList a1.toList)))) = some r := h
 clear h
 replace H := zB H
 obtain ⟨t101, A30, H⟩ := H
 try dsimp only at H
 have A3 := zM A30
 clear A30
 by_cases c4 : t101 = true
 ·
  subst c4
  rw [if_pos rfl] at H
  replace H := zB H
  obtain ⟨t102, A50, H⟩ := H
  try dsimp only at H
  have A5 := zM A50
  clear A50
  by_cases c6 : t102 = true
  ·
   subst c6
   rw [if_pos rfl] at H
   obtain rfl := zS H
   go_enter Try.func98, Try.ntmps98
   go_wp2_with (first | ((with_reducible refine gate_callee (f := 106) rfl ?_); refine goesL_ (some 6) rfl rfl Try.func106 (by kernel_rfl) rfl #[.string a0] rfl zl ?_; (with_reducible refine (cmp_isNaN_string.calls a0 true _ A3.out).mono ?_); rintro e w' ⟨rfl, ⟨nd, rfl⟩⟩; refine ⟨_, rfl, ?_⟩) | (go_at_call 106; (with_reducible refine (cmp_isNaN_string.calls a1 true _ A5.out).mono ?_); rintro e w' ⟨rfl, ⟨nd, rfl⟩⟩))
   go_ret
   exact ⟨zy, zd⟩
  ·
   replace c6 := zI c6
   subst c6
   rw [if_neg (show ¬ (false = true) by decide)] at H
   obtain rfl := zS H
   go_enter Try.func98, Try.ntmps98
   go_wp2_with (first | ((with_reducible refine gate_callee (f := 106) rfl ?_); refine goesL_ (some 6) rfl rfl Try.func106 (by kernel_rfl) rfl #[.string a0] rfl zl ?_; (with_reducible refine (cmp_isNaN_string.calls a0 true _ A3.out).mono ?_); rintro e w' ⟨rfl, ⟨nd, rfl⟩⟩; refine ⟨_, rfl, ?_⟩) | (go_at_call 106; (with_reducible refine (cmp_isNaN_string.calls a1 false _ A5.out).mono ?_); rintro e w' ⟨rfl, ⟨nd, rfl⟩⟩))
   go_ret
   exact ⟨zy, zd⟩
 ·
  replace c4 := zI c4
  subst c4
  rw [if_neg (show ¬ (false = true) by decide)] at H
  obtain rfl := zS H
  go_enter Try.func98, Try.ntmps98
  go_wp2_with (first | ((with_reducible refine gate_callee (f := 106) rfl ?_); refine goesL_ (some 6) rfl rfl Try.func106 (by kernel_rfl) rfl #[.string a0] rfl zl ?_; (with_reducible refine (cmp_isNaN_string.calls a0 false _ A3.out).mono ?_); rintro e w' ⟨rfl, ⟨nd, rfl⟩⟩; refine ⟨_, rfl, ?_⟩))
  go_ret
  exact ⟨zy, zd⟩


-- ==== PF99

def slices_isNaN_string.f (a0 : ByteArray) : Option (Bool) := some (a0.toList != a0.toList)
theorem slices_isNaN_string.calls (a0 : ByteArray) (r : Bool) (w : World) (h : slices_isNaN_string.f a0 = some r) :
 Calls Try.prog 99 #[.string a0] w fun e w' => e = .returned (.bool r) ∧ Drawn0 w w' := by
 have H : (some (a0.toList != a0.toList)) = some r := h
 clear h
 obtain rfl := zS H
 go_enter Try.func99, Try.ntmps99
 go_wp2
 go_ret
 exact ⟨zy, zd⟩


-- ==== PF90

def slices_BinarySearch_string_string.l0 : Nat → List ByteArray → ByteArray → Int → Int → Int → Option (Int × Bool)
 | 0, _, _, _, _, _ => none
 | k + 1, x0, x1, x6, x7, x8 => if x7 < x8 then (if 0 ≤ (wrap64 ((IntKind.u64.wrap (wrap64 (x7 + x8))) / 2)) then (if (wrap64 ((IntKind.u64.wrap (wrap64 (x7 + x8))) / 2)) < (x0.length : Int) then ((cmp_Less_string.f (rdOf ByteArray.empty x0 (wrap64 ((IntKind.u64.wrap (wrap64 (x7 + x8))) / 2))) x1).bind fun t102 => (if t102 = true then (slices_BinarySearch_string_string.l0 k x0 x1 x6 (wrap64 ((wrap64 ((IntKind.u64.wrap (wrap64 (x7 + x8))) / 2)) + 1)) x8) else (slices_BinarySearch_string_string.l0 k x0 x1 x6 x7 (wrap64 ((IntKind.u64.wrap (wrap64 (x7 + x8))) / 2))))) else (none)) else (none)) else (if x7 < x6 then (if 0 ≤ x7 then (if x7 < (x0.length : Int) then (if (rdOf ByteArray.empty x0 x7).toList = x1.toList then (some (x7, true)) else ((slices_isNaN_string.f (rdOf ByteArray.empty x0 x7)).bind fun t105 => (if t105 = true then ((slices_isNaN_string.f x1).bind fun t106 => (some (x7, t106))) else (some (x7, false))))) else (none)) else (none)) else (some (x7, false)))
def slices_BinarySearch_string_string.f (k : Nat) (l0 : List ByteArray) (a1 : ByteArray) : Option (Int × Bool) := slices_BinarySearch_string_string.l0 k l0 a1 (l0.length : Int) 0 (l0.length : Int)
theorem slices_BinarySearch_string_string.mono_l : ∀ k, (∀ y0 y1 y2 y3 y4, LeO (slices_BinarySearch_string_string.l0 k y0 y1 y2 y3 y4) (slices_BinarySearch_string_string.l0 (k + 1) y0 y1 y2 y3 y4))
 | 0 => fun _ _ _ _ _ r h => by simp [slices_BinarySearch_string_string.l0] at h
 | k + 1 => by
  have ih0 := slices_BinarySearch_string_string.mono_l k
  ·
   intro y0 y1 y2 y3 y4
   unfold slices_BinarySearch_string_string.l0
   repeat' first
   | (with_reducible exact ih0 _ _ _ _ _)
   | (with_reducible exact LeO.refl _)
   | (with_reducible exact LeO.none _)
   | (with_reducible refine LeO.ite ?_ ?_)
   | (with_reducible refine LeO.bind ?_ (fun _ => ?_))
theorem slices_BinarySearch_string_string.mono : ∀ a0 a1 k, LeO (slices_BinarySearch_string_string.f k a0 a1) (slices_BinarySearch_string_string.f (k + 1) a0 a1) := by
 intro a0 a1 k
 have ih0 := slices_BinarySearch_string_string.mono_l k
 unfold slices_BinarySearch_string_string.f
 repeat' first
  | (with_reducible exact ih0 _ _ _ _ _)
  | (with_reducible exact LeO.refl _)
  | (with_reducible exact LeO.none _)
  | (with_reducible refine LeO.ite ?_ ?_)
  | (with_reducible refine LeO.bind ?_ (fun _ => ?_))
theorem slices_BinarySearch_string_string.calls (k : Nat) (A0 : Option Addr) (c0 : Nat) (l0 : List ByteArray) (a1 : ByteArray) (r1 : Int) (r2 : Bool) (w : World) (hr0 : Kd.C Kd.string w A0 l0.length l0) (hc0 : l0.length ≤ c0) (h : slices_BinarySearch_string_string.f k l0 a1 = some (r1, r2)) :
 Calls Try.prog 90 #[.slice A0 l0.length c0, .string a1] w fun e w' => e = .returned (.tuple #[.int .i64 r1, .bool r2]) ∧ Drawn0 w w' := by
 have HR0 := zM hr0
 have HC0 := zM hc0
 clear hr0 hc0
 have H : (slices_BinarySearch_string_string.l0 k l0 a1 (l0.length : Int) 0 (l0.length : Int)) = some (r1, r2) := h
 clear h
 have H' := zM H
 clear H
 go_enter Try.func90, Try.ntmps90
 go_wp2
 go_loopg [7, 8] k (fun kq v7 v8 w' => ∃ (x7_1 : Int) (x8_1 : Int), v7 = .int .i64 x7_1 ∧ v8 = .int .i64 x8_1 ∧ Aside0 (slices_BinarySearch_string_string.l0 kq l0 a1 (l0.length : Int) x7_1 x8_1 = some (r1, r2)) ∧ Aside0 (kq ≤ k) ∧ Drawn0 w w')
 case atStart => exact ⟨(0), ((l0.length : Int)), zy, zy, H', ⟨Nat.le_refl _⟩, zd⟩
 case round =>
  clear H'
  try clear p2
  obtain ⟨x7_1, x8_1, rfl, rfl, HA, HK1, ⟨m1, rfl⟩⟩ := hrel
  cases gk with
  | zero => exact absurd HA.out (by simp [slices_BinarySearch_string_string.l0])
  | succ k1 =>
   have H := HA.out
   clear HA
   simp only [slices_BinarySearch_string_string.l0] at H
   by_cases c3 : x7_1 < x8_1
   ·
    rw [if_pos c3] at H
    have c3b0 : decide (x7_1 < x8_1) = true := zQ c3
    clear c3
    obtain ⟨ji4, hji4⟩ : ∃ j_ : Int, (wrap64 ((IntKind.u64.wrap (wrap64 (x7_1 + x8_1))) / 2)) = j_ := ⟨_, rfl⟩
    replace H : (if 0 ≤ (ji4) then (if (ji4) < (l0.length : Int) then ((cmp_Less_string.f (rdOf ByteArray.empty l0 (ji4)) a1).bind fun t102 => (if t102 = true then (slices_BinarySearch_string_string.l0 k1 l0 a1 (l0.length : Int) (wrap64 ((ji4) + 1)) x8_1) else (slices_BinarySearch_string_string.l0 k1 l0 a1 (l0.length : Int) x7_1 ji4))) else (none)) else (none)) = some (r1, r2) := by first | (rw [hji4] at H; exact H) | (simp only [hji4] at H ⊢; exact H)
    have hji4w : (IntKind.i64.wrap ((IntKind.u64.wrap (wrap64 (x7_1 + x8_1))) / 2)) = ji4 := (i64_w _).trans hji4
    by_cases c5 : 0 ≤ (ji4)
    ·
     rw [if_pos c5] at H
     have c5b0 : decide (0 ≤ (ji4)) = true := zQ c5
     clear c5
     by_cases c6 : (ji4) < (l0.length : Int)
     ·
      rw [if_pos c6] at H
      have c6b0 : decide ((ji4) < (l0.length : Int)) = true := zQ c6
      clear c6
      replace H := zB H
      obtain ⟨t102, A70, H⟩ := H
      try dsimp only at H
      have A7 := zM A70
      clear A70
      by_cases c8 : t102 = true
      ·
       subst c8
       rw [if_pos rfl] at H
       have H' := zM H
       clear H
       have p101 : 0 ≤ ((ji4) : Int) := zT zv
       have q101 : (ji4) < (l0.length : Int) := zT zv
       obtain ⟨ad101, e101, hx101_0⟩ := Kd.at_string HR0.out (ji4) p101 q101
       cases e101
       replace p101 := eq_true p101
       replace q101 := eq_true q101
       go_wp2_with (first | ((with_reducible refine gate_callee (f := 98) rfl ?_); refine goesL_ (some 27) rfl rfl Try.func98 (by kernel_rfl) rfl #[.string (rdOf ByteArray.empty l0 (ji4)), .string a1] rfl (by (try simp only [List.map_toArray, List.map_cons, List.map_nil]); first | done | (simp only [hji4]; rfl) | rfl | (simp only [List.length_drop, List.length_take]; rfl)) ?_; (with_reducible refine (cmp_Less_string.calls (rdOf ByteArray.empty l0 (ji4)) a1 true _ A7.out).mono ?_); rintro e w' ⟨rfl, ⟨nd, rfl⟩⟩; refine ⟨_, rfl, ?_⟩))
       go_roundg k1
       case measure => have := HK1.out; omega
       case rel => exact ⟨(wrap64 ((ji4) + 1)), (x8_1), (by first | rfl | (simp; done) | (simp only [← hji4] <;> (first | rfl | simp)) | (simp [*]; done)), zy, H', ⟨by have := HK1.out; omega⟩, zd⟩
      ·
       replace c8 := zI c8
       subst c8
       rw [if_neg (show ¬ (false = true) by decide)] at H
       have H' := zM H
       clear H
       have p101 : 0 ≤ ((ji4) : Int) := zT zv
       have q101 : (ji4) < (l0.length : Int) := zT zv
       obtain ⟨ad101, e101, hx101_0⟩ := Kd.at_string HR0.out (ji4) p101 q101
       cases e101
       replace p101 := eq_true p101
       replace q101 := eq_true q101
       go_wp2_with (first | ((with_reducible refine gate_callee (f := 98) rfl ?_); refine goesL_ (some 27) rfl rfl Try.func98 (by kernel_rfl) rfl #[.string (rdOf ByteArray.empty l0 (ji4)), .string a1] rfl (by (try simp only [List.map_toArray, List.map_cons, List.map_nil]); first | done | (simp only [hji4]; rfl) | rfl | (simp only [List.length_drop, List.length_take]; rfl)) ?_; (with_reducible refine (cmp_Less_string.calls (rdOf ByteArray.empty l0 (ji4)) a1 false _ A7.out).mono ?_); rintro e w' ⟨rfl, ⟨nd, rfl⟩⟩; refine ⟨_, rfl, ?_⟩))
       go_roundg k1
       case measure => have := HK1.out; omega
       case rel => exact ⟨(x7_1), (ji4), zy, (by first | rfl | (simp; done) | (simp only [← hji4] <;> (first | rfl | simp)) | (simp [*]; done)), H', ⟨by have := HK1.out; omega⟩, zd⟩
     ·
      rw [if_neg c6] at H
      exact absurd H (by simp)
    ·
     rw [if_neg c5] at H
     exact absurd H (by simp)
   ·
    rw [if_neg c3] at H
    have c3b0 : decide (x7_1 < x8_1) = false := zR c3
    clear c3
    by_cases c9 : x7_1 < (l0.length : Int)
    ·
     rw [if_pos c9] at H
     have c9b0 : decide (x7_1 < (l0.length : Int)) = true := zQ c9
     clear c9
     by_cases c10 : 0 ≤ x7_1
     ·
      rw [if_pos c10] at H
      have c10b0 : decide (0 ≤ x7_1) = true := zQ c10
      clear c10
      by_cases c11 : x7_1 < (l0.length : Int)
      ·
       rw [if_pos c11] at H
       have c11b0 : decide (x7_1 < (l0.length : Int)) = true := zQ c11
       clear c11
       by_cases c12 : (rdOf ByteArray.empty l0 x7_1).toList = a1.toList
       ·
        rw [if_pos c12] at H
        have c12b0 : ((rdOf ByteArray.empty l0 x7_1).toList == a1.toList) = true := zG c12
        have c12b1 : ((rdOf ByteArray.empty l0 x7_1).toList != a1.toList) = false := zH c12
        clear c12
        simp only [Option.some.injEq, Prod.mk.injEq] at H
        obtain ⟨rfl, rfl⟩ := H
        have p103 : 0 ≤ (x7_1 : Int) := zT zv
        have q103 : x7_1 < (l0.length : Int) := zT zv
        obtain ⟨ad103, e103, hx103_0⟩ := Kd.at_string HR0.out x7_1 p103 q103
        cases e103
        replace p103 := eq_true p103
        replace q103 := eq_true q103
        go_wp2
        go_ret2
        exact ⟨zy, zd⟩
       ·
        rw [if_neg c12] at H
        have c12b0 : ((rdOf ByteArray.empty l0 x7_1).toList == a1.toList) = false := zE c12
        have c12b1 : ((rdOf ByteArray.empty l0 x7_1).toList != a1.toList) = true := zF c12
        replace H := zB H
        obtain ⟨t105, A130, H⟩ := H
        try dsimp only at H
        have A13 := zM A130
        clear A130
        by_cases c14 : t105 = true
        ·
         subst c14
         rw [if_pos rfl] at H
         replace H := zB H
         obtain ⟨t106, A150, H⟩ := H
         try dsimp only at H
         have A15 := zM A150
         clear A150
         simp only [Option.some.injEq, Prod.mk.injEq] at H
         obtain ⟨rfl, rfl⟩ := H
         have p103 : 0 ≤ (x7_1 : Int) := zT zv
         have q103 : x7_1 < (l0.length : Int) := zT zv
         obtain ⟨ad103, e103, hx103_0⟩ := Kd.at_string HR0.out x7_1 p103 q103
         cases e103
         replace p103 := eq_true p103
         replace q103 := eq_true q103
         have p104 : 0 ≤ (x7_1 : Int) := zT zv
         have q104 : x7_1 < (l0.length : Int) := zT zv
         obtain ⟨ad104, e104, hx104_0⟩ := Kd.at_string HR0.out x7_1 p104 q104
         obtain rfl : ad103 = ad104 := (by injection e104)
         replace p104 := eq_true p104
         replace q104 := eq_true q104
         go_wp2_with (first | (go_at_call 99; (with_reducible refine (slices_isNaN_string.calls (rdOf ByteArray.empty l0 x7_1) true _ A13.out).mono ?_); rintro e w' ⟨rfl, ⟨nd, rfl⟩⟩) | (go_at_call 99; (with_reducible refine (slices_isNaN_string.calls a1 t106 _ A15.out).mono ?_); rintro e w' ⟨rfl, ⟨nd, rfl⟩⟩))
         go_ret2
         exact ⟨zy, zd⟩
        ·
         replace c14 := zI c14
         subst c14
         rw [if_neg (show ¬ (false = true) by decide)] at H
         simp only [Option.some.injEq, Prod.mk.injEq] at H
         obtain ⟨rfl, rfl⟩ := H
         have p103 : 0 ≤ (x7_1 : Int) := zT zv
         have q103 : x7_1 < (l0.length : Int) := zT zv
         obtain ⟨ad103, e103, hx103_0⟩ := Kd.at_string HR0.out x7_1 p103 q103
         cases e103
         replace p103 := eq_true p103
         replace q103 := eq_true q103
         have p104 : 0 ≤ (x7_1 : Int) := zT zv
         have q104 : x7_1 < (l0.length : Int) := zT zv
         obtain ⟨ad104, e104, hx104_0⟩ := Kd.at_string HR0.out x7_1 p104 q104
         obtain rfl : ad103 = ad104 := (by injection e104)
         replace p104 := eq_true p104
         replace q104 := eq_true q104
         go_wp2_with (first | (go_at_call 99; (with_reducible refine (slices_isNaN_string.calls (rdOf ByteArray.empty l0 x7_1) false _ A13.out).mono ?_); rintro e w' ⟨rfl, ⟨nd, rfl⟩⟩))
         go_ret2
         exact ⟨zy, zd⟩
      ·
       rw [if_neg c11] at H
       exact absurd H (by simp)
     ·
      rw [if_neg c10] at H
      exact absurd H (by simp)
    ·
     rw [if_neg c9] at H
     have c9b0 : decide (x7_1 < (l0.length : Int)) = false := zR c9
     clear c9
     simp only [Option.some.injEq, Prod.mk.injEq] at H
     obtain ⟨rfl, rfl⟩ := H
     go_wp2
     go_ret2
     exact ⟨zy, zd⟩


-- ==== PE0

theorem eqA54 (d : Nat) (w : World) (x0 y0 : ByteArray) (x1 y1 : Int) :
 (Op.equalIn (d + 2) 54 (.agg #[.string x0, .int .i64 x1]) (.agg #[.string y0, .int .i64 y1])).run Try.prog w = .ok (x0.toList == y0.toList && (x1 == y1)) w := by
 refine eqA_of Try.underlying54 (by kernel_rfl) ?_
 refine eqf_cons (by rfl) (by go_simp; rfl) (by go_simp; rfl) (by go_simp) ?_
 exact eqf_last (by rfl) (by go_simp; rfl) (by go_simp; rfl) (by go_simp)

-- ==== PF102

def match_variable.f (k : Nat) (a0_0 : ByteArray) (a0_1 : Int) : Option (Bool) := (name_Kind.f k a0_0).bind fun t102 => (some (t102 == 2))
theorem match_variable.mono : ∀ a0 a1 k, LeO (match_variable.f k a0 a1) (match_variable.f (k + 1) a0 a1) := by
 intro a0 a1 k
 unfold match_variable.f
 repeat' first
  | (with_reducible exact name_Kind.mono _ _)
  | (with_reducible exact LeO.refl _)
  | (with_reducible exact LeO.none _)
  | (with_reducible refine LeO.ite ?_ ?_)
  | (with_reducible refine LeO.bind ?_ (fun _ => ?_))
theorem match_variable.calls (k : Nat) (a0_0 : ByteArray) (a0_1 : Int) (r : Bool) (w : World) (h : match_variable.f k a0_0 a0_1 = some r) :
 Calls Try.prog 102 #[.agg #[.string a0_0, .int .i64 a0_1]] w fun e w' => e = .returned (.bool r) ∧ Below w.heap.size w w' := by
 have hu54 := Try.underlying54
 have HB := zM (Below.refl w.heap.size w)
 have H : ((name_Kind.f k a0_0).bind fun t102 => (some (t102 == 2))) = some r := h
 clear h
 replace H := zB H
 obtain ⟨t102, A20, H⟩ := H
 try dsimp only at H
 have A2 := zM A20
 clear A20
 obtain rfl := zS H
 go_enter Try.func102, Try.ntmps102
 go_wp2_with (first | ((with_reducible refine gate_dst (N := 1) rfl ?_); refine box_event ?hg (N := 1) ?hd (cs := #[.string a0_0, .int .i64 a0_1]) (t := 54) ?hr ?_; (case hd => rfl); (case hg => rfl); (case hr => first | (go_simp; done) | (go_simp; rfl)); intro gb101 hg w3 hbox hb; have BK101 := zM (hbox); have GW101 := zM (zh hg : w.heap.size ≤ gb101); have GE101 := zM (zh hg : w.heap.size ≤ gb101); replace HB := zM (below_step zb hb); clear hb hbox hg; have hcz4_0 : w3.cell? ⟨gb101, 0, none⟩ = some (.string a0_0) := (zX BK101.out 0).trans rfl; have hcz4_1 : w3.cell? ⟨gb101, 1, none⟩ = some (.int .i64 a0_1) := (zX BK101.out 1).trans rfl; have hfz4_0 := zY BK101.out 0; have hfz4_1 := zY BK101.out 1) | ((with_reducible refine gate_callee (f := 43) rfl ?_); refine goesL_ (some 5) rfl rfl Try.func43 (by kernel_rfl) rfl #[.string a0_0] rfl zl ?_; (with_reducible refine (name_Kind.calls k a0_0 t102 _ A2.out).mono ?_); rintro e w' ⟨rfl, ⟨nd, rfl⟩⟩; refine ⟨_, rfl, ?_⟩))
 go_ret
 exact ⟨zw, zb⟩


-- ==== PF103

def match_end.l0 : Nat → List (S54) → Int → Int → Option (Int)
 | 0, _, _, _ => none
 | k + 1, x0, x1, x5 => if x5 > 0 then (if 0 ≤ x1 then (if x1 < (x0.length : Int) then (match_end.l0 k x0 (wrap64 (x1 + 1)) (wrap64 (x5 + (wrap64 (((rd_T54 x0 x1).f1) - 1))))) else (none)) else (none)) else (some x1)
def match_end.f (k : Nat) (l0 : List (S54)) (a1 : Int) : Option (Int) := match_end.l0 k l0 a1 1
theorem match_end.mono_l : ∀ k, (∀ y0 y1 y2, LeO (match_end.l0 k y0 y1 y2) (match_end.l0 (k + 1) y0 y1 y2))
 | 0 => fun _ _ _ r h => by simp [match_end.l0] at h
 | k + 1 => by
  have ih0 := match_end.mono_l k
  ·
   intro y0 y1 y2
   unfold match_end.l0
   repeat' first
   | (with_reducible exact ih0 _ _ _)
   | (with_reducible exact LeO.refl _)
   | (with_reducible exact LeO.none _)
   | (with_reducible refine LeO.ite ?_ ?_)
   | (with_reducible refine LeO.bind ?_ (fun _ => ?_))
theorem match_end.mono : ∀ a0 a1 k, LeO (match_end.f k a0 a1) (match_end.f (k + 1) a0 a1) := by
 intro a0 a1 k
 have ih0 := match_end.mono_l k
 unfold match_end.f
 repeat' first
  | (with_reducible exact ih0 _ _ _)
  | (with_reducible exact LeO.refl _)
  | (with_reducible exact LeO.none _)
  | (with_reducible refine LeO.ite ?_ ?_)
  | (with_reducible refine LeO.bind ?_ (fun _ => ?_))
theorem match_end.calls (k : Nat) (A0 : Option Addr) (c0 : Nat) (l0 : List (S54)) (a1 : Int) (r : Int) (w : World) (hr0 : Kd.C k54 w A0 l0.length l0) (hc0 : l0.length ≤ c0) (h : match_end.f k l0 a1 = some r) :
 Calls Try.prog 103 #[.slice A0 l0.length c0, .int .i64 a1] w fun e w' => e = .returned (.int .i64 r) ∧ Drawn0 w w' := by
 have HR0 := zM hr0
 have HC0 := zM hc0
 clear hr0 hc0
 have H : (match_end.l0 k l0 a1 1) = some r := h
 clear h
 have H' := zM H
 clear H
 go_enter Try.func103, Try.ntmps103
 go_wp2
 go_loopg [1, 5] k (fun kq v1 v5 w' => ∃ (x1_1 : Int) (x5_1 : Int), v1 = .int .i64 x1_1 ∧ v5 = .int .i64 x5_1 ∧ Aside0 (match_end.l0 kq l0 x1_1 x5_1 = some r) ∧ Aside0 (kq ≤ k) ∧ Drawn0 w w')
 case atStart => exact ⟨(a1), (1), zy, zy, H', ⟨Nat.le_refl _⟩, zd⟩
 case round =>
  clear H'
  try clear c1
  try clear p2
  obtain ⟨x1_1, x5_1, rfl, rfl, HA, HK1, ⟨m1, rfl⟩⟩ := hrel
  cases gk with
  | zero => exact absurd HA.out (by simp [match_end.l0])
  | succ k1 =>
   have H := HA.out
   clear HA
   simp only [match_end.l0] at H
   by_cases c3 : x5_1 > 0
   ·
    rw [if_pos c3] at H
    have c3b0 : decide (0 < x5_1) = true := zQ c3
    clear c3
    by_cases c4 : 0 ≤ x1_1
    ·
     rw [if_pos c4] at H
     have c4b0 : decide (0 ≤ x1_1) = true := zQ c4
     clear c4
     by_cases c5 : x1_1 < (l0.length : Int)
     ·
      rw [if_pos c5] at H
      have c5b0 : decide (x1_1 < (l0.length : Int)) = true := zQ c5
      clear c5
      have H' := zM H
      clear H
      have p101 : 0 ≤ (x1_1 : Int) := zT zv
      have q101 : x1_1 < (l0.length : Int) := zT zv
      obtain ⟨ad101, e101, hx101_0, hx101_1⟩ := at_T54 HR0.out x1_1 p101 q101
      cases e101
      replace p101 := eq_true p101
      replace q101 := eq_true q101
      go_wp2
      go_roundg k1
      case measure => have := HK1.out; omega
      case rel => exact ⟨(wrap64 (x1_1 + 1)), (wrap64 (x5_1 + (wrap64 (((rd_T54 l0 x1_1).f1) - 1)))), zy, zy, H', ⟨by have := HK1.out; omega⟩, zd⟩
     ·
      rw [if_neg c5] at H
      exact absurd H (by simp)
    ·
     rw [if_neg c4] at H
     exact absurd H (by simp)
   ·
    rw [if_neg c3] at H
    have c3b0 : decide (0 < x5_1) = false := zR c3
    clear c3
    obtain rfl := zS H
    go_wp2
    go_ret
    exact ⟨zy, zd⟩


-- ==== PF104

attribute [local go_sem high] eqA54
def api_Cell_104.l0 : Nat → List (S54) → List (S54) → Int → Int → Option (Bool)
 | 0, _, _, _, _ => none
 | k + 1, x0, x1, x12, x13 => if x13 < x12 then (if 0 ≤ x13 then (if x13 < (x0.length : Int) then (if x13 < (x1.length : Int) then (if (!((((rd_T54 x0 x13).f0).toList) == (((rd_T54 x1 x13).f0).toList)) || (!(((rd_T54 x0 x13).f1) == ((rd_T54 x1 x13).f1)))) = true then (some false) else (api_Cell_104.l0 k x0 x1 x12 (wrap64 (x13 + 1)))) else (none)) else (none)) else (none)) else (some true)
def api_Cell_104.f (k : Nat) (l0 : List (S54)) (l1 : List (S54)) : Option (Bool) := if (l0.length : Int) = (l1.length : Int) then (api_Cell_104.l0 k l0 l1 (l0.length : Int) 0) else (some false)
theorem api_Cell_104.mono_l : ∀ k, (∀ y0 y1 y2 y3, LeO (api_Cell_104.l0 k y0 y1 y2 y3) (api_Cell_104.l0 (k + 1) y0 y1 y2 y3))
 | 0 => fun _ _ _ _ r h => by simp [api_Cell_104.l0] at h
 | k + 1 => by
  have ih0 := api_Cell_104.mono_l k
  ·
   intro y0 y1 y2 y3
   unfold api_Cell_104.l0
   repeat' first
   | (with_reducible exact ih0 _ _ _ _)
   | (with_reducible exact LeO.refl _)
   | (with_reducible exact LeO.none _)
   | (with_reducible refine LeO.ite ?_ ?_)
   | (with_reducible refine LeO.bind ?_ (fun _ => ?_))
theorem api_Cell_104.mono : ∀ a0 a1 k, LeO (api_Cell_104.f k a0 a1) (api_Cell_104.f (k + 1) a0 a1) := by
 intro a0 a1 k
 have ih0 := api_Cell_104.mono_l k
 unfold api_Cell_104.f
 repeat' first
  | (with_reducible exact ih0 _ _ _ _)
  | (with_reducible exact LeO.refl _)
  | (with_reducible exact LeO.none _)
  | (with_reducible refine LeO.ite ?_ ?_)
  | (with_reducible refine LeO.bind ?_ (fun _ => ?_))
theorem api_Cell_104.calls (k : Nat) (A0 : Option Addr) (c0 : Nat) (l0 : List (S54)) (A1 : Option Addr) (c1 : Nat) (l1 : List (S54)) (r : Bool) (w : World) (hr0 : Kd.C k54 w A0 l0.length l0) (hc0 : l0.length ≤ c0) (hr1 : Kd.C k54 w A1 l1.length l1) (hc1 : l1.length ≤ c1) (h : api_Cell_104.f k l0 l1 = some r) :
 Calls Try.prog 104 #[.slice A0 l0.length c0, .slice A1 l1.length c1] w fun e w' => e = .returned (.bool r) ∧ Drawn0 w w' := by
 have hu54 := Try.underlying54
 have HR0 := zM hr0
 have HC0 := zM hc0
 clear hr0 hc0
 have HR1 := zM hr1
 have HC1 := zM hc1
 clear hr1 hc1
 have H : (if (l0.length : Int) = (l1.length : Int) then (api_Cell_104.l0 k l0 l1 (l0.length : Int) 0) else (some false)) = some r := h
 clear h
 by_cases c3 : (l0.length : Int) = (l1.length : Int)
 ·
  rw [if_pos c3] at H
  have c3b0 : ((l0.length : Int) == (l1.length : Int)) = true := zG c3
  have c3b1 : ((l0.length : Int) != (l1.length : Int)) = false := zH c3
  have c3b2 : (l0.length == l1.length) = true := by first | simpa using c3 | (simp at c3 ⊢; omega)
  clear c3
  have H' := zM H
  clear H
  go_enter Try.func104, Try.ntmps104
  go_wp2
  repeat (go_quiet (fail); try go_wp2)
  go_loopg [13] k (fun kq v13 w' => ∃ (x13_1 : Int), v13 = .int .i64 x13_1 ∧ Aside0 (api_Cell_104.l0 kq l0 l1 (l0.length : Int) x13_1 = some r) ∧ Aside0 (kq ≤ k) ∧ Drawn0 w w')
  case atStart => exact ⟨(0), zy, H', ⟨Nat.le_refl _⟩, zd⟩
  case round =>
   clear H'
   try clear c1
   try clear p2
   try clear c3
   try clear c3b0
   try clear c3b1
   try clear c3b2
   obtain ⟨x13_1, rfl, HA, HK1, ⟨m1, rfl⟩⟩ := hrel
   cases gk with
   | zero => exact absurd HA.out (by simp [api_Cell_104.l0])
   | succ k1 =>
    have H := HA.out
    clear HA
    simp only [api_Cell_104.l0] at H
    by_cases c4 : x13_1 < (l0.length : Int)
    ·
     rw [if_pos c4] at H
     have c4b0 : decide (x13_1 < (l0.length : Int)) = true := zQ c4
     clear c4
     by_cases c5 : 0 ≤ x13_1
     ·
      rw [if_pos c5] at H
      have c5b0 : decide (0 ≤ x13_1) = true := zQ c5
      clear c5
      by_cases c6 : x13_1 < (l0.length : Int)
      ·
       rw [if_pos c6] at H
       have c6b0 : decide (x13_1 < (l0.length : Int)) = true := zQ c6
       clear c6
       by_cases c7 : x13_1 < (l1.length : Int)
       ·
        rw [if_pos c7] at H
        have c7b0 : decide (x13_1 < (l1.length : Int)) = true := zQ c7
        clear c7
        by_cases c8 : (!((((rd_T54 l0 x13_1).f0).toList) == (((rd_T54 l1 x13_1).f0).toList)) || (!(((rd_T54 l0 x13_1).f1) == ((rd_T54 l1 x13_1).f1)))) = true
        ·
         rw [if_pos c8] at H
         have c8b0 : (!((((rd_T54 l0 x13_1).f0).toList) == (((rd_T54 l1 x13_1).f0).toList)) || (!(((rd_T54 l0 x13_1).f1) == ((rd_T54 l1 x13_1).f1)))) = true := c8
         clear c8
         obtain rfl := zS H
         have p101 : 0 ≤ (x13_1 : Int) := zT zv
         have q101 : x13_1 < (l0.length : Int) := zT zv
         obtain ⟨ad101, e101, hx101_0, hx101_1⟩ := at_T54 HR0.out x13_1 p101 q101
         cases e101
         replace p101 := eq_true p101
         replace q101 := eq_true q101
         have p102 : 0 ≤ (x13_1 : Int) := zT zv
         have q102 : x13_1 < (l1.length : Int) := zT zv
         obtain ⟨ad102, e102, hx102_0, hx102_1⟩ := at_T54 HR1.out x13_1 p102 q102
         cases e102
         replace p102 := eq_true p102
         replace q102 := eq_true q102
         go_wp2
         repeat (go_quiet (fail); try go_wp2)
         go_ret
         exact ⟨zy, zd⟩
        ·
         rw [if_neg c8] at H
         have c8b0 : (!((((rd_T54 l0 x13_1).f0).toList) == (((rd_T54 l1 x13_1).f0).toList)) || (!(((rd_T54 l0 x13_1).f1) == ((rd_T54 l1 x13_1).f1)))) = false := by simpa using c8
         clear c8
         have H' := zM H
         clear H
         have p101 : 0 ≤ (x13_1 : Int) := zT zv
         have q101 : x13_1 < (l0.length : Int) := zT zv
         obtain ⟨ad101, e101, hx101_0, hx101_1⟩ := at_T54 HR0.out x13_1 p101 q101
         cases e101
         replace p101 := eq_true p101
         replace q101 := eq_true q101
         have p102 : 0 ≤ (x13_1 : Int) := zT zv
         have q102 : x13_1 < (l1.length : Int) := zT zv
         obtain ⟨ad102, e102, hx102_0, hx102_1⟩ := at_T54 HR1.out x13_1 p102 q102
         cases e102
         replace p102 := eq_true p102
         replace q102 := eq_true q102
         go_wp2
         repeat (go_quiet (fail); try go_wp2)
         go_roundg k1
         case measure => have := HK1.out; omega
         case rel => exact ⟨(wrap64 (x13_1 + 1)), zy, H', ⟨by have := HK1.out; omega⟩, zd⟩
       ·
        rw [if_neg c7] at H
        exact absurd H (by simp)
      ·
       rw [if_neg c6] at H
       exact absurd H (by simp)
     ·
      rw [if_neg c5] at H
      exact absurd H (by simp)
    ·
     rw [if_neg c4] at H
     have c4b0 : decide (x13_1 < (l0.length : Int)) = false := zR c4
     clear c4
     obtain rfl := zS H
     go_wp2
     repeat (go_quiet (fail); try go_wp2)
     go_ret
     exact ⟨zy, zd⟩
 ·
  rw [if_neg c3] at H
  have c3b0 : ((l0.length : Int) == (l1.length : Int)) = false := zE c3
  have c3b1 : ((l0.length : Int) != (l1.length : Int)) = true := zF c3
  have c3b2 : (l0.length == l1.length) = false := by first | simpa using c3 | (simp at c3 ⊢; omega)
  obtain rfl := zS H
  go_enter Try.func104, Try.ntmps104
  go_wp2
  repeat (go_quiet (fail); try go_wp2)
  go_ret
  exact ⟨zy, zd⟩


-- ==== PF40

attribute [local go_sem high] eqA54
def rewrite_may.f (k : Nat) (a0_0 : Int) (a0_1 : ByteArray) (a0_2 : Int) (l0_3 : List (S54)) : Option (Bool) := if a0_0 = 1 then (if (l0_3.length : Int) = 0 then ((name_Kind.f k a0_1).bind fun t102 => (if t102 = 1 then (if a0_2 ≥ 0 then (some (decide (a0_2 ≤ 4))) else (some false)) else (some false))) else (some false)) else (if a0_0 = 2 then (if (a0_1.toList == ([] : List UInt8) && (a0_2 == 0)) = true then ((rewrite_ground.f k l0_3).bind fun t103 => (some t103)) else (some false)) else (some false))
theorem rewrite_may.mono : ∀ a0 a1 a2 a3 k, LeO (rewrite_may.f k a0 a1 a2 a3) (rewrite_may.f (k + 1) a0 a1 a2 a3) := by
 intro a0 a1 a2 a3 k
 unfold rewrite_may.f
 repeat' first
  | (with_reducible exact name_Kind.mono _ _)
  | (with_reducible exact rewrite_ground.mono _ _)
  | (with_reducible exact LeO.refl _)
  | (with_reducible exact LeO.none _)
  | (with_reducible refine LeO.ite ?_ ?_)
  | (with_reducible refine LeO.bind ?_ (fun _ => ?_))
theorem rewrite_may.calls (k : Nat) (a0_0 : Int) (a0_1 : ByteArray) (a0_2 : Int) (A0_3 : Option Addr) (c0_3 : Nat) (l0_3 : List (S54)) (r : Bool) (w : World) (hr0_3 : Kd.C k54 w A0_3 l0_3.length l0_3) (hc0_3 : l0_3.length ≤ c0_3) (h : rewrite_may.f k a0_0 a0_1 a0_2 l0_3 = some r) :
 Calls Try.prog 40 #[.agg #[.int .i64 a0_0, .string a0_1, .int .i64 a0_2, .slice A0_3 l0_3.length c0_3]] w fun e w' => e = .returned (.bool r) ∧ Below w.heap.size w w' := by
 have hu70 := Try.underlying70
 have hu54 := Try.underlying54
 have HR0_3 := zM hr0_3
 have HC0_3 := zM hc0_3
 clear hr0_3 hc0_3
 have HB := zM (Below.refl w.heap.size w)
 have H : (if a0_0 = 1 then (if (l0_3.length : Int) = 0 then ((name_Kind.f k a0_1).bind fun t102 => (if t102 = 1 then (if a0_2 ≥ 0 then (some (decide (a0_2 ≤ 4))) else (some false)) else (some false))) else (some false)) else (if a0_0 = 2 then (if (a0_1.toList == ([] : List UInt8) && (a0_2 == 0)) = true then ((rewrite_ground.f k l0_3).bind fun t103 => (some t103)) else (some false)) else (some false))) = some r := h
 clear h
 by_cases c2 : a0_0 = 1
 ·
  rw [if_pos c2] at H
  have c2b0 : (a0_0 == 1) = true := zG c2
  have c2b1 : (a0_0 != 1) = false := zH c2
  clear c2
  by_cases c3 : (l0_3.length : Int) = 0
  ·
   rw [if_pos c3] at H
   have c3b0 : ((l0_3.length : Int) == 0) = true := zG c3
   have c3b1 : ((l0_3.length : Int) != 0) = false := zH c3
   clear c3
   replace H := zB H
   obtain ⟨t102, A40, H⟩ := H
   try dsimp only at H
   have A4 := zM A40
   clear A40
   by_cases c5 : t102 = 1
   ·
    rw [if_pos c5] at H
    have c5b0 : (t102 == 1) = true := zG c5
    have c5b1 : (t102 != 1) = false := zH c5
    clear c5
    by_cases c6 : a0_2 ≥ 0
    ·
     rw [if_pos c6] at H
     have c6b0 : decide (0 ≤ a0_2) = true := zQ c6
     clear c6
     obtain rfl := zS H
     go_enter Try.func40, Try.ntmps40
     go_wp2_with (first | ((with_reducible refine gate_dst (N := 1) rfl ?_); refine box_event ?hg (N := 1) ?hd (cs := #[.int .i64 a0_0, .string a0_1, .int .i64 a0_2, .slice A0_3 l0_3.length c0_3]) (t := 70) ?hr ?_; (case hd => rfl); (case hg => rfl); (case hr => first | (go_simp; done) | (go_simp; rfl)); intro gb101 hg w7 hbox hb; have BK101 := zM (hbox); have GW101 := zM (zh hg : w.heap.size ≤ gb101); have GE101 := zM (zh hg : w.heap.size ≤ gb101); replace HB := zM (below_step zb hb); clear hb hbox hg; have hcz8_0 : w7.cell? ⟨gb101, 0, none⟩ = some (.int .i64 a0_0) := (zX BK101.out 0).trans rfl; have hcz8_1 : w7.cell? ⟨gb101, 1, none⟩ = some (.string a0_1) := (zX BK101.out 1).trans rfl; have hcz8_2 : w7.cell? ⟨gb101, 2, none⟩ = some (.int .i64 a0_2) := (zX BK101.out 2).trans rfl; have hcz8_3 : w7.cell? ⟨gb101, 3, none⟩ = some (.slice A0_3 l0_3.length c0_3) := (zX BK101.out 3).trans rfl; have hfz8_0 := zY BK101.out 0; have hfz8_1 := zY BK101.out 1; have hfz8_2 := zY BK101.out 2; have hfz8_3 := zY BK101.out 3) | (go_at_call 43; (with_reducible refine (name_Kind.calls k a0_1 t102 _ A4.out).mono ?_); rintro e w' ⟨rfl, ⟨nd, rfl⟩⟩))
     go_ret
     exact ⟨zw, zb⟩
    ·
     rw [if_neg c6] at H
     have c6b0 : decide (0 ≤ a0_2) = false := zR c6
     clear c6
     obtain rfl := zS H
     go_enter Try.func40, Try.ntmps40
     go_wp2_with (first | ((with_reducible refine gate_dst (N := 1) rfl ?_); refine box_event ?hg (N := 1) ?hd (cs := #[.int .i64 a0_0, .string a0_1, .int .i64 a0_2, .slice A0_3 l0_3.length c0_3]) (t := 70) ?hr ?_; (case hd => rfl); (case hg => rfl); (case hr => first | (go_simp; done) | (go_simp; rfl)); intro gb101 hg w9 hbox hb; have BK101 := zM (hbox); have GW101 := zM (zh hg : w.heap.size ≤ gb101); have GE101 := zM (zh hg : w.heap.size ≤ gb101); replace HB := zM (below_step zb hb); clear hb hbox hg; have hcz10_0 : w9.cell? ⟨gb101, 0, none⟩ = some (.int .i64 a0_0) := (zX BK101.out 0).trans rfl; have hcz10_1 : w9.cell? ⟨gb101, 1, none⟩ = some (.string a0_1) := (zX BK101.out 1).trans rfl; have hcz10_2 : w9.cell? ⟨gb101, 2, none⟩ = some (.int .i64 a0_2) := (zX BK101.out 2).trans rfl; have hcz10_3 : w9.cell? ⟨gb101, 3, none⟩ = some (.slice A0_3 l0_3.length c0_3) := (zX BK101.out 3).trans rfl; have hfz10_0 := zY BK101.out 0; have hfz10_1 := zY BK101.out 1; have hfz10_2 := zY BK101.out 2; have hfz10_3 := zY BK101.out 3) | (go_at_call 43; (with_reducible refine (name_Kind.calls k a0_1 t102 _ A4.out).mono ?_); rintro e w' ⟨rfl, ⟨nd, rfl⟩⟩))
     go_ret
     exact ⟨zw, zb⟩
   ·
    rw [if_neg c5] at H
    have c5b0 : (t102 == 1) = false := zE c5
    have c5b1 : (t102 != 1) = true := zF c5
    obtain rfl := zS H
    go_enter Try.func40, Try.ntmps40
    go_wp2_with (first | ((with_reducible refine gate_dst (N := 1) rfl ?_); refine box_event ?hg (N := 1) ?hd (cs := #[.int .i64 a0_0, .string a0_1, .int .i64 a0_2, .slice A0_3 l0_3.length c0_3]) (t := 70) ?hr ?_; (case hd => rfl); (case hg => rfl); (case hr => first | (go_simp; done) | (go_simp; rfl)); intro gb101 hg w11 hbox hb; have BK101 := zM (hbox); have GW101 := zM (zh hg : w.heap.size ≤ gb101); have GE101 := zM (zh hg : w.heap.size ≤ gb101); replace HB := zM (below_step zb hb); clear hb hbox hg; have hcz12_0 : w11.cell? ⟨gb101, 0, none⟩ = some (.int .i64 a0_0) := (zX BK101.out 0).trans rfl; have hcz12_1 : w11.cell? ⟨gb101, 1, none⟩ = some (.string a0_1) := (zX BK101.out 1).trans rfl; have hcz12_2 : w11.cell? ⟨gb101, 2, none⟩ = some (.int .i64 a0_2) := (zX BK101.out 2).trans rfl; have hcz12_3 : w11.cell? ⟨gb101, 3, none⟩ = some (.slice A0_3 l0_3.length c0_3) := (zX BK101.out 3).trans rfl; have hfz12_0 := zY BK101.out 0; have hfz12_1 := zY BK101.out 1; have hfz12_2 := zY BK101.out 2; have hfz12_3 := zY BK101.out 3) | (go_at_call 43; (with_reducible refine (name_Kind.calls k a0_1 t102 _ A4.out).mono ?_); rintro e w' ⟨rfl, ⟨nd, rfl⟩⟩))
    go_ret
    exact ⟨zw, zb⟩
  ·
   rw [if_neg c3] at H
   have c3b0 : ((l0_3.length : Int) == 0) = false := zE c3
   have c3b1 : ((l0_3.length : Int) != 0) = true := zF c3
   have c3b2 : ¬ (l0_3 = []) := fun h_ => c3 (by rw [h_]; rfl)
   obtain rfl := zS H
   go_enter Try.func40, Try.ntmps40
   go_wp2_with (first | ((with_reducible refine gate_dst (N := 1) rfl ?_); refine box_event ?hg (N := 1) ?hd (cs := #[.int .i64 a0_0, .string a0_1, .int .i64 a0_2, .slice A0_3 l0_3.length c0_3]) (t := 70) ?hr ?_; (case hd => rfl); (case hg => rfl); (case hr => first | (go_simp; done) | (go_simp; rfl)); intro gb101 hg w13 hbox hb; have BK101 := zM (hbox); have GW101 := zM (zh hg : w.heap.size ≤ gb101); have GE101 := zM (zh hg : w.heap.size ≤ gb101); replace HB := zM (below_step zb hb); clear hb hbox hg; have hcz14_0 : w13.cell? ⟨gb101, 0, none⟩ = some (.int .i64 a0_0) := (zX BK101.out 0).trans rfl; have hcz14_1 : w13.cell? ⟨gb101, 1, none⟩ = some (.string a0_1) := (zX BK101.out 1).trans rfl; have hcz14_2 : w13.cell? ⟨gb101, 2, none⟩ = some (.int .i64 a0_2) := (zX BK101.out 2).trans rfl; have hcz14_3 : w13.cell? ⟨gb101, 3, none⟩ = some (.slice A0_3 l0_3.length c0_3) := (zX BK101.out 3).trans rfl; have hfz14_0 := zY BK101.out 0; have hfz14_1 := zY BK101.out 1; have hfz14_2 := zY BK101.out 2; have hfz14_3 := zY BK101.out 3))
   go_ret
   exact ⟨zw, zb⟩
 ·
  rw [if_neg c2] at H
  have c2b0 : (a0_0 == 1) = false := zE c2
  have c2b1 : (a0_0 != 1) = true := zF c2
  by_cases c15 : a0_0 = 2
  ·
   rw [if_pos c15] at H
   have c15b0 : (a0_0 == 2) = true := zG c15
   have c15b1 : (a0_0 != 2) = false := zH c15
   clear c15
   by_cases c16 : (a0_1.toList == ([] : List UInt8) && (a0_2 == 0)) = true
   ·
    rw [if_pos c16] at H
    have c16b0 : (a0_1.toList == ([] : List UInt8) && (a0_2 == 0)) = true := c16
    (try (have c16b1 : decide (a0_1.toList = ([] : List UInt8) && (a0_2 == 0)) = true := by simpa using c16))
    (try (have c16b2 : (a0_1.toList == ([] : List UInt8) && (a0_2 == 0)) = true := by simpa using c16))
    have c16b9 : (a0_1.toList.isEmpty && (a0_2 == 0)) = true := by rw [← c16b0]; cases a0_1.toList <;> rfl
    clear c16
    replace H := zB H
    obtain ⟨t103, A170, H⟩ := H
    try dsimp only at H
    have A17 := zM A170
    clear A170
    obtain rfl := zS H
    go_enter Try.func40, Try.ntmps40
    go_wp2_with (first | ((with_reducible refine gate_dst (N := 1) rfl ?_); refine box_event ?hg (N := 1) ?hd (cs := #[.int .i64 a0_0, .string a0_1, .int .i64 a0_2, .slice A0_3 l0_3.length c0_3]) (t := 70) ?hr ?_; (case hd => rfl); (case hg => rfl); (case hr => first | (go_simp; done) | (go_simp; rfl)); intro gb101 hg w18 hbox hb; have BK101 := zM (hbox); have GW101 := zM (zh hg : w.heap.size ≤ gb101); have GE101 := zM (zh hg : w.heap.size ≤ gb101); replace HB := zM (below_step zb hb); clear hb hbox hg; have hcz19_0 : w18.cell? ⟨gb101, 0, none⟩ = some (.int .i64 a0_0) := (zX BK101.out 0).trans rfl; have hcz19_1 : w18.cell? ⟨gb101, 1, none⟩ = some (.string a0_1) := (zX BK101.out 1).trans rfl; have hcz19_2 : w18.cell? ⟨gb101, 2, none⟩ = some (.int .i64 a0_2) := (zX BK101.out 2).trans rfl; have hcz19_3 : w18.cell? ⟨gb101, 3, none⟩ = some (.slice A0_3 l0_3.length c0_3) := (zX BK101.out 3).trans rfl; have hfz19_0 := zY BK101.out 0; have hfz19_1 := zY BK101.out 1; have hfz19_2 := zY BK101.out 2; have hfz19_3 := zY BK101.out 3) | (go_at_call 31; (with_reducible refine (rewrite_ground.calls k _ _ l0_3 t103 _ ?side1 ?side2 A17.out).mono ?_); (case side1 => exact Kd.C_below HR0_3.out zb); (case side2 => exact HC0_3.out); rintro e w20 ⟨rfl, hb⟩; replace BK101 := zM (blk_below (zk BK101.out) hb); replace HB := zM (below_step zb hb); (try clear hb)))
    go_ret
    exact ⟨zw, zb⟩
   ·
    rw [if_neg c16] at H
    have c16b0 : (a0_1.toList == ([] : List UInt8) && (a0_2 == 0)) = false := by simpa using c16
    (try (have c16b1 : decide (a0_1.toList = ([] : List UInt8) && (a0_2 == 0)) = false := by simpa using c16))
    (try (have c16b2 : (a0_1.toList == ([] : List UInt8) && (a0_2 == 0)) = false := by simpa using c16))
    have c16b9 : (a0_1.toList.isEmpty && (a0_2 == 0)) = false := by rw [← c16b0]; cases a0_1.toList <;> rfl
    (try (have c16b3 : ¬ (a0_1.toList = ([] : List UInt8) && (a0_2 == 0)) := by simpa using c16))
    clear c16
    obtain rfl := zS H
    go_enter Try.func40, Try.ntmps40
    go_wp2_with (first | ((with_reducible refine gate_dst (N := 1) rfl ?_); refine box_event ?hg (N := 1) ?hd (cs := #[.int .i64 a0_0, .string a0_1, .int .i64 a0_2, .slice A0_3 l0_3.length c0_3]) (t := 70) ?hr ?_; (case hd => rfl); (case hg => rfl); (case hr => first | (go_simp; done) | (go_simp; rfl)); intro gb101 hg w21 hbox hb; have BK101 := zM (hbox); have GW101 := zM (zh hg : w.heap.size ≤ gb101); have GE101 := zM (zh hg : w.heap.size ≤ gb101); replace HB := zM (below_step zb hb); clear hb hbox hg; have hcz22_0 : w21.cell? ⟨gb101, 0, none⟩ = some (.int .i64 a0_0) := (zX BK101.out 0).trans rfl; have hcz22_1 : w21.cell? ⟨gb101, 1, none⟩ = some (.string a0_1) := (zX BK101.out 1).trans rfl; have hcz22_2 : w21.cell? ⟨gb101, 2, none⟩ = some (.int .i64 a0_2) := (zX BK101.out 2).trans rfl; have hcz22_3 : w21.cell? ⟨gb101, 3, none⟩ = some (.slice A0_3 l0_3.length c0_3) := (zX BK101.out 3).trans rfl; have hfz22_0 := zY BK101.out 0; have hfz22_1 := zY BK101.out 1; have hfz22_2 := zY BK101.out 2; have hfz22_3 := zY BK101.out 3))
    go_ret
    exact ⟨zw, zb⟩
  ·
   rw [if_neg c15] at H
   have c15b0 : (a0_0 == 2) = false := zE c15
   have c15b1 : (a0_0 != 2) = true := zF c15
   obtain rfl := zS H
   go_enter Try.func40, Try.ntmps40
   go_wp2_with (first | ((with_reducible refine gate_dst (N := 1) rfl ?_); refine box_event ?hg (N := 1) ?hd (cs := #[.int .i64 a0_0, .string a0_1, .int .i64 a0_2, .slice A0_3 l0_3.length c0_3]) (t := 70) ?hr ?_; (case hd => rfl); (case hg => rfl); (case hr => first | (go_simp; done) | (go_simp; rfl)); intro gb101 hg w23 hbox hb; have BK101 := zM (hbox); have GW101 := zM (zh hg : w.heap.size ≤ gb101); have GE101 := zM (zh hg : w.heap.size ≤ gb101); replace HB := zM (below_step zb hb); clear hb hbox hg; have hcz24_0 : w23.cell? ⟨gb101, 0, none⟩ = some (.int .i64 a0_0) := (zX BK101.out 0).trans rfl; have hcz24_1 : w23.cell? ⟨gb101, 1, none⟩ = some (.string a0_1) := (zX BK101.out 1).trans rfl; have hcz24_2 : w23.cell? ⟨gb101, 2, none⟩ = some (.int .i64 a0_2) := (zX BK101.out 2).trans rfl; have hcz24_3 : w23.cell? ⟨gb101, 3, none⟩ = some (.slice A0_3 l0_3.length c0_3) := (zX BK101.out 3).trans rfl; have hfz24_0 := zY BK101.out 0; have hfz24_1 := zY BK101.out 1; have hfz24_2 := zY BK101.out 2; have hfz24_3 := zY BK101.out 3))
   go_ret
   exact ⟨zw, zb⟩


-- ==== PF13

def aumbryref04_Copy.f (l0 : List (S54)) : Option ((List (S54))) := if ([] : List (S54)).length + l0.length < 5864062014805 then (some (([] : List (S54)) ++ l0)) else (none)
theorem aumbryref04_Copy.calls (A0 : Option Addr) (c0 : Nat) (l0 : List (S54)) (r : List (S54)) (w : World) (hr0 : Kd.C k54 w A0 l0.length l0) (hc0 : l0.length ≤ c0) (h : aumbryref04_Copy.f l0 = some r) :
 Calls Try.prog 13 #[.slice A0 l0.length c0] w fun e w' => ∃ v0_ : Value, e = .returned (v0_) ∧ Kd.R k54 54 w' w.heap.size (fun _ => True) v0_ r ∧ Below w.heap.size w w' := by
 have HR0 := zM hr0
 have HC0 := zM hc0
 clear hr0 hc0
 have HB := zM (Below.refl w.heap.size w)
 have H : (if ([] : List (S54)).length + l0.length < 5864062014805 then (some (([] : List (S54)) ++ l0)) else (none)) = some r := h
 clear h
 by_cases c2 : ([] : List (S54)).length + l0.length < 5864062014805
 ·
  rw [if_pos c2] at H
  have LMc2 := zM c2
  clear c2
  obtain ⟨y101, hy101⟩ : ∃ y_ : List (S54), y_ = (([] : List (S54)) ++ l0) := ⟨_, rfl⟩
  replace H : (some y101) = some r := by first | (rw [hy101]; with_reducible exact H) | (have H2_ := (Option.bind_some _ _).symm.trans H; rw [hy101]; with_reducible exact H2_) | (have H2_ := (Option.bind_some _ _).symm.trans H; with_reducible exact H2_) | with_reducible exact H | (rw [hy101]; exact H) | exact H
  have Ny101 := zM hy101
  clear hy101
  obtain rfl := zS H
  go_enter Try.func13, Try.ntmps13
  go_wp2_with (first | ((with_reducible refine gate_builtin (b := .append) (xs := #[.tmp 4, .tmp 5]) rfl ?_); at_builtin; refine Kd.R_append_rows k54 (w0 := w) w.heap.size rfl (.tmp 4) (.tmp 5) 23 54 (.agg #[(.string ⟨#[]⟩), (.int .i64 0)]) 24 rfl Try.underlying23 info54 rfl (by decide) (by omega) (.slice none 0 0) ([] : List (S54)) l0 _ _ _ (fun _ => True) (fun _ => False) rfl rfl ?aO ?aR (fun _ _ h => h) (fun _ h => h.elim) ?aF ?aB ?aS ?aL ?_; (case aR => exact Kd.C_below HR0.out zg); (case aB => exact zb); (case aF => exact (fun _ _ => trivial)); (case aO => exact ((Kd.R_nil _ _ _ _ (fun _ => True)))); (case aS => exact (below_size zb)); (case aL => have := LMc2.out; omega); intro v102 w3 ho hb hg hat; rw [← Ny101.out] at ho; replace HB := zM (hb); have HO103 := zM (ho); clear ho hb hg hat))
  go_ret
  exact ⟨_, zw, zr HO103.out, zb⟩
 ·
  rw [if_neg c2] at H
  exact absurd H (by simp)


-- ==== PF44

def aumbryref04_CopyAll.l0 : Nat → List (List (S54)) → List (List (S54)) → Int → Int → Option ((List (List (S54))))
 | 0, _, _, _, _ => none
 | k + 1, x0, x3, x6, x7 => if x7 < x6 then (if 0 ≤ x7 then (if x7 < (x0.length : Int) then ((aumbryref04_Copy.f (rd_L3 x0 x7)).bind fun t102 => (if x3.length < 5864062014805 then (aumbryref04_CopyAll.l0 k x0 (x3 ++ [t102]) x6 (wrap64 (x7 + 1))) else (none))) else (none)) else (none)) else (some x3)
def aumbryref04_CopyAll.f (k : Nat) (l0 : List (List (S54))) : Option ((List (List (S54)))) := aumbryref04_CopyAll.l0 k l0 ([] : List (List (S54))) (l0.length : Int) 0
theorem aumbryref04_CopyAll.calls (k : Nat) (A0 : Option Addr) (c0 : Nat) (l0 : List (List (S54))) (r : List (List (S54))) (w : World) (hr0 : Kd.C (Kd.slice 54 k54) w A0 l0.length l0) (hc0 : l0.length ≤ c0) (h : aumbryref04_CopyAll.f k l0 = some r) :
 Calls Try.prog 44 #[.slice A0 l0.length c0] w fun e w' => ∃ v0_ : Value, e = .returned (v0_) ∧ Kd.S (Kd.slice 54 k54) 23 w' w.heap.size (fun _ => True) v0_ r ∧ Below w.heap.size w w' := by
 have HR0 := zM hr0
 have HC0 := zM hc0
 clear hr0 hc0
 have HB := zM (Below.refl w.heap.size w)
 have H : (aumbryref04_CopyAll.l0 k l0 ([] : List (List (S54))) (l0.length : Int) 0) = some r := h
 clear h
 have H' := zM H
 clear H
 go_enter Try.func44, Try.ntmps44
 go_wp2
 go_loopg [3, 7] k (fun kq v3 v7 w' => ∃ (x3_1 : List (List (S54))) (x7_1 : Int), v7 = .int .i64 x7_1 ∧ Aside0 (aumbryref04_CopyAll.l0 kq l0 x3_1 (l0.length : Int) x7_1 = some r) ∧ Aside0 (kq ≤ k) ∧ Aside0 (Kd.S (Kd.slice 54 k54) 23 w' w.heap.size (fun _ => True) v3 x3_1) ∧ Aside0 (Below w.heap.size w w'))
 case atStart => exact ⟨(([] : List (List (S54)))), (0), zy, H', ⟨Nat.le_refl _⟩, ⟨by first | exact Kd.S_nil _ _ _ _ _ | exact Kd.N_nil _ _ _ _ _ | exact Kd.V_nil _ _ _ _ _ | exact Kd.Q_nil _ _ _ _ _ | exact Kd.R_nil _ _ _ _ _⟩, ⟨zb⟩⟩
 case round =>
  clear H'
  obtain ⟨x3_1, x7_1, rfl, HA, HK1, HO_3, HB⟩ := hrel
  cases gk with
  | zero => exact absurd HA.out (by simp [aumbryref04_CopyAll.l0])
  | succ k1 =>
   have H := HA.out
   clear HA
   simp only [aumbryref04_CopyAll.l0] at H
   by_cases c2 : x7_1 < (l0.length : Int)
   ·
    rw [if_pos c2] at H
    have c2b0 : decide (x7_1 < (l0.length : Int)) = true := zQ c2
    clear c2
    by_cases c3 : 0 ≤ x7_1
    ·
     rw [if_pos c3] at H
     have c3b0 : decide (0 ≤ x7_1) = true := zQ c3
     clear c3
     by_cases c4 : x7_1 < (l0.length : Int)
     ·
      rw [if_pos c4] at H
      have c4b0 : decide (x7_1 < (l0.length : Int)) = true := zQ c4
      clear c4
      replace H := zB H
      obtain ⟨t102, A50, H⟩ := H
      try dsimp only at H
      have A5 := zM A50
      clear A50
      by_cases c6 : x3_1.length < 5864062014805
      ·
       rw [if_pos c6] at H
       have LMc6 := zM c6
       clear c6
       obtain ⟨y105, hy105⟩ : ∃ y_ : List (List (S54)), y_ = (x3_1 ++ [t102]) := ⟨_, rfl⟩
       replace H : (aumbryref04_CopyAll.l0 k1 l0 y105 (l0.length : Int) (wrap64 (x7_1 + 1))) = some r := by first | (rw [hy105]; with_reducible exact H) | (have H2_ := (Option.bind_some _ _).symm.trans H; rw [hy105]; with_reducible exact H2_) | (have H2_ := (Option.bind_some _ _).symm.trans H; with_reducible exact H2_) | with_reducible exact H | (rw [hy105]; exact H) | exact H
       have Ny105 := zM hy105
       clear hy105
       have H' := zM H
       clear H
       have p101 : 0 ≤ (x7_1 : Int) := zT zv
       have q101 : x7_1 < (l0.length : Int) := zT zv
       obtain ⟨ad101, A101_0, c101_0, e101, hx101_0, hl101_0, hi101_0⟩ := at_L3 HR0.out x7_1 p101 q101
       cases e101
       replace hx101_0 := (HB.out.cell (World.block_lt_of_cell? w _ hx101_0)).trans hx101_0
       have HR101_0 := zM hi101_0
       have HC101_0 := zM hl101_0
       clear hi101_0 hl101_0
       replace p101 := eq_true p101
       replace q101 := eq_true q101
       go_wp2_with (first | ((with_reducible refine gate_callee (f := 13) rfl ?_); refine goesL_ (some 15) rfl rfl Try.func13 (by kernel_rfl) rfl #[.slice A101_0 (rd_L3 l0 x7_1).length c101_0] rfl zl ?_; (with_reducible refine (aumbryref04_Copy.calls _ _ (rd_L3 l0 x7_1) t102 _ ?side1 ?side2 A5.out).mono ?_); (case side1 => exact Kd.C_below HR101_0.out zb); (case side2 => exact HC101_0.out); rintro e w7 ⟨v103, rfl, ho0, hb⟩; refine ⟨_, rfl, ?_⟩; replace HO_3 := zM (Kd.S_elder' (Kd.S_below HO_3.out zg) (Kd.R_base ho0) hb); have HO104 := zM (Kd.R_lower ho0 (below_size zb)); replace HB := zM (below_step zb hb); (try clear hb); (try clear ho0); obtain ⟨Ao9, co9, eo9⟩ := Kd.R_slice HO104.out; subst eo9) | ((with_reducible refine gate_builtin (b := .append) (xs := #[.tmp 10, .tmp 16]) rfl ?_); at_builtin; refine Kd.S_append (Kd.slice 54 k54) (w0 := w) w.heap.size rfl (.tmp 10) (.tmp 16) 25 23 (.slice none 0 0) 24 rfl Try.underlying25 info23 rfl (by decide) (by omega) u3 x3_1 t102 [.slice Ao9 t102.length co9] (fun _ => True) (fun k_ => some k_ = (.slice Ao9 t102.length co9 : Value).ownBlock) rfl rfl ?aP (fun k_ hk_ => ((Kd.R_mono (ok' := fun k_ => ((fun _ => True)) k_ ∧ some k_ ≠ (u3 : Value).ownBlock) (Kd.R_apart' (HO104.out) (Kd.S_typed HO_3.out) (by decide)) (fun k_ hk => ⟨trivial, hk.2⟩))).1 k_ hk_.symm) ?aF ?aO ?aB ?aS ?aL ?_; (case aP => exact Kd.M_row (Kd.R_mono (Kd.R_tight rfl (Kd.R_mono (ok' := fun k_ => ((fun _ => True)) k_ ∧ some k_ ≠ (u3 : Value).ownBlock) (Kd.R_apart' (HO104.out) (Kd.S_typed HO_3.out) (by decide)) (fun k_ hk => ⟨trivial, hk.2⟩))) (fun _ h_ => h_))); (case aB => exact zb); (case aF => exact (fun _ _ => trivial)); (case aO => exact (by (with_reducible repeat (first | apply Kd.S_alloc | apply Kd.S_drewN | apply Kd.S_drew)); exact Kd.S_mono HO_3.out (fun k_ hk => ⟨trivial, fun e_ => hk.2 e_⟩))); (case aS => exact (below_size zb)); (case aL => have := LMc6.out; omega); intro v106 w8 ho hb hg hat; rw [← Ny105.out] at ho; replace HB := zM (hb); have HO107 := zM (ho); clear HO104 HO_3; clear ho hb hg hat))
       go_roundg k1
       case measure => have := HK1.out; omega
       case rel => exact ⟨(y105), (wrap64 (x7_1 + 1)), zy, H', ⟨by have := HK1.out; omega⟩, ⟨Kd.S_below HO107.out zg⟩, ⟨zb⟩⟩
      ·
       rw [if_neg c6] at H
       exact absurd H (by simp)
     ·
      rw [if_neg c4] at H
      exact absurd H (by simp)
    ·
     rw [if_neg c3] at H
     exact absurd H (by simp)
   ·
    rw [if_neg c2] at H
    have c2b0 : decide (x7_1 < (l0.length : Int)) = false := zR c2
    clear c2
    obtain rfl := zS H
    go_wp2
    go_ret
    exact ⟨_, zw, Kd.S_below HO_3.out zg, zb⟩


-- ==== PF27

attribute [local go_sem high] eqA54
def aumbryref04_Same.l0 : Nat → List (S54) → List (S54) → Int → Int → Option (Bool)
 | 0, _, _, _, _ => none
 | k + 1, x0, x1, x12, x13 => if x13 < x12 then (if 0 ≤ x13 then (if x13 < (x0.length : Int) then (if x13 < (x1.length : Int) then (if (!((((rd_T54 x0 x13).f0).toList) == (((rd_T54 x1 x13).f0).toList)) || (!(((rd_T54 x0 x13).f1) == ((rd_T54 x1 x13).f1)))) = true then (some false) else (aumbryref04_Same.l0 k x0 x1 x12 (wrap64 (x13 + 1)))) else (none)) else (none)) else (none)) else (some true)
def aumbryref04_Same.f (k : Nat) (l0 : List (S54)) (l1 : List (S54)) : Option (Bool) := if (l0.length : Int) = (l1.length : Int) then (aumbryref04_Same.l0 k l0 l1 (l0.length : Int) 0) else (some false)
theorem aumbryref04_Same.calls (k : Nat) (A0 : Option Addr) (c0 : Nat) (l0 : List (S54)) (A1 : Option Addr) (c1 : Nat) (l1 : List (S54)) (r : Bool) (w : World) (hr0 : Kd.C k54 w A0 l0.length l0) (hc0 : l0.length ≤ c0) (hr1 : Kd.C k54 w A1 l1.length l1) (hc1 : l1.length ≤ c1) (h : aumbryref04_Same.f k l0 l1 = some r) :
 Calls Try.prog 27 #[.slice A0 l0.length c0, .slice A1 l1.length c1] w fun e w' => e = .returned (.bool r) ∧ Drawn0 w w' := by
 have hu54 := Try.underlying54
 have HR0 := zM hr0
 have HC0 := zM hc0
 clear hr0 hc0
 have HR1 := zM hr1
 have HC1 := zM hc1
 clear hr1 hc1
 have H : (if (l0.length : Int) = (l1.length : Int) then (aumbryref04_Same.l0 k l0 l1 (l0.length : Int) 0) else (some false)) = some r := h
 clear h
 by_cases c3 : (l0.length : Int) = (l1.length : Int)
 ·
  rw [if_pos c3] at H
  have c3b0 : ((l0.length : Int) == (l1.length : Int)) = true := zG c3
  have c3b1 : ((l0.length : Int) != (l1.length : Int)) = false := zH c3
  have c3b2 : (l0.length == l1.length) = true := by first | simpa using c3 | (simp at c3 ⊢; omega)
  clear c3
  have H' := zM H
  clear H
  go_enter Try.func27, Try.ntmps27
  go_wp2
  repeat (go_quiet (fail); try go_wp2)
  go_loopg [13] k (fun kq v13 w' => ∃ (x13_1 : Int), v13 = .int .i64 x13_1 ∧ Aside0 (aumbryref04_Same.l0 kq l0 l1 (l0.length : Int) x13_1 = some r) ∧ Aside0 (kq ≤ k) ∧ Drawn0 w w')
  case atStart => exact ⟨(0), zy, H', ⟨Nat.le_refl _⟩, zd⟩
  case round =>
   clear H'
   try clear c1
   try clear c2
   try clear p2
   try clear c3
   try clear c3b0
   try clear c3b1
   try clear c3b2
   obtain ⟨x13_1, rfl, HA, HK1, ⟨m1, rfl⟩⟩ := hrel
   cases gk with
   | zero => exact absurd HA.out (by simp [aumbryref04_Same.l0])
   | succ k1 =>
    have H := HA.out
    clear HA
    simp only [aumbryref04_Same.l0] at H
    by_cases c4 : x13_1 < (l0.length : Int)
    ·
     rw [if_pos c4] at H
     have c4b0 : decide (x13_1 < (l0.length : Int)) = true := zQ c4
     clear c4
     by_cases c5 : 0 ≤ x13_1
     ·
      rw [if_pos c5] at H
      have c5b0 : decide (0 ≤ x13_1) = true := zQ c5
      clear c5
      by_cases c6 : x13_1 < (l0.length : Int)
      ·
       rw [if_pos c6] at H
       have c6b0 : decide (x13_1 < (l0.length : Int)) = true := zQ c6
       clear c6
       by_cases c7 : x13_1 < (l1.length : Int)
       ·
        rw [if_pos c7] at H
        have c7b0 : decide (x13_1 < (l1.length : Int)) = true := zQ c7
        clear c7
        by_cases c8 : (!((((rd_T54 l0 x13_1).f0).toList) == (((rd_T54 l1 x13_1).f0).toList)) || (!(((rd_T54 l0 x13_1).f1) == ((rd_T54 l1 x13_1).f1)))) = true
        ·
         rw [if_pos c8] at H
         have c8b0 : (!((((rd_T54 l0 x13_1).f0).toList) == (((rd_T54 l1 x13_1).f0).toList)) || (!(((rd_T54 l0 x13_1).f1) == ((rd_T54 l1 x13_1).f1)))) = true := c8
         clear c8
         obtain rfl := zS H
         have p101 : 0 ≤ (x13_1 : Int) := zT zv
         have q101 : x13_1 < (l0.length : Int) := zT zv
         obtain ⟨ad101, e101, hx101_0, hx101_1⟩ := at_T54 HR0.out x13_1 p101 q101
         cases e101
         replace p101 := eq_true p101
         replace q101 := eq_true q101
         have p102 : 0 ≤ (x13_1 : Int) := zT zv
         have q102 : x13_1 < (l1.length : Int) := zT zv
         obtain ⟨ad102, e102, hx102_0, hx102_1⟩ := at_T54 HR1.out x13_1 p102 q102
         cases e102
         replace p102 := eq_true p102
         replace q102 := eq_true q102
         go_wp2
         repeat (go_quiet (fail); try go_wp2)
         go_ret
         exact ⟨zy, zd⟩
        ·
         rw [if_neg c8] at H
         have c8b0 : (!((((rd_T54 l0 x13_1).f0).toList) == (((rd_T54 l1 x13_1).f0).toList)) || (!(((rd_T54 l0 x13_1).f1) == ((rd_T54 l1 x13_1).f1)))) = false := by simpa using c8
         clear c8
         have H' := zM H
         clear H
         have p101 : 0 ≤ (x13_1 : Int) := zT zv
         have q101 : x13_1 < (l0.length : Int) := zT zv
         obtain ⟨ad101, e101, hx101_0, hx101_1⟩ := at_T54 HR0.out x13_1 p101 q101
         cases e101
         replace p101 := eq_true p101
         replace q101 := eq_true q101
         have p102 : 0 ≤ (x13_1 : Int) := zT zv
         have q102 : x13_1 < (l1.length : Int) := zT zv
         obtain ⟨ad102, e102, hx102_0, hx102_1⟩ := at_T54 HR1.out x13_1 p102 q102
         cases e102
         replace p102 := eq_true p102
         replace q102 := eq_true q102
         go_wp2
         repeat (go_quiet (fail); try go_wp2)
         go_roundg k1
         case measure => have := HK1.out; omega
         case rel => exact ⟨(wrap64 (x13_1 + 1)), zy, H', ⟨by have := HK1.out; omega⟩, zd⟩
       ·
        rw [if_neg c7] at H
        exact absurd H (by simp)
      ·
       rw [if_neg c6] at H
       exact absurd H (by simp)
     ·
      rw [if_neg c5] at H
      exact absurd H (by simp)
    ·
     rw [if_neg c4] at H
     have c4b0 : decide (x13_1 < (l0.length : Int)) = false := zR c4
     clear c4
     obtain rfl := zS H
     go_wp2
     repeat (go_quiet (fail); try go_wp2)
     go_ret
     exact ⟨zy, zd⟩
 ·
  rw [if_neg c3] at H
  have c3b0 : ((l0.length : Int) == (l1.length : Int)) = false := zE c3
  have c3b1 : ((l0.length : Int) != (l1.length : Int)) = true := zF c3
  have c3b2 : (l0.length == l1.length) = false := by first | simpa using c3 | (simp at c3 ⊢; omega)
  obtain rfl := zS H
  go_enter Try.func27, Try.ntmps27
  go_wp2
  repeat (go_quiet (fail); try go_wp2)
  go_ret
  exact ⟨zy, zd⟩


-- ==== PF65

mutual
def aumbryref04_Behind.j0 : Nat → List (S54) → Int → Bool → Option (Int)
 | 0, _, _, _ => none
 | k + 1, x0, x1, x14 => if x14 = true then (some (-1)) else (if 0 ≤ x1 then (if x1 < (x0.length : Int) then (aumbryref04_Behind.l0 k x0 (wrap64 (x1 + 1)) ((rd_T54 x0 x1).f1) 0) else (none)) else (none))
def aumbryref04_Behind.l0 : Nat → List (S54) → Int → Int → Int → Option (Int)
 | 0, _, _, _, _ => none
 | k + 1, x0, x1, x5, x6 => if x6 < x5 then (if x1 ≥ 0 then ((aumbryref04_Behind.f k x0 x1).bind fun t102 => (aumbryref04_Behind.l0 k x0 t102 x5 (wrap64 (x6 + 1)))) else (some x1)) else (some x1)
def aumbryref04_Behind.f : Nat → List (S54) → Int → Option (Int)
 | 0, _, _ => none
 | k + 1, l0, a1 => if a1 < 0 then (aumbryref04_Behind.j0 k l0 a1 true) else (aumbryref04_Behind.j0 k l0 a1 (decide (a1 ≥ (l0.length : Int))))
end

-- ==== PF54

def aumbryref04_Kids.l0 : Nat → List (S54) → List (List (S54)) → Int → Option ((List (List (S54))))
 | 0, _, _, _ => none
 | k + 1, x0, x3, x4 => if x4 < (x0.length : Int) then ((aumbryref04_Behind.f k x0 x4).bind fun t101 => (if 0 ≤ x4 then (if x4 ≤ t101 then (if t101 ≤ (x0.length : Int) then ((aumbryref04_Copy.f ((x0.take (t101 : Int).toNat).drop (x4 : Int).toNat)).bind fun t106 => (if x3.length < 5864062014805 then ((aumbryref04_Behind.f k x0 x4).bind fun t112 => (aumbryref04_Kids.l0 k x0 (x3 ++ [t106]) t112)) else (none))) else (none)) else (none)) else (none))) else (some x3)
def aumbryref04_Kids.f (k : Nat) (l0 : List (S54)) : Option ((List (List (S54)))) := aumbryref04_Kids.l0 k l0 ([] : List (List (S54))) 1

-- ==== PF45

mutual
def aumbryref03_Kind.j0 : Nat → ByteArray → Bool → Option (Int)
 | 0, _, _ => none
 | k + 1, x0, x15 => if x15 = true then (some 0) else (aumbryref03_Kind.l0 k x0 true true 0)
def aumbryref03_Kind.l0 : Nat → ByteArray → Bool → Bool → Int → Option (Int)
 | 0, _, _, _, _ => none
 | k + 1, x0, x3, x4, x5 => if x5 < (x0.size : Int) then (if 0 ≤ x5 then (if (bt x0 x5) ≥ 48 then (if (bt x0 x5) ≤ 57 then (if x3 = true then (if (bt x0 x5) ≥ 97 then (if (bt x0 x5) ≤ 122 then (if x4 = true then (if (bt x0 x5) ≥ 65 then (if (bt x0 x5) ≤ 90 then (aumbryref03_Kind.l0 k x0 true true (wrap64 (x5 + 1))) else (aumbryref03_Kind.l0 k x0 true (decide (x5 > 0)) (wrap64 (x5 + 1)))) else (aumbryref03_Kind.l0 k x0 true (decide (x5 > 0)) (wrap64 (x5 + 1)))) else (aumbryref03_Kind.l0 k x0 true false (wrap64 (x5 + 1)))) else (if x4 = true then (if (bt x0 x5) ≥ 65 then (if (bt x0 x5) ≤ 90 then (aumbryref03_Kind.l0 k x0 (decide (x5 > 0)) true (wrap64 (x5 + 1))) else (aumbryref03_Kind.l0 k x0 (decide (x5 > 0)) (decide (x5 > 0)) (wrap64 (x5 + 1)))) else (aumbryref03_Kind.l0 k x0 (decide (x5 > 0)) (decide (x5 > 0)) (wrap64 (x5 + 1)))) else (aumbryref03_Kind.l0 k x0 (decide (x5 > 0)) false (wrap64 (x5 + 1))))) else (if x4 = true then (if (bt x0 x5) ≥ 65 then (if (bt x0 x5) ≤ 90 then (aumbryref03_Kind.l0 k x0 (decide (x5 > 0)) true (wrap64 (x5 + 1))) else (aumbryref03_Kind.l0 k x0 (decide (x5 > 0)) (decide (x5 > 0)) (wrap64 (x5 + 1)))) else (aumbryref03_Kind.l0 k x0 (decide (x5 > 0)) (decide (x5 > 0)) (wrap64 (x5 + 1)))) else (aumbryref03_Kind.l0 k x0 (decide (x5 > 0)) false (wrap64 (x5 + 1))))) else (if x4 = true then (if (bt x0 x5) ≥ 65 then (if (bt x0 x5) ≤ 90 then (aumbryref03_Kind.l0 k x0 false true (wrap64 (x5 + 1))) else (aumbryref03_Kind.l0 k x0 false (decide (x5 > 0)) (wrap64 (x5 + 1)))) else (aumbryref03_Kind.l0 k x0 false (decide (x5 > 0)) (wrap64 (x5 + 1)))) else (aumbryref03_Kind.l0 k x0 false false (wrap64 (x5 + 1))))) else (if x3 = true then (if (bt x0 x5) ≥ 97 then (if (bt x0 x5) ≤ 122 then (if x4 = true then (if (bt x0 x5) ≥ 65 then (if (bt x0 x5) ≤ 90 then (aumbryref03_Kind.l0 k x0 true true (wrap64 (x5 + 1))) else (aumbryref03_Kind.l0 k x0 true false (wrap64 (x5 + 1)))) else (aumbryref03_Kind.l0 k x0 true false (wrap64 (x5 + 1)))) else (aumbryref03_Kind.l0 k x0 true false (wrap64 (x5 + 1)))) else (if x4 = true then (if (bt x0 x5) ≥ 65 then (if (bt x0 x5) ≤ 90 then (aumbryref03_Kind.l0 k x0 false true (wrap64 (x5 + 1))) else (aumbryref03_Kind.l0 k x0 false false (wrap64 (x5 + 1)))) else (aumbryref03_Kind.l0 k x0 false false (wrap64 (x5 + 1)))) else (aumbryref03_Kind.l0 k x0 false false (wrap64 (x5 + 1))))) else (if x4 = true then (if (bt x0 x5) ≥ 65 then (if (bt x0 x5) ≤ 90 then (aumbryref03_Kind.l0 k x0 false true (wrap64 (x5 + 1))) else (aumbryref03_Kind.l0 k x0 false false (wrap64 (x5 + 1)))) else (aumbryref03_Kind.l0 k x0 false false (wrap64 (x5 + 1)))) else (aumbryref03_Kind.l0 k x0 false false (wrap64 (x5 + 1))))) else (if x4 = true then (if (bt x0 x5) ≥ 65 then (if (bt x0 x5) ≤ 90 then (aumbryref03_Kind.l0 k x0 false true (wrap64 (x5 + 1))) else (aumbryref03_Kind.l0 k x0 false false (wrap64 (x5 + 1)))) else (aumbryref03_Kind.l0 k x0 false false (wrap64 (x5 + 1)))) else (aumbryref03_Kind.l0 k x0 false false (wrap64 (x5 + 1)))))) else (if x3 = true then (if (bt x0 x5) ≥ 97 then (if (bt x0 x5) ≤ 122 then (if x4 = true then (if (bt x0 x5) ≥ 65 then (if (bt x0 x5) ≤ 90 then (aumbryref03_Kind.l0 k x0 true true (wrap64 (x5 + 1))) else (aumbryref03_Kind.l0 k x0 true false (wrap64 (x5 + 1)))) else (aumbryref03_Kind.l0 k x0 true false (wrap64 (x5 + 1)))) else (aumbryref03_Kind.l0 k x0 true false (wrap64 (x5 + 1)))) else (if x4 = true then (if (bt x0 x5) ≥ 65 then (if (bt x0 x5) ≤ 90 then (aumbryref03_Kind.l0 k x0 false true (wrap64 (x5 + 1))) else (aumbryref03_Kind.l0 k x0 false false (wrap64 (x5 + 1)))) else (aumbryref03_Kind.l0 k x0 false false (wrap64 (x5 + 1)))) else (aumbryref03_Kind.l0 k x0 false false (wrap64 (x5 + 1))))) else (if x4 = true then (if (bt x0 x5) ≥ 65 then (if (bt x0 x5) ≤ 90 then (aumbryref03_Kind.l0 k x0 false true (wrap64 (x5 + 1))) else (aumbryref03_Kind.l0 k x0 false false (wrap64 (x5 + 1)))) else (aumbryref03_Kind.l0 k x0 false false (wrap64 (x5 + 1)))) else (aumbryref03_Kind.l0 k x0 false false (wrap64 (x5 + 1))))) else (if x4 = true then (if (bt x0 x5) ≥ 65 then (if (bt x0 x5) ≤ 90 then (aumbryref03_Kind.l0 k x0 false true (wrap64 (x5 + 1))) else (aumbryref03_Kind.l0 k x0 false false (wrap64 (x5 + 1)))) else (aumbryref03_Kind.l0 k x0 false false (wrap64 (x5 + 1)))) else (aumbryref03_Kind.l0 k x0 false false (wrap64 (x5 + 1)))))) else (none)) else (if x3 = true then (some 1) else (if x4 = true then (some 2) else (some 0)))
end
def aumbryref03_Kind.f (k : Nat) (a0 : ByteArray) : Option (Int) := if (a0.size : Int) < 1 then (aumbryref03_Kind.j0 k a0 true) else (aumbryref03_Kind.j0 k a0 (decide ((a0.size : Int) > 8)))

-- ==== PF56

def aumbryref05_Var.f (k : Nat) (l0 : List (S54)) : Option (Bool) := if (l0.length : Int) = 1 then (if 0 < (l0.length : Int) then ((aumbryref03_Kind.f k ((rd_T54 l0 0).f0)).bind fun t102 => (some (t102 == 2))) else (none)) else (some false)

-- ==== PF57

def aumbryref05_At.l0 : Nat → List (S104) → ByteArray → Int → Int → Option (Int)
 | 0, _, _, _, _ => none
 | k + 1, x0, x1, x7, x8 => if x8 < x7 then (if 0 ≤ x8 then (if x8 < (x0.length : Int) then (if ((rd_T104 x0 x8).f0).toList = x1.toList then (some x8) else (aumbryref05_At.l0 k x0 x1 x7 (wrap64 (x8 + 1)))) else (none)) else (none)) else (some (-1))
def aumbryref05_At.f (k : Nat) (l0 : List (S104)) (a1 : ByteArray) : Option (Int) := aumbryref05_At.l0 k l0 a1 (l0.length : Int) 0

-- ==== PF79

attribute [local go_sem high] eqA54
mutual
def aumbryref05_Fit.l0 : Nat → List (S104) → List (List (S54)) → List (List (S54)) → Int → Int → Option ((List (S104)) × Bool)
 | 0, _, _, _, _, _ => none
 | k + 1, x2, x9, x10, x54, x55 => if x55 < x54 then (if 0 ≤ x55 then (if x55 < (x9.length : Int) then (if x55 < (x10.length : Int) then ((aumbryref05_Fit.f k (rd_L3 x9 x55) (rd_L3 x10 x55) x2).bind fun bt123 => (if bt123.2 = true then (aumbryref05_Fit.l0 k bt123.1 x9 x10 x54 (wrap64 (x55 + 1))) else (some (([] : List (S104)), false)))) else (none)) else (none)) else (none)) else (some (x2, true))
def aumbryref05_Fit.f : Nat → List (S54) → List (S54) → List (S104) → Option ((List (S104)) × Bool)
 | 0, _, _, _ => none
 | k + 1, l0, l1, l2 => (aumbryref05_Var.f k l0).bind fun t101 => (if t101 = true then (if 0 < (l0.length : Int) then ((aumbryref05_At.f k l2 ((rd_T54 l0 0).f0)).bind fun t103 => (if t103 < 0 then ((aumbryref04_Copy.f l1).bind fun t105 => (if l2.length < 3518437208883 then (some ((l2 ++ [(⟨(rd_T54 l0 0).f0, t105⟩ : S104)]), true)) else (none))) else (if 0 ≤ t103 then (if t103 < (l2.length : Int) then ((aumbryref04_Same.f k ((rd_T104 l2 t103).f1) l1).bind fun t112 => (some (l2, t112))) else (none)) else (none)))) else (none)) else (if 0 < (l0.length : Int) then (if 0 < (l1.length : Int) then (if (!((((rd_T54 l0 0).f0).toList) == (((rd_T54 l1 0).f0).toList)) || (!(((rd_T54 l0 0).f1) == ((rd_T54 l1 0).f1)))) = true then (some (([] : List (S104)), false)) else ((aumbryref04_Kids.f k l0).bind fun t115 => ((aumbryref04_Kids.f k l1).bind fun t118 => (aumbryref05_Fit.l0 k l2 t115 t118 (t115.length : Int) 0)))) else (none)) else (none)))
end

-- ==== PF55

def aumbryref07_First.l0 : Nat → List (S73) → List (S54) → Int → Int → Option (Int × (List (S104)))
 | 0, _, _, _, _ => none
 | k + 1, x0, x1, x10, x11 => if x11 < x10 then (if 0 ≤ x11 then (if x11 < (x0.length : Int) then ((aumbryref05_Fit.f k ((rd_T73 x0 x11).f1) x1 ([] : List (S104))).bind fun bt102 => (if bt102.2 = true then (some (x11, bt102.1)) else (aumbryref07_First.l0 k x0 x1 x10 (wrap64 (x11 + 1))))) else (none)) else (none)) else (some ((-1), ([] : List (S104))))
def aumbryref07_First.f (k : Nat) (l0 : List (S73)) (l1 : List (S54)) : Option (Int × (List (S104))) := aumbryref07_First.l0 k l0 l1 (l0.length : Int) 0

-- ==== PF36

mutual
def aumbryref07_Todo.l0 : Nat → List (S54) → List (S104) → List (S70) → List (List (S54)) → Int → Int → Option ((List (S70)))
 | 0, _, _, _, _, _, _ => none
 | k + 1, x0, x1, x5, x6, x26, x27 => if x27 < x26 then (if 0 ≤ x27 then (if x27 < (x6.length : Int) then ((aumbryref07_Todo.f k (rd_L3 x6 x27) x1).bind fun t115 => (if x5.length + t115.length < 2513169434916 then (aumbryref07_Todo.l0 k x0 x1 (x5 ++ t115) x6 x26 (wrap64 (x27 + 1))) else (none))) else (none)) else (none)) else (if 0 < (x0.length : Int) then (if x5.length < 2513169434916 then (some (x5 ++ [(⟨1, (⟨(rd_T54 x0 0).f0, (rd_T54 x0 0).f1⟩ : S54), ([] : List (S54))⟩ : S70)])) else (none)) else (none))
def aumbryref07_Todo.f : Nat → List (S54) → List (S104) → Option ((List (S70)))
 | 0, _, _ => none
 | k + 1, l0, l1 => (aumbryref05_Var.f k l0).bind fun t101 => (if t101 = true then (if 0 < (l0.length : Int) then ((aumbryref05_At.f k l1 ((rd_T54 l0 0).f0)).bind fun t103 => (if 0 ≤ t103 then (if t103 < (l1.length : Int) then ((aumbryref04_Copy.f ((rd_T104 l1 t103).f1)).bind fun t105 => (some (([(⟨2, (⟨(⟨#[]⟩ : ByteArray), 0⟩ : S54), t105⟩ : S70)] : List (S70))))) else (none)) else (none))) else (none)) else ((aumbryref04_Kids.f k l0).bind fun t111 => (aumbryref07_Todo.l0 k l0 l1 ([] : List (S70)) t111 (t111.length : Int) 0)))
end

-- ==== PF34

def aumbryref04_Check.l0 : Nat → List (S54) → Int → Int → Option (Int)
 | 0, _, _, _ => none
 | k + 1, x0, x9, x10 => if x10 < x9 then (if 0 ≤ x10 then (if x10 < (x0.length : Int) then ((aumbryref03_Kind.f k ((rd_T54 x0 x10).f0)).bind fun t103 => (if t103 = 0 then (some 4) else (if ((rd_T54 x0 x10).f1) < 0 then (some 5) else (if ((rd_T54 x0 x10).f1) > 4 then (some 5) else (if t103 = 2 then (if ((rd_T54 x0 x10).f1) = 0 then (aumbryref04_Check.l0 k x0 x9 (wrap64 (x10 + 1))) else (some 5)) else (aumbryref04_Check.l0 k x0 x9 (wrap64 (x10 + 1)))))))) else (none)) else (none)) else ((aumbryref04_Behind.f k x0 0).bind fun t101 => (if t101 = (x0.length : Int) then (some 0) else (some 3)))
def aumbryref04_Check.f (k : Nat) (l0 : List (S54)) : Option (Int) := if (l0.length : Int) > 64 then (some 6) else (aumbryref04_Check.l0 k l0 (l0.length : Int) 0)

-- ==== PF78

def aumbryref03_Has.l0 : Nat → List ByteArray → ByteArray → Int → Int → Option (Bool)
 | 0, _, _, _, _ => none
 | k + 1, x0, x1, x7, x8 => if x8 < x7 then (if 0 ≤ x8 then (if x8 < (x0.length : Int) then (if (rdOf ByteArray.empty x0 x8).toList = x1.toList then (some true) else (aumbryref03_Has.l0 k x0 x1 x7 (wrap64 (x8 + 1)))) else (none)) else (none)) else (some false)
def aumbryref03_Has.f (k : Nat) (l0 : List ByteArray) (a1 : ByteArray) : Option (Bool) := aumbryref03_Has.l0 k l0 a1 (l0.length : Int) 0

-- ==== PF52

def aumbryref04_Vars.l0 : Nat → List (S54) → List ByteArray → Int → Int → Option (List ByteArray)
 | 0, _, _, _, _ => none
 | k + 1, x0, x3, x6, x7 => if x7 < x6 then (if 0 ≤ x7 then (if x7 < (x0.length : Int) then ((aumbryref03_Kind.f k ((rd_T54 x0 x7).f0)).bind fun t102 => (if t102 = 2 then ((aumbryref03_Has.f k x3 ((rd_T54 x0 x7).f0)).bind fun t104 => (if t104 = true then (aumbryref04_Vars.l0 k x0 x3 x6 (wrap64 (x7 + 1))) else (if x3.length < 8796093022208 then (aumbryref04_Vars.l0 k x0 (x3 ++ [(rd_T54 x0 x7).f0]) x6 (wrap64 (x7 + 1))) else (none)))) else (aumbryref04_Vars.l0 k x0 x3 x6 (wrap64 (x7 + 1))))) else (none)) else (none)) else (some x3)
def aumbryref04_Vars.f (k : Nat) (l0 : List (S54)) : Option (List ByteArray) := aumbryref04_Vars.l0 k l0 ([] : List ByteArray) (l0.length : Int) 0

-- ==== PF23

def aumbryref07_Ground.f (k : Nat) (l0 : List (S54)) : Option (Bool) := (aumbryref04_Check.f k l0).bind fun t101 => (if t101 = 0 then ((aumbryref04_Vars.f k l0).bind fun t102 => (some ((t102.length : Int) == 0))) else (some false))

-- ==== PF53

mutual
def aumbryref06_Check.j0 : Nat → Bool → Int → List (S54) → List (S54) → Option (Int)
 | 0, _, _, _, _ => none
 | k + 1, x15, x102000, x102001, x102002 => if x15 = true then (some 1) else ((aumbryref04_Check.f k x102001).bind fun t102 => (if t102 = 0 then ((aumbryref04_Check.f k x102002).bind fun t103 => (if t103 = 0 then (if (x102001.length : Int) > 8 then (aumbryref06_Check.j1 k true x102000 x102001 x102002) else (aumbryref06_Check.j1 k (decide ((x102002.length : Int) > 8)) x102000 x102001 x102002)) else (some t103))) else (some t102)))
def aumbryref06_Check.j1 : Nat → Bool → Int → List (S54) → List (S54) → Option (Int)
 | 0, _, _, _, _ => none
 | k + 1, x37, x102000, x102001, x102002 => if x37 = true then (some 6) else ((aumbryref05_Var.f k x102001).bind fun t104 => (if t104 = true then (some 20) else ((aumbryref04_Vars.f k x102001).bind fun t105 => ((aumbryref04_Vars.f k x102002).bind fun t108 => (aumbryref06_Check.l0 k t105 t108 (t108.length : Int) 0)))))
def aumbryref06_Check.l0 : Nat → List ByteArray → List ByteArray → Int → Int → Option (Int)
 | 0, _, _, _, _ => none
 | k + 1, x5, x6, x48, x49 => if x49 < x48 then (if 0 ≤ x49 then (if x49 < (x6.length : Int) then ((aumbryref03_Has.f k x5 (rdOf ByteArray.empty x6 x49)).bind fun t112 => (if t112 = true then (aumbryref06_Check.l0 k x5 x6 x48 (wrap64 (x49 + 1))) else (some 7))) else (none)) else (none)) else (some 0)
end
def aumbryref06_Check.f (k : Nat) (a0_0 : Int) (l0_1 : List (S54)) (l0_2 : List (S54)) : Option (Int) := if a0_0 < 0 then (aumbryref06_Check.j0 k true a0_0 l0_1 l0_2) else (aumbryref06_Check.j0 k (decide (a0_0 > 65535)) a0_0 l0_1 l0_2)

-- ==== PF25

mutual
def aumbryref07_Together.l0 : Nat → List (S73) → Int → Int → Option (Int)
 | 0, _, _, _ => none
 | k + 1, x0, x7, x8 => if x8 < x7 then (if 0 ≤ x8 then (if x8 < (x0.length : Int) then ((aumbryref06_Check.f k ((rd_T73 x0 x8).f0) ((rd_T73 x0 x8).f1) ((rd_T73 x0 x8).f2)).bind fun t102 => (if t102 = 0 then (aumbryref07_Together.l0 k x0 x7 (wrap64 (x8 + 1))) else (some t102))) else (none)) else (none)) else (aumbryref07_Together.l1 k x0 (x0.length : Int) 0)
def aumbryref07_Together.l1 : Nat → List (S73) → Int → Int → Option (Int)
 | 0, _, _, _ => none
 | k + 1, x0, x21, x22 => if x22 < x21 then (if x22 > 0 then (if 0 ≤ (wrap64 (x22 - 1)) then (if (wrap64 (x22 - 1)) < (x0.length : Int) then (if 0 ≤ x22 then (if x22 < (x0.length : Int) then (if ((rd_T73 x0 (wrap64 (x22 - 1))).f0) ≥ ((rd_T73 x0 x22).f0) then (some 19) else (aumbryref07_Together.l1 k x0 x21 (wrap64 (x22 + 1)))) else (none)) else (none)) else (none)) else (none)) else (aumbryref07_Together.l1 k x0 x21 (wrap64 (x22 + 1)))) else (some 0)
end
def aumbryref07_Together.f (k : Nat) (l0 : List (S73)) : Option (Int) := aumbryref07_Together.l0 k l0 (l0.length : Int) 0

-- ==== PF37

def aumbryref03_Same.l0 : Nat → List ByteArray → List ByteArray → Int → Int → Option (Bool)
 | 0, _, _, _, _ => none
 | k + 1, x0, x1, x12, x13 => if x13 < x12 then (if 0 ≤ x13 then (if x13 < (x0.length : Int) then (if x13 < (x1.length : Int) then (if (rdOf ByteArray.empty x0 x13).toList = (rdOf ByteArray.empty x1 x13).toList then (aumbryref03_Same.l0 k x0 x1 x12 (wrap64 (x13 + 1))) else (some false)) else (none)) else (none)) else (none)) else (some true)
def aumbryref03_Same.f (k : Nat) (l0 : List ByteArray) (l1 : List ByteArray) : Option (Bool) := if (l0.length : Int) = (l1.length : Int) then (aumbryref03_Same.l0 k l0 l1 (l0.length : Int) 0) else (some false)
theorem aumbryref03_Same.calls (k : Nat) (A0 : Option Addr) (c0 : Nat) (l0 : List ByteArray) (A1 : Option Addr) (c1 : Nat) (l1 : List ByteArray) (r : Bool) (w : World) (hr0 : Kd.C Kd.string w A0 l0.length l0) (hc0 : l0.length ≤ c0) (hr1 : Kd.C Kd.string w A1 l1.length l1) (hc1 : l1.length ≤ c1) (h : aumbryref03_Same.f k l0 l1 = some r) :
 Calls Try.prog 37 #[.slice A0 l0.length c0, .slice A1 l1.length c1] w fun e w' => e = .returned (.bool r) ∧ Drawn0 w w' := by
 have HR0 := zM hr0
 have HC0 := zM hc0
 clear hr0 hc0
 have HR1 := zM hr1
 have HC1 := zM hc1
 clear hr1 hc1
 have H : (if (l0.length : Int) = (l1.length : Int) then (aumbryref03_Same.l0 k l0 l1 (l0.length : Int) 0) else (some false)) = some r := h
 clear h
 by_cases c3 : (l0.length : Int) = (l1.length : Int)
 ·
  rw [if_pos c3] at H
  have c3b0 : ((l0.length : Int) == (l1.length : Int)) = true := zG c3
  have c3b1 : ((l0.length : Int) != (l1.length : Int)) = false := zH c3
  have c3b2 : (l0.length == l1.length) = true := by first | simpa using c3 | (simp at c3 ⊢; omega)
  clear c3
  have H' := zM H
  clear H
  go_enter Try.func37, Try.ntmps37
  go_wp2
  repeat (go_quiet (fail); try go_wp2)
  go_loopg [13] k (fun kq v13 w' => ∃ (x13_1 : Int), v13 = .int .i64 x13_1 ∧ Aside0 (aumbryref03_Same.l0 kq l0 l1 (l0.length : Int) x13_1 = some r) ∧ Aside0 (kq ≤ k) ∧ Drawn0 w w')
  case atStart => exact ⟨(0), zy, H', ⟨Nat.le_refl _⟩, zd⟩
  case round =>
   clear H'
   try clear c1
   try clear p2
   try clear c3
   try clear c3b0
   try clear c3b1
   try clear c3b2
   obtain ⟨x13_1, rfl, HA, HK1, ⟨m1, rfl⟩⟩ := hrel
   cases gk with
   | zero => exact absurd HA.out (by simp [aumbryref03_Same.l0])
   | succ k1 =>
    have H := HA.out
    clear HA
    simp only [aumbryref03_Same.l0] at H
    by_cases c4 : x13_1 < (l0.length : Int)
    ·
     rw [if_pos c4] at H
     have c4b0 : decide (x13_1 < (l0.length : Int)) = true := zQ c4
     clear c4
     by_cases c5 : 0 ≤ x13_1
     ·
      rw [if_pos c5] at H
      have c5b0 : decide (0 ≤ x13_1) = true := zQ c5
      clear c5
      by_cases c6 : x13_1 < (l0.length : Int)
      ·
       rw [if_pos c6] at H
       have c6b0 : decide (x13_1 < (l0.length : Int)) = true := zQ c6
       clear c6
       by_cases c7 : x13_1 < (l1.length : Int)
       ·
        rw [if_pos c7] at H
        have c7b0 : decide (x13_1 < (l1.length : Int)) = true := zQ c7
        clear c7
        by_cases c8 : (rdOf ByteArray.empty l0 x13_1).toList = (rdOf ByteArray.empty l1 x13_1).toList
        ·
         rw [if_pos c8] at H
         have c8b0 : ((rdOf ByteArray.empty l0 x13_1).toList == (rdOf ByteArray.empty l1 x13_1).toList) = true := zG c8
         have c8b1 : ((rdOf ByteArray.empty l0 x13_1).toList != (rdOf ByteArray.empty l1 x13_1).toList) = false := zH c8
         clear c8
         have H' := zM H
         clear H
         have p101 : 0 ≤ (x13_1 : Int) := zT zv
         have q101 : x13_1 < (l0.length : Int) := zT zv
         obtain ⟨ad101, e101, hx101_0⟩ := Kd.at_string HR0.out x13_1 p101 q101
         cases e101
         replace p101 := eq_true p101
         replace q101 := eq_true q101
         have p102 : 0 ≤ (x13_1 : Int) := zT zv
         have q102 : x13_1 < (l1.length : Int) := zT zv
         obtain ⟨ad102, e102, hx102_0⟩ := Kd.at_string HR1.out x13_1 p102 q102
         cases e102
         replace p102 := eq_true p102
         replace q102 := eq_true q102
         go_wp2
         repeat (go_quiet (fail); try go_wp2)
         go_roundg k1
         case measure => have := HK1.out; omega
         case rel => exact ⟨(wrap64 (x13_1 + 1)), zy, H', ⟨by have := HK1.out; omega⟩, zd⟩
        ·
         rw [if_neg c8] at H
         have c8b0 : ((rdOf ByteArray.empty l0 x13_1).toList == (rdOf ByteArray.empty l1 x13_1).toList) = false := zE c8
         have c8b1 : ((rdOf ByteArray.empty l0 x13_1).toList != (rdOf ByteArray.empty l1 x13_1).toList) = true := zF c8
         obtain rfl := zS H
         have p101 : 0 ≤ (x13_1 : Int) := zT zv
         have q101 : x13_1 < (l0.length : Int) := zT zv
         obtain ⟨ad101, e101, hx101_0⟩ := Kd.at_string HR0.out x13_1 p101 q101
         cases e101
         replace p101 := eq_true p101
         replace q101 := eq_true q101
         have p102 : 0 ≤ (x13_1 : Int) := zT zv
         have q102 : x13_1 < (l1.length : Int) := zT zv
         obtain ⟨ad102, e102, hx102_0⟩ := Kd.at_string HR1.out x13_1 p102 q102
         cases e102
         replace p102 := eq_true p102
         replace q102 := eq_true q102
         go_wp2
         repeat (go_quiet (fail); try go_wp2)
         go_ret
         exact ⟨zy, zd⟩
       ·
        rw [if_neg c7] at H
        exact absurd H (by simp)
      ·
       rw [if_neg c6] at H
       exact absurd H (by simp)
     ·
      rw [if_neg c5] at H
      exact absurd H (by simp)
    ·
     rw [if_neg c4] at H
     have c4b0 : decide (x13_1 < (l0.length : Int)) = false := zR c4
     clear c4
     obtain rfl := zS H
     go_wp2
     repeat (go_quiet (fail); try go_wp2)
     go_ret
     exact ⟨zy, zd⟩
 ·
  rw [if_neg c3] at H
  have c3b0 : ((l0.length : Int) == (l1.length : Int)) = false := zE c3
  have c3b1 : ((l0.length : Int) != (l1.length : Int)) = true := zF c3
  have c3b2 : (l0.length == l1.length) = false := by first | simpa using c3 | (simp at c3 ⊢; omega)
  obtain rfl := zS H
  go_enter Try.func37, Try.ntmps37
  go_wp2
  repeat (go_quiet (fail); try go_wp2)
  go_ret
  exact ⟨zy, zd⟩


-- ==== PF38

def aumbryref04_SameAll.l0 : Nat → List (List (S54)) → List (List (S54)) → Int → Int → Option (Bool)
 | 0, _, _, _, _ => none
 | k + 1, x0, x1, x12, x13 => if x13 < x12 then (if 0 ≤ x13 then (if x13 < (x0.length : Int) then (if x13 < (x1.length : Int) then ((aumbryref04_Same.f k (rd_L3 x0 x13) (rd_L3 x1 x13)).bind fun t103 => (if t103 = true then (aumbryref04_SameAll.l0 k x0 x1 x12 (wrap64 (x13 + 1))) else (some false))) else (none)) else (none)) else (none)) else (some true)
def aumbryref04_SameAll.f (k : Nat) (l0 : List (List (S54))) (l1 : List (List (S54))) : Option (Bool) := if (l0.length : Int) = (l1.length : Int) then (aumbryref04_SameAll.l0 k l0 l1 (l0.length : Int) 0) else (some false)
theorem aumbryref04_SameAll.calls (k : Nat) (A0 : Option Addr) (c0 : Nat) (l0 : List (List (S54))) (A1 : Option Addr) (c1 : Nat) (l1 : List (List (S54))) (r : Bool) (w : World) (hr0 : Kd.C (Kd.slice 54 k54) w A0 l0.length l0) (hc0 : l0.length ≤ c0) (hr1 : Kd.C (Kd.slice 54 k54) w A1 l1.length l1) (hc1 : l1.length ≤ c1) (h : aumbryref04_SameAll.f k l0 l1 = some r) :
 Calls Try.prog 38 #[.slice A0 l0.length c0, .slice A1 l1.length c1] w fun e w' => e = .returned (.bool r) ∧ Drawn0 w w' := by
 have HR0 := zM hr0
 have HC0 := zM hc0
 clear hr0 hc0
 have HR1 := zM hr1
 have HC1 := zM hc1
 clear hr1 hc1
 have H : (if (l0.length : Int) = (l1.length : Int) then (aumbryref04_SameAll.l0 k l0 l1 (l0.length : Int) 0) else (some false)) = some r := h
 clear h
 by_cases c3 : (l0.length : Int) = (l1.length : Int)
 ·
  rw [if_pos c3] at H
  have c3b0 : ((l0.length : Int) == (l1.length : Int)) = true := zG c3
  have c3b1 : ((l0.length : Int) != (l1.length : Int)) = false := zH c3
  have c3b2 : (l0.length == l1.length) = true := by first | simpa using c3 | (simp at c3 ⊢; omega)
  clear c3
  have H' := zM H
  clear H
  go_enter Try.func38, Try.ntmps38
  go_wp2
  repeat (go_quiet (fail); try go_wp2)
  go_loopg [13] k (fun kq v13 w' => ∃ (x13_1 : Int), v13 = .int .i64 x13_1 ∧ Aside0 (aumbryref04_SameAll.l0 kq l0 l1 (l0.length : Int) x13_1 = some r) ∧ Aside0 (kq ≤ k) ∧ Drawn0 w w')
  case atStart => exact ⟨(0), zy, H', ⟨Nat.le_refl _⟩, zd⟩
  case round =>
   clear H'
   try clear c1
   try clear p2
   try clear c3
   try clear c3b0
   try clear c3b1
   try clear c3b2
   obtain ⟨x13_1, rfl, HA, HK1, ⟨m1, rfl⟩⟩ := hrel
   cases gk with
   | zero => exact absurd HA.out (by simp [aumbryref04_SameAll.l0])
   | succ k1 =>
    have H := HA.out
    clear HA
    simp only [aumbryref04_SameAll.l0] at H
    by_cases c4 : x13_1 < (l0.length : Int)
    ·
     rw [if_pos c4] at H
     have c4b0 : decide (x13_1 < (l0.length : Int)) = true := zQ c4
     clear c4
     by_cases c5 : 0 ≤ x13_1
     ·
      rw [if_pos c5] at H
      have c5b0 : decide (0 ≤ x13_1) = true := zQ c5
      clear c5
      by_cases c6 : x13_1 < (l0.length : Int)
      ·
       rw [if_pos c6] at H
       have c6b0 : decide (x13_1 < (l0.length : Int)) = true := zQ c6
       clear c6
       by_cases c7 : x13_1 < (l1.length : Int)
       ·
        rw [if_pos c7] at H
        have c7b0 : decide (x13_1 < (l1.length : Int)) = true := zQ c7
        clear c7
        replace H := zB H
        obtain ⟨t103, A80, H⟩ := H
        try dsimp only at H
        have A8 := zM A80
        clear A80
        by_cases c9 : t103 = true
        ·
         subst c9
         rw [if_pos rfl] at H
         have H' := zM H
         clear H
         have p101 : 0 ≤ (x13_1 : Int) := zT zv
         have q101 : x13_1 < (l0.length : Int) := zT zv
         obtain ⟨ad101, A101_0, c101_0, e101, hx101_0, hl101_0, hi101_0⟩ := at_L3 HR0.out x13_1 p101 q101
         cases e101
         have HR101_0 := zM hi101_0
         have HC101_0 := zM hl101_0
         clear hi101_0 hl101_0
         replace p101 := eq_true p101
         replace q101 := eq_true q101
         have p102 : 0 ≤ (x13_1 : Int) := zT zv
         have q102 : x13_1 < (l1.length : Int) := zT zv
         obtain ⟨ad102, A102_0, c102_0, e102, hx102_0, hl102_0, hi102_0⟩ := at_L3 HR1.out x13_1 p102 q102
         cases e102
         have HR102_0 := zM hi102_0
         have HC102_0 := zM hl102_0
         clear hi102_0 hl102_0
         replace p102 := eq_true p102
         replace q102 := eq_true q102
         go_wp2
         repeat (go_quiet (first | (go_at_call 27; (with_reducible refine (aumbryref04_Same.calls k1 _ _ (rd_L3 l0 x13_1) _ _ (rd_L3 l1 x13_1) true _ ?side1 ?side2 ?side3 ?side4 A8.out).mono ?_); (case side1 => exact Kd.C_below HR101_0.out zg); (case side2 => exact HC101_0.out); (case side3 => exact Kd.C_below HR102_0.out zg); (case side4 => exact HC102_0.out); rintro e w' ⟨rfl, ⟨nd, rfl⟩⟩; (try first | exact ⟨rfl, _, World.drewN_drewN _ _ _⟩ | exact ⟨rfl, _, Eq.trans (World.drewN_drewN _ _ _) (congrArg (World.drewN _) (Nat.add_assoc _ _ _))⟩))); try go_wp2)
         go_roundg k1
         case measure => have := HK1.out; omega
         case rel => exact ⟨(wrap64 (x13_1 + 1)), zy, H', ⟨by have := HK1.out; omega⟩, zd⟩
        ·
         replace c9 := zI c9
         subst c9
         rw [if_neg (show ¬ (false = true) by decide)] at H
         obtain rfl := zS H
         have p101 : 0 ≤ (x13_1 : Int) := zT zv
         have q101 : x13_1 < (l0.length : Int) := zT zv
         obtain ⟨ad101, A101_0, c101_0, e101, hx101_0, hl101_0, hi101_0⟩ := at_L3 HR0.out x13_1 p101 q101
         cases e101
         have HR101_0 := zM hi101_0
         have HC101_0 := zM hl101_0
         clear hi101_0 hl101_0
         replace p101 := eq_true p101
         replace q101 := eq_true q101
         have p102 : 0 ≤ (x13_1 : Int) := zT zv
         have q102 : x13_1 < (l1.length : Int) := zT zv
         obtain ⟨ad102, A102_0, c102_0, e102, hx102_0, hl102_0, hi102_0⟩ := at_L3 HR1.out x13_1 p102 q102
         cases e102
         have HR102_0 := zM hi102_0
         have HC102_0 := zM hl102_0
         clear hi102_0 hl102_0
         replace p102 := eq_true p102
         replace q102 := eq_true q102
         go_wp2
         repeat (go_quiet (first | (go_at_call 27; (with_reducible refine (aumbryref04_Same.calls k1 _ _ (rd_L3 l0 x13_1) _ _ (rd_L3 l1 x13_1) false _ ?side1 ?side2 ?side3 ?side4 A8.out).mono ?_); (case side1 => exact Kd.C_below HR101_0.out zg); (case side2 => exact HC101_0.out); (case side3 => exact Kd.C_below HR102_0.out zg); (case side4 => exact HC102_0.out); rintro e w' ⟨rfl, ⟨nd, rfl⟩⟩; (try first | exact ⟨rfl, _, World.drewN_drewN _ _ _⟩ | exact ⟨rfl, _, Eq.trans (World.drewN_drewN _ _ _) (congrArg (World.drewN _) (Nat.add_assoc _ _ _))⟩))); try go_wp2)
         go_ret
         exact ⟨zy, zd⟩
       ·
        rw [if_neg c7] at H
        exact absurd H (by simp)
      ·
       rw [if_neg c6] at H
       exact absurd H (by simp)
     ·
      rw [if_neg c5] at H
      exact absurd H (by simp)
    ·
     rw [if_neg c4] at H
     have c4b0 : decide (x13_1 < (l0.length : Int)) = false := zR c4
     clear c4
     obtain rfl := zS H
     go_wp2
     repeat (go_quiet (fail); try go_wp2)
     go_ret
     exact ⟨zy, zd⟩
 ·
  rw [if_neg c3] at H
  have c3b0 : ((l0.length : Int) == (l1.length : Int)) = false := zE c3
  have c3b1 : ((l0.length : Int) != (l1.length : Int)) = true := zF c3
  have c3b2 : (l0.length == l1.length) = false := by first | simpa using c3 | (simp at c3 ⊢; omega)
  obtain rfl := zS H
  go_enter Try.func38, Try.ntmps38
  go_wp2
  repeat (go_quiet (fail); try go_wp2)
  go_ret
  exact ⟨zy, zd⟩


-- ==== PF69

abbrev CkC := S54
structure IsRu (W : World) (g : Nat) (id : Int) (A1 : Option Addr) (c1 : Nat) (l : List CkC) (A2 : Option Addr) (c2 : Nat) (r : List CkC) : Prop where
 blk : W.heap[g]? = some (.cells #[.int .i64 id, .slice A1 l.length c1, .slice A2 r.length c2] 73 (0, 0))
 hl : Kd.C k54 W A1 l.length l
 hl' : l.length ≤ c1
 hr : Kd.C k54 W A2 r.length r
 hr' : r.length ≤ c2
theorem IsRu.below {W W' : World} {g c1 c2 : Nat} {id : Int} {A1 A2 : Option Addr} {l r : List CkC} (h : IsRu W g id A1 c1 l A2 c2 r) (hb : Below W.heap.size W W') : IsRu W' g id A1 c1 l A2 c2 r :=
 ⟨(hb.block g (blk_lt h.blk)).trans h.blk, Kd.C_below h.hl hb, h.hl', Kd.C_below h.hr hb, h.hr'⟩
theorem when_calls (b : Bool) (e : Int) (w : World) : Calls Try.prog 83 #[.bool b, .int .i64 e] w fun x w' => x = .returned (.int .i64 (if b = true then e else 0)) ∧ w' = w := by
 cases b
 ·
  go_enter Try.func83, Try.ntmps83
  go_wp2
  go_ret
  exact ⟨rfl, rfl⟩
 ·
  go_enter Try.func83, Try.ntmps83
  go_wp2
  go_ret
  exact ⟨rfl, rfl⟩
theorem ck1_calls {W : World} {g c1 c2 : Nat} {id : Int} {A1 A2 : Option Addr} {l r : List CkC} (h : IsRu W g id A1 c1 l A2 c2 r) :
 Calls Try.prog 82 #[.pointer (some ⟨g, 0, none⟩)] W fun x w' => x = .returned (.int .i64 (if id < 0 then 1 else if id > 65535 then 1 else 0)) ∧ Below W.heap.size W w' := by
 have hc0 : W.cell? ⟨g, 0, none⟩ = some (.int .i64 id) := (zX h.blk 0).trans rfl
 clear h
 by_cases h1 : id < 0
 ·
  have d1 : decide (id < 0) = true := zQ h1
  rw [if_pos h1]
  clear h1
  go_enter Try.func82, Try.ntmps82
  go_wp2_with (first | (go_at_call 83; (with_reducible refine (when_calls _ _ _).mono ?_); rintro e w1 ⟨rfl, rfl⟩))
  repeat (go_quiet (first | (go_at_call 83; (with_reducible refine (when_calls _ _ _).mono ?_); rintro e w1 ⟨rfl, rfl⟩)); try go_wp2_with (first | (go_at_call 83; (with_reducible refine (when_calls _ _ _).mono ?_); rintro e w1 ⟨rfl, rfl⟩)))
  all_goals (go_ret; exact ⟨by first | rfl | (simp; done) | (simp [*]; done) | (simp [*]; omega), by repeat (first | exact Below.refl _ _ | apply zN | apply zD)⟩)
 ·
  have d1 : decide (id < 0) = false := zR h1
  rw [if_neg h1]
  by_cases h2 : id > 65535
  ·
   have d2 : decide (65535 < id) = true := zQ h2
   rw [if_pos h2]
   clear h1 h2
   go_enter Try.func82, Try.ntmps82
   go_wp2_with (first | (go_at_call 83; (with_reducible refine (when_calls _ _ _).mono ?_); rintro e w1 ⟨rfl, rfl⟩))
   repeat (go_quiet (first | (go_at_call 83; (with_reducible refine (when_calls _ _ _).mono ?_); rintro e w1 ⟨rfl, rfl⟩)); try go_wp2_with (first | (go_at_call 83; (with_reducible refine (when_calls _ _ _).mono ?_); rintro e w1 ⟨rfl, rfl⟩)))
   all_goals (go_ret; exact ⟨by first | rfl | (simp; done) | (simp [*]; done) | (simp [*]; omega), by repeat (first | exact Below.refl _ _ | apply zN | apply zD)⟩)
  ·
   have d2 : decide (65535 < id) = false := zR h2
   rw [if_neg h2]
   clear h1 h2
   go_enter Try.func82, Try.ntmps82
   go_wp2_with (first | (go_at_call 83; (with_reducible refine (when_calls _ _ _).mono ?_); rintro e w1 ⟨rfl, rfl⟩))
   repeat (go_quiet (first | (go_at_call 83; (with_reducible refine (when_calls _ _ _).mono ?_); rintro e w1 ⟨rfl, rfl⟩)); try go_wp2_with (first | (go_at_call 83; (with_reducible refine (when_calls _ _ _).mono ?_); rintro e w1 ⟨rfl, rfl⟩)))
   all_goals (go_ret; exact ⟨by first | rfl | (simp; done) | (simp [*]; done) | (simp [*]; omega), by repeat (first | exact Below.refl _ _ | apply zN | apply zD)⟩)
theorem ck2_calls {W : World} {g c1 c2 k : Nat} {id e : Int} {A1 A2 : Option Addr} {l r : List CkC} (h : IsRu W g id A1 c1 l A2 c2 r) (he : term_Check.f k l = some e) :
 Calls Try.prog 84 #[.pointer (some ⟨g, 0, none⟩)] W fun x w' => x = .returned (.int .i64 e) ∧ Below W.heap.size W w' := by
 have hc0 : W.cell? ⟨g, 1, none⟩ = some (.slice A1 l.length c1) := (zX h.blk 1).trans rfl
 have C1 := term_Check.calls k A1 c1 l e W h.hl h.hl' he
 clear h he
 go_enter Try.func84, Try.ntmps84
 go_wp2_with (go_at_call 30; (with_reducible refine C1.mono ?_); rintro e w1 ⟨rfl, hb⟩; have HB := zM hb; clear hb)
 go_ret
 exact ⟨rfl, HB.out⟩
theorem ck3_calls {W : World} {g c1 c2 k : Nat} {id e : Int} {A1 A2 : Option Addr} {l r : List CkC} (h : IsRu W g id A1 c1 l A2 c2 r) (he : term_Check.f k r = some e) :
 Calls Try.prog 85 #[.pointer (some ⟨g, 0, none⟩)] W fun x w' => x = .returned (.int .i64 e) ∧ Below W.heap.size W w' := by
 have hc0 : W.cell? ⟨g, 2, none⟩ = some (.slice A2 r.length c2) := (zX h.blk 2).trans rfl
 have C1 := term_Check.calls k A2 c2 r e W h.hr h.hr' he
 clear h he
 go_enter Try.func85, Try.ntmps85
 go_wp2_with (go_at_call 30; (with_reducible refine C1.mono ?_); rintro e w1 ⟨rfl, hb⟩; have HB := zM hb; clear hb)
 go_ret
 exact ⟨rfl, HB.out⟩
theorem ck4_calls {W : World} {g c1 c2 : Nat} {id : Int} {A1 A2 : Option Addr} {l r : List CkC} (h : IsRu W g id A1 c1 l A2 c2 r) :
 Calls Try.prog 86 #[.pointer (some ⟨g, 0, none⟩)] W fun x w' => x = .returned (.int .i64 (if l.length > 8 then 6 else if r.length > 8 then 6 else 0)) ∧ Below W.heap.size W w' := by
 have hc1 : W.cell? ⟨g, 1, none⟩ = some (.slice A1 l.length c1) := (zX h.blk 1).trans rfl
 have hc2 : W.cell? ⟨g, 2, none⟩ = some (.slice A2 r.length c2) := (zX h.blk 2).trans rfl
 clear h
 by_cases hq : 8 < l.length ∨ 8 < r.length
 ·
  have HQ := zM hq
  have he : (if l.length > 8 then (6 : Int) else if r.length > 8 then 6 else 0) = 6 := by
   by_cases h1 : l.length > 8
   ·
    rw [if_pos h1]
   ·
    rw [if_neg h1, if_pos (by omega)]
  rw [he]
  clear he hq
  go_enter Try.func86, Try.ntmps86
  go_wp2_with (first | (go_at_call 83; (with_reducible refine (when_calls _ _ _).mono ?_); rintro e w1 ⟨rfl, rfl⟩))
  repeat (go_quiet (first | (go_at_call 83; (with_reducible refine (when_calls _ _ _).mono ?_); rintro e w1 ⟨rfl, rfl⟩)); try go_wp2_with (first | (go_at_call 83; (with_reducible refine (when_calls _ _ _).mono ?_); rintro e w1 ⟨rfl, rfl⟩)))
  all_goals (go_ret; exact ⟨by first | rfl | (simp; done) | (simp [*]; done) | (exfalso; have := HQ.out; omega), by repeat (first | exact Below.refl _ _ | apply zN | apply zD)⟩)
 ·
  have HQ := zM hq
  have he : (if l.length > 8 then (6 : Int) else if r.length > 8 then 6 else 0) = 0 := by
   rw [if_neg (by omega), if_neg (by omega)]
  rw [he]
  clear he hq
  go_enter Try.func86, Try.ntmps86
  go_wp2_with (first | (go_at_call 83; (with_reducible refine (when_calls _ _ _).mono ?_); rintro e w1 ⟨rfl, rfl⟩))
  repeat (go_quiet (first | (go_at_call 83; (with_reducible refine (when_calls _ _ _).mono ?_); rintro e w1 ⟨rfl, rfl⟩)); try go_wp2_with (first | (go_at_call 83; (with_reducible refine (when_calls _ _ _).mono ?_); rintro e w1 ⟨rfl, rfl⟩)))
  all_goals (go_ret; exact ⟨by first | rfl | (simp; done) | (simp [*]; done) | (exfalso; have := HQ.out; omega), by repeat (first | exact Below.refl _ _ | apply zN | apply zD)⟩)
theorem ck5_calls {W : World} {g c1 c2 k : Nat} {id e : Int} {A1 A2 : Option Addr} {l r : List CkC} (h : IsRu W g id A1 c1 l A2 c2 r) (hp : 0 < l.length) (he : name_Kind.f k (rd_T54 l 0).f0 = some e) :
 Calls Try.prog 87 #[.pointer (some ⟨g, 0, none⟩)] W fun x w' => x = .returned (.int .i64 (if e = 2 then 20 else 0)) ∧ Below W.heap.size W w' := by
 have hc1 : W.cell? ⟨g, 1, none⟩ = some (.slice A1 l.length c1) := (zX h.blk 1).trans rfl
 obtain ⟨ad101, e101, hx101_0, hx101_1⟩ := at_T54 h.hl 0 (by omega) (by omega)
 cases e101
 have C1 := fun W => name_Kind.calls k _ e W he
 clear h he
 have qi101 : (0 < l.length) = True := eq_true hp
 have c3b1 : decide (0 < l.length) = true := zQ hp
 clear hp
 (try rw [show ((0 : Int)).toNat = 0 from rfl] at hx101_0)
 (try rw [show 0 * 2 = 0 from rfl] at hx101_0)
 (try rw [Addr.add_zero'] at hx101_0)
 clear hx101_1
 by_cases h2 : e = 2
 ·
  have d2 : (e == 2) = true := zG h2
  rw [if_pos h2]
  clear h2
  go_enter Try.func87, Try.ntmps87
  go_wp2_with (first | (go_at_call 43; (with_reducible refine (C1 _).mono ?_); rintro e w1 ⟨rfl, ⟨nd, rfl⟩⟩) | (go_at_call 83; (with_reducible refine (when_calls _ _ _).mono ?_); rintro e w1 ⟨rfl, rfl⟩))
  repeat (go_quiet (first | (go_at_call 43; (with_reducible refine (C1 _).mono ?_); rintro e w1 ⟨rfl, ⟨nd, rfl⟩⟩) | (go_at_call 83; (with_reducible refine (when_calls _ _ _).mono ?_); rintro e w1 ⟨rfl, rfl⟩)); try go_wp2_with (first | (go_at_call 43; (with_reducible refine (C1 _).mono ?_); rintro e w1 ⟨rfl, ⟨nd, rfl⟩⟩) | (go_at_call 83; (with_reducible refine (when_calls _ _ _).mono ?_); rintro e w1 ⟨rfl, rfl⟩)))
  all_goals (go_ret; exact ⟨by first | rfl | (simp; done) | (simp [*]; done) | (simp [*]; omega), by repeat (first | exact Below.refl _ _ | apply zN | apply zD)⟩)
 ·
  have d2 : (e == 2) = false := zE h2
  rw [if_neg h2]
  clear h2
  go_enter Try.func87, Try.ntmps87
  go_wp2_with (first | (go_at_call 43; (with_reducible refine (C1 _).mono ?_); rintro e w1 ⟨rfl, ⟨nd, rfl⟩⟩) | (go_at_call 83; (with_reducible refine (when_calls _ _ _).mono ?_); rintro e w1 ⟨rfl, rfl⟩))
  repeat (go_quiet (first | (go_at_call 43; (with_reducible refine (C1 _).mono ?_); rintro e w1 ⟨rfl, ⟨nd, rfl⟩⟩) | (go_at_call 83; (with_reducible refine (when_calls _ _ _).mono ?_); rintro e w1 ⟨rfl, rfl⟩)); try go_wp2_with (first | (go_at_call 43; (with_reducible refine (C1 _).mono ?_); rintro e w1 ⟨rfl, ⟨nd, rfl⟩⟩) | (go_at_call 83; (with_reducible refine (when_calls _ _ _).mono ?_); rintro e w1 ⟨rfl, rfl⟩)))
  all_goals (go_ret; exact ⟨by first | rfl | (simp; done) | (simp [*]; done) | (simp [*]; omega), by repeat (first | exact Below.refl _ _ | apply zN | apply zD)⟩)
def strF (k : Nat) (vl : List ByteArray) : List ByteArray → Option Bool
 | [] => some false
 | v :: u => (slices_Contains_string_string.f k vl v).bind fun b => if b = true then strF k vl u else some true
structure IsVl (W : World) (p : Nat) (A : Option Addr) (c : Nat) (vl : List ByteArray) : Prop where
 blk : W.heap[p]? = some (.cells #[.slice A vl.length c] 26 (0, 0))
 hl : Kd.C Kd.string W A vl.length vl
 hc : vl.length ≤ c
theorem IsVl.below {W W' : World} {p c : Nat} {A : Option Addr} {vl : List ByteArray} (h : IsVl W p A c vl) (hb : Below W.heap.size W W') : IsVl W' p A c vl :=
 ⟨(hb.block p (blk_lt h.blk)).trans h.blk, Kd.C_below h.hl hb, h.hc⟩
theorem st1_calls {W : World} {p c k : Nat} {A : Option Addr} {vl : List ByteArray} {v : ByteArray} {b : Bool} (h : IsVl W p A c vl) (hf : slices_Contains_string_string.f k vl v = some b) :
 Calls Try.prog 97 #[.string v, .pointer (some ⟨p, 0, none⟩)] W fun x w' => x = .returned (.bool (!b)) ∧ Below W.heap.size W w' := by
 have hc0 : W.cell? ⟨p, 0, none⟩ = some (.slice A vl.length c) := (zX h.blk 0).trans rfl
 have C1 := slices_Contains_string_string.calls k A c vl v b W h.hl h.hc hf
 clear h hf
 go_enter Try.func97, Try.ntmps97
 go_wp2_with (first | (go_at_call 80; (with_reducible refine C1.mono ?_); rintro e w1 ⟨rfl, hb⟩; have HB := zM hb.below; clear hb))
 go_ret
 exact ⟨rfl, HB.out⟩
theorem ifn_calls {w : World} {p c k cr : Nat} {A Ar : Option Addr} {vl vr : List ByteArray} {b : Bool} (h : IsVl w p A c vl) (hr : Kd.C Kd.string w Ar vr.length vr) (hf : strF k vl vr = some b) :
 Calls Try.prog 105 #[.slice Ar vr.length cr, .func (.func 97) #[] #[.pointer (some ⟨p, 0, none⟩)]] w fun x w' => (∃ j : Int, x = .returned (.int .i64 j) ∧ decide (0 ≤ j) = b) ∧ Below w.heap.size w w' := by
 have HV := zM h
 have HR := zM hr
 have HF := zM hf
 have HM := zM (show (vr.length : Int) ≤ 9223372036854775807 by have := hr.2.1; omega)
 clear h hr hf
 have HB := zM (Below.refl w.heap.size w)
 go_enter Try.func105, Try.ntmps105
 go_wp2
 go_loopg [8] vr.length (fun kq v8 w' => ∃ x : Int, v8 = .int .i64 x ∧ Aside0 (0 ≤ x ∧ x + kq = (vr.length : Int)) ∧ Aside0 (strF k vl (vr.drop x.toNat) = some b) ∧ Aside0 (Below w.heap.size w w'))
 case atStart => exact ⟨0, rfl, ⟨by omega⟩, HF, HB⟩
 case round =>
  clear HF HB
  obtain ⟨x, rfl, HI, HF, HB⟩ := hrel
  cases gk with
  | succ k1 =>
   have hi : 0 ≤ x ∧ x < (vr.length : Int) := by have := HI.out; omega
   have hb0 : decide (x < (vr.length : Int)) = true := zQ hi.2
   have hb2 : decide (0 ≤ x) = true := zQ hi.1
   have hd : vr.drop x.toNat = rdOf ByteArray.empty vr x :: vr.drop (x.toNat + 1) := by
    rw [List.drop_eq_getElem_cons (by omega)]
    congr 1
    unfold rdOf
    rw [List.getD_eq_getElem?_getD, List.getElem?_eq_getElem (by omega)]
    rfl
   obtain ⟨ad, rfl, hx⟩ := Kd.at_string HR.out x hi.1 hi.2
   replace hx := (HB.out.cell (World.block_lt_of_cell? w _ hx)).trans hx
   have hf := HF.out
   rw [hd] at hf
   unfold strF at hf
   obtain ⟨b1, hb1, hf⟩ := zB hf
   have HX := zM hi
   have S1 := fun (W : World) (hW : Below w.heap.size w W) => st1_calls (HV.out.below hW) hb1
   have hp := eq_true hi.1
   have hq := eq_true hi.2
   cases b1 with
   | true =>
    rw [if_pos rfl] at hf
    have HF2 := zM hf
    clear hf hd hi hb1
    go_wp2_with (first | (go_at_call 97; (with_reducible refine (S1 _ ?side1).mono ?_); (case side1 => exact zb); rintro e w1 ⟨rfl, hb⟩; replace HB := zM (below_step zb hb); clear hb))
    go_roundg k1
    case measure => have := HI.out; omega
    case rel => exact ⟨x + 1, by have e_ : wrap64 (x + 1) = x + 1 := (by have := HX.out; have := HM.out; unfold wrap64; omega); first | rfl | rw [e_] | (simp [e_]; done), ⟨by have := HI.out; omega⟩, ⟨by rw [show (x + 1).toNat = x.toNat + 1 by have := HX.out; omega]; exact HF2.out⟩, ⟨by repeat (first | exact HB.out | apply zA | apply zN | apply zD)⟩⟩
   | false =>
    rw [if_neg (by simp)] at hf
    obtain rfl := zS hf
    clear hf hd hi hb1
    go_wp2_with (first | (go_at_call 97; (with_reducible refine (S1 _ ?side1).mono ?_); (case side1 => exact zb); rintro e w1 ⟨rfl, hb⟩; replace HB := zM (below_step zb hb); clear hb))
    go_ret
    exact ⟨⟨x, rfl, zQ HX.out.1⟩, by repeat (first | exact HB.out | apply zA | apply zN | apply zD)⟩
  | zero =>
   have hb0 : decide (x < (vr.length : Int)) = false := zR (by have := HI.out; omega)
   have hf := HF.out
   rw [List.drop_eq_nil_of_le (by have := HI.out; omega)] at hf
   obtain rfl := zS hf
   clear hf
   go_wp2
   go_ret
   exact ⟨⟨-1, rfl, rfl⟩, HB.out⟩
theorem cfn_calls {w : World} {p c k cr : Nat} {A Ar : Option Addr} {vl vr : List ByteArray} {b : Bool} (h : IsVl w p A c vl) (hr : Kd.C Kd.string w Ar vr.length vr) (hf : strF k vl vr = some b) :
 Calls Try.prog 96 #[.slice Ar vr.length cr, .func (.func 97) #[] #[.pointer (some ⟨p, 0, none⟩)]] w fun x w' => x = .returned (.bool b) ∧ Below w.heap.size w w' := by
 have C1 := ifn_calls (cr := cr) h hr hf
 clear h hr hf
 go_enter Try.func96, Try.ntmps96
 go_wp2_with (first | (go_at_call 105; (with_reducible refine C1.mono ?_); rintro e w1 ⟨⟨j, rfl, hj⟩, hb⟩; have HB := zM hb; clear hb))
 go_ret
 exact ⟨zy, HB.out⟩
theorem str_calls {w : World} {c1 c2 k : Nat} {id q1 q2 : Int} {A1 A2 : Option Addr} {l r : List CkC} {vl vr : List ByteArray} {b : Bool} (hl : Kd.C k54 w A1 l.length l) (hl' : l.length ≤ c1) (hr : Kd.C k54 w A2 r.length r) (hr' : r.length ≤ c2)
 (h1 : term_Vars.f k l = some (vl, q1)) (h2 : term_Vars.f k r = some (vr, q2)) (hf : strF k vl vr = some b) :
 Calls Try.prog 89 #[.agg #[.int .i64 id, .slice A1 l.length c1, .slice A2 r.length c2]] w fun x w' => x = .returned (.bool b) ∧ Below w.heap.size w w' := by
 have HL := zM hl
 have HR := zM hr
 have V1 := fun (W : World) (hW : Below w.heap.size w W) => term_Vars.calls k A1 c1 l vl q1 W (Kd.C_below hl hW) hl' h1
 have V2 := fun (W : World) (hW : Below w.heap.size w W) => term_Vars.calls k A2 c2 r vr q2 W (Kd.C_below hr hW) hr' h2
 clear hl hr h1 h2
 have HF := zM hf
 clear hf
 have hmf : ∀ (fn : Fn) (first cap : Array Value) (w : World), (Instr.makeFunc fn first cap).run Try.prog w = .ok (.func fn first cap) w := fun _ _ _ _ => rfl
 have HB := zM (Below.refl w.heap.size w)
 go_enter Try.func89, Try.ntmps89
 go_wp2_with (first | (go_at_call 62; (with_reducible refine (V1 _ ?side1).mono ?_); (case side1 => exact zb); rintro e w1 ⟨v1, rfl, hR, hb⟩; obtain ⟨Av, cv, rfl⟩ := Kd.R_slice hR; have HRV := zM (Kd.R_reads' hR).2; have hz : w.heap.size + 1 ≤ w1.heap.size := (by have h_ := hb.size; simp at h_; omega); have hzc : w1.cell? ⟨w.heap.size, 2, none⟩ = some (.slice A2 r.length c2) := (hb.cell (p := ⟨w.heap.size, 2, none⟩) (by simp)).trans ((cell_of_row _ _ 2 _ _ (0, 0) (heap_alloc_new w _)).trans rfl); replace HB := zM (below_step zb hb); clear hR hb; have HZ := zM hz; have hlt : w.heap.size < w1.heap.size := hz; clear hz) | (go_at_call 62; (with_reducible refine (V2 _ ?side2).mono ?_); (case side2 => exact (by repeat (first | exact HB.out | apply zA | apply zN | apply zD | (refine below_set ?_ (by have := HZ.out; omega))))); rintro e w2 ⟨v2, rfl, hR, hb⟩; obtain ⟨Ar, cr, rfl⟩ := Kd.R_slice hR; have hbx := heap_alloc_new w1 (.cells #[.slice Av vl.length cv] 26); have HIV := zM (IsVl.below (vl := vl) (c := cv) (A := Av) ⟨hbx, Kd.C_below HRV.out.2 (zA (Below.refl _ _) _), HRV.out.1⟩ hb); have HCR := zM (Kd.R_reads' hR).2.2; replace HB := zM (below_step (by repeat (first | exact HB.out | apply zA | apply zN | apply zD | (refine below_set ?_ (by have := HZ.out; omega)))) hb); clear hR hb hbx) | (go_at_call 96; (with_reducible refine (cfn_calls HIV.out HCR.out HF.out).mono ?_); rintro e w3 ⟨rfl, hb⟩; replace HB := zM (below_step HB.out hb); clear hb))
 go_ret
 exact ⟨rfl, HB.out⟩
def fst6 (e1 e2 e3 e4 e5 e6 : Int) : Int := if e1 ≠ 0 then e1 else if e2 ≠ 0 then e2 else if e3 ≠ 0 then e3 else if e4 ≠ 0 then e4 else if e5 ≠ 0 then e5 else e6
abbrev Asks (w : World) (f : Nat) (p : Value) (e : Int) : Prop := ∀ W, Below w.heap.size w W → Calls Try.prog f #[p] W fun x w' => x = .returned (.int .i64 e) ∧ Below W.heap.size W w'
def fnV (f : Nat) (p : Value) : Value := .func (.func f) #[] #[p]
theorem first_calls {w : World} {s : Nat} {p : Value} {e1 e2 e3 e4 e5 e6 : Int}
 (hs : w.heap[s]? = some (.cells #[fnV 82 p, fnV 84 p, fnV 85 p, fnV 86 p, fnV 87 p, fnV 88 p] 134 (0, 0)))
 (h1 : Asks w 82 p e1) (h2 : e1 = 0 → Asks w 84 p e2) (h3 : e1 = 0 → e2 = 0 → Asks w 85 p e3)
 (h4 : e1 = 0 → e2 = 0 → e3 = 0 → Asks w 86 p e4) (h5 : e1 = 0 → e2 = 0 → e3 = 0 → e4 = 0 → Asks w 87 p e5) (h6 : e1 = 0 → e2 = 0 → e3 = 0 → e4 = 0 → e5 = 0 → Asks w 88 p e6) :
 Calls Try.prog 81 #[.slice (some ⟨s, 0, none⟩) 6 6] w fun x w' => x = .returned (.int .i64 (fst6 e1 e2 e3 e4 e5 e6)) ∧ Below w.heap.size w w' := by
 have hc0_0 : w.cell? ⟨s, 0, none⟩ = some (.func (.func 82) #[] #[p]) := (zX hs 0).trans rfl
 have hc0_1 : w.cell? ⟨s, 1, none⟩ = some (.func (.func 84) #[] #[p]) := (zX hs 1).trans rfl
 have hc0_2 : w.cell? ⟨s, 2, none⟩ = some (.func (.func 85) #[] #[p]) := (zX hs 2).trans rfl
 have hc0_3 : w.cell? ⟨s, 3, none⟩ = some (.func (.func 86) #[] #[p]) := (zX hs 3).trans rfl
 have hc0_4 : w.cell? ⟨s, 4, none⟩ = some (.func (.func 87) #[] #[p]) := (zX hs 4).trans rfl
 have hc0_5 : w.cell? ⟨s, 5, none⟩ = some (.func (.func 88) #[] #[p]) := (zX hs 5).trans rfl
 have HB := zM (Below.refl w.heap.size w)
 clear hs
 have HC0 := zM hc0_0
 have HC1 := zM hc0_1
 have HC2 := zM hc0_2
 have HC3 := zM hc0_3
 have HC4 := zM hc0_4
 have HC5 := zM hc0_5
 clear hc0_0 hc0_1 hc0_2 hc0_3 hc0_4 hc0_5
 have a1 := h1
 by_cases c1 : e1 = 0
 case neg =>
  have d1 : (e1 != 0) = true := zF c1
  have hf : fst6 e1 e2 e3 e4 e5 e6 = e1 := by
   unfold fst6
   simp [c1]
  rw [hf]
  clear hf c1 h1 h2 h3 h4 h5 h6
  have hc_0 := HC0.out
  go_enter Try.func81, Try.ntmps81
  go_wp2
  refine wp_loop_rounds 1 ?_
  rw [rounds_succ]
  go_wp2_with (first | (go_at_call 82; (with_reducible refine (a1 _ ?side1).mono ?_); (case side1 => exact zb); rintro e w1 ⟨rfl, hb⟩; replace HB := zM (below_step zb hb); clear hb; have hc_1 := pw_cell_below HB.out HC1.out))
  go_ret
  exact ⟨zy, HB.out⟩
 case pos =>
 subst c1
 have a2 := h2 rfl
 by_cases c2 : e2 = 0
 case neg =>
  have d2 : (e2 != 0) = true := zF c2
  have hf : fst6 0 e2 e3 e4 e5 e6 = e2 := by
   unfold fst6
   simp [c2]
  rw [hf]
  clear hf c2 h1 h2 h3 h4 h5 h6
  have hc_0 := HC0.out
  go_enter Try.func81, Try.ntmps81
  go_wp2
  refine wp_loop_rounds 2 ?_
  rw [rounds_succ]
  go_wp2_with (first | (go_at_call 82; (with_reducible refine (a1 _ ?side1).mono ?_); (case side1 => exact zb); rintro e w1 ⟨rfl, hb⟩; replace HB := zM (below_step zb hb); clear hb; have hc_1 := pw_cell_below HB.out HC1.out))
  rw [rounds_succ]
  go_wp2_with (first | (go_at_call 84; (with_reducible refine (a2 _ ?side2).mono ?_); (case side2 => exact zb); rintro e w2 ⟨rfl, hb⟩; replace HB := zM (below_step zb hb); clear hb; have hc_2 := pw_cell_below HB.out HC2.out))
  go_ret
  exact ⟨zy, HB.out⟩
 case pos =>
 subst c2
 have a3 := h3 rfl rfl
 by_cases c3 : e3 = 0
 case neg =>
  have d3 : (e3 != 0) = true := zF c3
  have hf : fst6 0 0 e3 e4 e5 e6 = e3 := by
   unfold fst6
   simp [c3]
  rw [hf]
  clear hf c3 h1 h2 h3 h4 h5 h6
  have hc_0 := HC0.out
  go_enter Try.func81, Try.ntmps81
  go_wp2
  refine wp_loop_rounds 3 ?_
  rw [rounds_succ]
  go_wp2_with (first | (go_at_call 82; (with_reducible refine (a1 _ ?side1).mono ?_); (case side1 => exact zb); rintro e w1 ⟨rfl, hb⟩; replace HB := zM (below_step zb hb); clear hb; have hc_1 := pw_cell_below HB.out HC1.out))
  rw [rounds_succ]
  go_wp2_with (first | (go_at_call 84; (with_reducible refine (a2 _ ?side2).mono ?_); (case side2 => exact zb); rintro e w2 ⟨rfl, hb⟩; replace HB := zM (below_step zb hb); clear hb; have hc_2 := pw_cell_below HB.out HC2.out))
  rw [rounds_succ]
  go_wp2_with (first | (go_at_call 85; (with_reducible refine (a3 _ ?side3).mono ?_); (case side3 => exact zb); rintro e w3 ⟨rfl, hb⟩; replace HB := zM (below_step zb hb); clear hb; have hc_3 := pw_cell_below HB.out HC3.out))
  go_ret
  exact ⟨zy, HB.out⟩
 case pos =>
 subst c3
 have a4 := h4 rfl rfl rfl
 by_cases c4 : e4 = 0
 case neg =>
  have d4 : (e4 != 0) = true := zF c4
  have hf : fst6 0 0 0 e4 e5 e6 = e4 := by
   unfold fst6
   simp [c4]
  rw [hf]
  clear hf c4 h1 h2 h3 h4 h5 h6
  have hc_0 := HC0.out
  go_enter Try.func81, Try.ntmps81
  go_wp2
  refine wp_loop_rounds 4 ?_
  rw [rounds_succ]
  go_wp2_with (first | (go_at_call 82; (with_reducible refine (a1 _ ?side1).mono ?_); (case side1 => exact zb); rintro e w1 ⟨rfl, hb⟩; replace HB := zM (below_step zb hb); clear hb; have hc_1 := pw_cell_below HB.out HC1.out))
  rw [rounds_succ]
  go_wp2_with (first | (go_at_call 84; (with_reducible refine (a2 _ ?side2).mono ?_); (case side2 => exact zb); rintro e w2 ⟨rfl, hb⟩; replace HB := zM (below_step zb hb); clear hb; have hc_2 := pw_cell_below HB.out HC2.out))
  rw [rounds_succ]
  go_wp2_with (first | (go_at_call 85; (with_reducible refine (a3 _ ?side3).mono ?_); (case side3 => exact zb); rintro e w3 ⟨rfl, hb⟩; replace HB := zM (below_step zb hb); clear hb; have hc_3 := pw_cell_below HB.out HC3.out))
  rw [rounds_succ]
  go_wp2_with (first | (go_at_call 86; (with_reducible refine (a4 _ ?side4).mono ?_); (case side4 => exact zb); rintro e w4 ⟨rfl, hb⟩; replace HB := zM (below_step zb hb); clear hb; have hc_4 := pw_cell_below HB.out HC4.out))
  go_ret
  exact ⟨zy, HB.out⟩
 case pos =>
 subst c4
 have a5 := h5 rfl rfl rfl rfl
 by_cases c5 : e5 = 0
 case neg =>
  have d5 : (e5 != 0) = true := zF c5
  have hf : fst6 0 0 0 0 e5 e6 = e5 := by
   unfold fst6
   simp [c5]
  rw [hf]
  clear hf c5 h1 h2 h3 h4 h5 h6
  have hc_0 := HC0.out
  go_enter Try.func81, Try.ntmps81
  go_wp2
  refine wp_loop_rounds 5 ?_
  rw [rounds_succ]
  go_wp2_with (first | (go_at_call 82; (with_reducible refine (a1 _ ?side1).mono ?_); (case side1 => exact zb); rintro e w1 ⟨rfl, hb⟩; replace HB := zM (below_step zb hb); clear hb; have hc_1 := pw_cell_below HB.out HC1.out))
  rw [rounds_succ]
  go_wp2_with (first | (go_at_call 84; (with_reducible refine (a2 _ ?side2).mono ?_); (case side2 => exact zb); rintro e w2 ⟨rfl, hb⟩; replace HB := zM (below_step zb hb); clear hb; have hc_2 := pw_cell_below HB.out HC2.out))
  rw [rounds_succ]
  go_wp2_with (first | (go_at_call 85; (with_reducible refine (a3 _ ?side3).mono ?_); (case side3 => exact zb); rintro e w3 ⟨rfl, hb⟩; replace HB := zM (below_step zb hb); clear hb; have hc_3 := pw_cell_below HB.out HC3.out))
  rw [rounds_succ]
  go_wp2_with (first | (go_at_call 86; (with_reducible refine (a4 _ ?side4).mono ?_); (case side4 => exact zb); rintro e w4 ⟨rfl, hb⟩; replace HB := zM (below_step zb hb); clear hb; have hc_4 := pw_cell_below HB.out HC4.out))
  rw [rounds_succ]
  go_wp2_with (first | (go_at_call 87; (with_reducible refine (a5 _ ?side5).mono ?_); (case side5 => exact zb); rintro e w5 ⟨rfl, hb⟩; replace HB := zM (below_step zb hb); clear hb; have hc_5 := pw_cell_below HB.out HC5.out))
  go_ret
  exact ⟨zy, HB.out⟩
 case pos =>
 subst c5
 have a6 := h6 rfl rfl rfl rfl rfl
 by_cases c6 : e6 = 0
 case neg =>
  have d6 : (e6 != 0) = true := zF c6
  have hf : fst6 0 0 0 0 0 e6 = e6 := by
   unfold fst6
   simp [c6]
  rw [hf]
  clear hf c6 h1 h2 h3 h4 h5 h6
  have hc_0 := HC0.out
  go_enter Try.func81, Try.ntmps81
  go_wp2
  refine wp_loop_rounds 6 ?_
  rw [rounds_succ]
  go_wp2_with (first | (go_at_call 82; (with_reducible refine (a1 _ ?side1).mono ?_); (case side1 => exact zb); rintro e w1 ⟨rfl, hb⟩; replace HB := zM (below_step zb hb); clear hb; have hc_1 := pw_cell_below HB.out HC1.out))
  rw [rounds_succ]
  go_wp2_with (first | (go_at_call 84; (with_reducible refine (a2 _ ?side2).mono ?_); (case side2 => exact zb); rintro e w2 ⟨rfl, hb⟩; replace HB := zM (below_step zb hb); clear hb; have hc_2 := pw_cell_below HB.out HC2.out))
  rw [rounds_succ]
  go_wp2_with (first | (go_at_call 85; (with_reducible refine (a3 _ ?side3).mono ?_); (case side3 => exact zb); rintro e w3 ⟨rfl, hb⟩; replace HB := zM (below_step zb hb); clear hb; have hc_3 := pw_cell_below HB.out HC3.out))
  rw [rounds_succ]
  go_wp2_with (first | (go_at_call 86; (with_reducible refine (a4 _ ?side4).mono ?_); (case side4 => exact zb); rintro e w4 ⟨rfl, hb⟩; replace HB := zM (below_step zb hb); clear hb; have hc_4 := pw_cell_below HB.out HC4.out))
  rw [rounds_succ]
  go_wp2_with (first | (go_at_call 87; (with_reducible refine (a5 _ ?side5).mono ?_); (case side5 => exact zb); rintro e w5 ⟨rfl, hb⟩; replace HB := zM (below_step zb hb); clear hb; have hc_5 := pw_cell_below HB.out HC5.out))
  rw [rounds_succ]
  go_wp2_with (first | (go_at_call 88; (with_reducible refine (a6 _ ?side6).mono ?_); (case side6 => exact zb); rintro e w6 ⟨rfl, hb⟩; replace HB := zM (below_step zb hb); clear hb))
  go_ret
  exact ⟨zy, HB.out⟩
 case pos =>
 subst c6
 have hf : fst6 0 0 0 0 0 0 = 0 := rfl
 rw [hf]
 clear hf h1 h2 h3 h4 h5 h6
 have hc_0 := HC0.out
 go_enter Try.func81, Try.ntmps81
 go_wp2
 refine wp_loop_rounds 7 ?_
 rw [rounds_succ]
 go_wp2_with (first | (go_at_call 82; (with_reducible refine (a1 _ ?side1).mono ?_); (case side1 => exact zb); rintro e w1 ⟨rfl, hb⟩; replace HB := zM (below_step zb hb); clear hb; have hc_1 := pw_cell_below HB.out HC1.out))
 rw [rounds_succ]
 go_wp2_with (first | (go_at_call 84; (with_reducible refine (a2 _ ?side2).mono ?_); (case side2 => exact zb); rintro e w2 ⟨rfl, hb⟩; replace HB := zM (below_step zb hb); clear hb; have hc_2 := pw_cell_below HB.out HC2.out))
 rw [rounds_succ]
 go_wp2_with (first | (go_at_call 85; (with_reducible refine (a3 _ ?side3).mono ?_); (case side3 => exact zb); rintro e w3 ⟨rfl, hb⟩; replace HB := zM (below_step zb hb); clear hb; have hc_3 := pw_cell_below HB.out HC3.out))
 rw [rounds_succ]
 go_wp2_with (first | (go_at_call 86; (with_reducible refine (a4 _ ?side4).mono ?_); (case side4 => exact zb); rintro e w4 ⟨rfl, hb⟩; replace HB := zM (below_step zb hb); clear hb; have hc_4 := pw_cell_below HB.out HC4.out))
 rw [rounds_succ]
 go_wp2_with (first | (go_at_call 87; (with_reducible refine (a5 _ ?side5).mono ?_); (case side5 => exact zb); rintro e w5 ⟨rfl, hb⟩; replace HB := zM (below_step zb hb); clear hb; have hc_5 := pw_cell_below HB.out HC5.out))
 rw [rounds_succ]
 go_wp2_with (first | (go_at_call 88; (with_reducible refine (a6 _ ?side6).mono ?_); (case side6 => exact zb); rintro e w6 ⟨rfl, hb⟩; replace HB := zM (below_step zb hb); clear hb))
 rw [rounds_succ]
 go_wp2
 go_ret
 exact ⟨zy, HB.out⟩
theorem ck6_calls {W : World} {g c1 c2 k : Nat} {id q1 q2 : Int} {A1 A2 : Option Addr} {l r : List CkC} {vl vr : List ByteArray} {b : Bool} (h : IsRu W g id A1 c1 l A2 c2 r)
 (h1 : term_Vars.f k l = some (vl, q1)) (h2 : term_Vars.f k r = some (vr, q2)) (hf : strF k vl vr = some b) :
 Calls Try.prog 88 #[.pointer (some ⟨g, 0, none⟩)] W fun x w' => x = .returned (.int .i64 (if b = true then 7 else 0)) ∧ Below W.heap.size W w' := by
 have hc0 : W.cell? ⟨g, 0, none⟩ = some (.int .i64 id) := (zX h.blk 0).trans rfl
 have hc1 : W.cell? ⟨g, 1, none⟩ = some (.slice A1 l.length c1) := (zX h.blk 1).trans rfl
 have hc2 : W.cell? ⟨g, 2, none⟩ = some (.slice A2 r.length c2) := (zX h.blk 2).trans rfl
 have S1 := str_calls (id := id) h.hl h.hl' h.hr h.hr' h1 h2 hf
 clear h h1 h2 hf
 cases b
 ·
  go_enter Try.func88, Try.ntmps88
  go_wp2_with (first | (go_at_call 89; (with_reducible refine S1.mono ?_); rintro e w1 ⟨rfl, hb⟩; have HB := zM hb; clear hb) | (go_at_call 83; (with_reducible refine (when_calls _ _ _).mono ?_); rintro e w2 ⟨rfl, rfl⟩))
  go_ret
  exact ⟨zy, HB.out⟩
 ·
  go_enter Try.func88, Try.ntmps88
  go_wp2_with (first | (go_at_call 89; (with_reducible refine S1.mono ?_); rintro e w1 ⟨rfl, hb⟩; have HB := zM hb; clear hb) | (go_at_call 83; (with_reducible refine (when_calls _ _ _).mono ?_); rintro e w2 ⟨rfl, rfl⟩))
  go_ret
  exact ⟨zy, HB.out⟩
def rchF (k : Nat) (id : Int) (l r : List CkC) : Option Int :=
 if id < 0 then some 1 else if id > 65535 then some 1 else
 (term_Check.f k l).bind fun e2 => if e2 = 0 then ((term_Check.f k r).bind fun e3 => if e3 = 0 then (
  if l.length > 8 then some 6 else if r.length > 8 then some 6 else if 0 < l.length then (
   (name_Kind.f k (rd_T54 l 0).f0).bind fun kd => if kd = 2 then some 20 else
    (term_Vars.f k l).bind fun a => (term_Vars.f k r).bind fun b => (strF k a.1 b.1).bind fun s => some (if s = true then 7 else 0)) else none) else some e3) else some e2
theorem fst6_1 {e1 e2 e3 e4 e5 e6 : Int} (h : e1 ≠ 0) : fst6 e1 e2 e3 e4 e5 e6 = e1 := if_pos h
theorem fst6_2 {e2 e3 e4 e5 e6 : Int} (h : e2 ≠ 0) : fst6 0 e2 e3 e4 e5 e6 = e2 := by unfold fst6; simp [h]
theorem fst6_3 {e3 e4 e5 e6 : Int} (h : e3 ≠ 0) : fst6 0 0 e3 e4 e5 e6 = e3 := by unfold fst6; simp [h]
theorem fst6_4 {e4 e5 e6 : Int} (h : e4 ≠ 0) : fst6 0 0 0 e4 e5 e6 = e4 := by unfold fst6; simp [h]
theorem fst6_5 {e5 e6 : Int} (h : e5 ≠ 0) : fst6 0 0 0 0 e5 e6 = e5 := by unfold fst6; simp [h]
theorem rch_split {k : Nat} {id e : Int} {l r : List CkC} (h : rchF k id l r = some e) : ∃ e2 e3 kd e6 : Int, fst6 (if id < 0 then 1 else if id > 65535 then 1 else 0) e2 e3 (if l.length > 8 then 6 else if r.length > 8 then 6 else 0) (if kd = 2 then 20 else 0) e6 = e ∧
 ((if id < 0 then (1 : Int) else if id > 65535 then 1 else 0) = 0 → term_Check.f k l = some e2) ∧ ((if id < 0 then (1 : Int) else if id > 65535 then 1 else 0) = 0 → e2 = 0 → term_Check.f k r = some e3) ∧
 ((if id < 0 then (1 : Int) else if id > 65535 then 1 else 0) = 0 → e2 = 0 → e3 = 0 → (if l.length > 8 then (6 : Int) else if r.length > 8 then 6 else 0) = 0 → 0 < l.length ∧ name_Kind.f k (rd_T54 l 0).f0 = some kd) ∧
 ((if id < 0 then (1 : Int) else if id > 65535 then 1 else 0) = 0 → e2 = 0 → e3 = 0 → (if l.length > 8 then (6 : Int) else if r.length > 8 then 6 else 0) = 0 → (if kd = 2 then (20 : Int) else 0) = 0 → ∃ vl q1 vr q2 b, term_Vars.f k l = some (vl, q1) ∧ term_Vars.f k r = some (vr, q2) ∧ strF k vl vr = some b ∧ e6 = if b = true then 7 else 0) := by
 unfold rchF at h
 by_cases c1 : id < 0
 ·
  rw [if_pos c1] at h
  injection h with h
  subst h
  simp only [if_pos c1]
  exact ⟨0, 0, 0, 0, fst6_1 (by decide), (fun h => absurd h (by decide)), (fun h => absurd h (by decide)), (fun h => absurd h (by decide)), (fun h => absurd h (by decide))⟩
 ·
  rw [if_neg c1] at h
  simp only [if_neg c1]
  by_cases c2 : id > 65535
  ·
   rw [if_pos c2] at h
   injection h with h
   subst h
   simp only [if_pos c2]
   exact ⟨0, 0, 0, 0, fst6_1 (by decide), (fun h => absurd h (by decide)), (fun h => absurd h (by decide)), (fun h => absurd h (by decide)), (fun h => absurd h (by decide))⟩
  ·
   rw [if_neg c2] at h
   simp only [if_neg c2]
   obtain ⟨e2, h2, h⟩ := zB h
   by_cases d2 : e2 = 0
   ·
    subst d2
    rw [if_pos rfl] at h
    obtain ⟨e3, h3, h⟩ := zB h
    by_cases d3 : e3 = 0
    ·
     subst d3
     rw [if_pos rfl] at h
     by_cases d4 : l.length > 8
     ·
      rw [if_pos d4] at h
      injection h with h
      subst h
      simp only [if_pos d4]
      exact ⟨0, 0, 0, 0, fst6_4 (by decide), fun _ => h2, fun _ _ => h3, (fun _ _ _ h => absurd h (by decide)), (fun _ _ _ h => absurd h (by decide))⟩
     ·
      rw [if_neg d4] at h
      simp only [if_neg d4]
      by_cases d5 : r.length > 8
      ·
       rw [if_pos d5] at h
       injection h with h
       subst h
       simp only [if_pos d5]
       exact ⟨0, 0, 0, 0, fst6_4 (by decide), fun _ => h2, fun _ _ => h3, (fun _ _ _ h => absurd h (by decide)), (fun _ _ _ h => absurd h (by decide))⟩
      ·
       rw [if_neg d5] at h
       simp only [if_neg d5]
       by_cases d6 : 0 < l.length
       ·
        rw [if_pos d6] at h
        obtain ⟨kd, hk, h⟩ := zB h
        by_cases d7 : kd = 2
        ·
         rw [if_pos d7] at h
         injection h with h
         subst h
         refine ⟨0, 0, kd, 0, ?_, fun _ => h2, fun _ _ => h3, fun _ _ _ _ => ⟨d6, hk⟩, fun _ _ _ _ h => ?_⟩
         ·
          rw [if_pos d7]; exact fst6_5 (by decide)
         ·
          rw [if_pos d7] at h; cases h
        ·
         rw [if_neg d7] at h
         obtain ⟨⟨vl, q1⟩, a1, h⟩ := zB h
         obtain ⟨⟨vr, q2⟩, a2, h⟩ := zB h
         obtain ⟨b, a3, h⟩ := zB h
         injection h with h
         subst h
         refine ⟨0, 0, kd, _, ?_, fun _ => h2, fun _ _ => h3, fun _ _ _ _ => ⟨d6, hk⟩, fun _ _ _ _ _ => ⟨vl, q1, vr, q2, b, a1, a2, a3, rfl⟩⟩
         rw [if_neg d7]
         rfl
       ·
        rw [if_neg d6] at h
        cases h
    ·
     rw [if_neg d3] at h
     injection h with h
     subst h
     exact ⟨0, e3, 0, 0, fst6_3 d3, fun _ => h2, fun _ _ => h3, fun _ _ h => absurd h d3, fun _ _ h => absurd h d3⟩
   ·
    rw [if_neg d2] at h
    injection h with h
    subst h
    exact ⟨e2, 0, 0, 0, fst6_2 d2, fun _ => h2, fun _ h => absurd h d2, fun _ h => absurd h d2, fun _ h => absurd h d2⟩
def ruBox (w : World) (id : Int) (A1 : Option Addr) (c1 : Nat) (l : List CkC) (A2 : Option Addr) (c2 : Nat) (r : List CkC) : World := w.alloc (.cells #[.int .i64 id, .slice A1 l.length c1, .slice A2 r.length c2] 73)
def ruP (w : World) : Value := .pointer (some ⟨w.heap.size, 0, none⟩)
theorem rch_calls (k : Nat) (id : Int) (A1 : Option Addr) (c1 : Nat) (l : List CkC) (A2 : Option Addr) (c2 : Nat) (r : List CkC) (e : Int) (w : World) (hl : Kd.C k54 w A1 l.length l) (hl' : l.length ≤ c1) (hr : Kd.C k54 w A2 r.length r) (hr' : r.length ≤ c2) (h : rchF k id l r = some e) :
 Calls Try.prog 69 #[.agg #[.int .i64 id, .slice A1 l.length c1, .slice A2 r.length c2]] w fun x w' => x = .returned (.int .i64 e) ∧ Below w.heap.size w w' := by
 obtain ⟨e2, e3, kd, e6, hfst, g2, g3, g5, g6⟩ := rch_split h
 clear h
 have hb1 : Below w.heap.size w (ruBox w id A1 c1 l A2 c2 r) := zA (Below.refl _ _) _
 have hI : IsRu (ruBox w id A1 c1 l A2 c2 r) w.heap.size id A1 c1 l A2 c2 r := ⟨heap_alloc_new w _, Kd.C_below hl hb1, hl', Kd.C_below hr hb1, hr'⟩
 have hsz : (ruBox w id A1 c1 l A2 c2 r).heap.size = w.heap.size + 1 := by simp [ruBox]
 have FC := fun (row : Obj) (hrow : row = .cells #[fnV 82 (ruP w), fnV 84 (ruP w), fnV 85 (ruP w), fnV 86 (ruP w), fnV 87 (ruP w), fnV 88 (ruP w)] 134 (0, 0)) =>
  (show Calls Try.prog 81 #[.slice (some ⟨w.heap.size + 1, 0, none⟩) 6 6] ((ruBox w id A1 c1 l A2 c2 r).alloc row) (fun x w' => x = .returned (.int .i64 e) ∧ Below w.heap.size w w') from by
   have hI2 : IsRu ((ruBox w id A1 c1 l A2 c2 r).alloc row) w.heap.size id A1 c1 l A2 c2 r := hI.below (zA (Below.refl _ _) _)
   have hs := heap_alloc_new (ruBox w id A1 c1 l A2 c2 r) row
   rw [hsz] at hs
   rw [hrow] at hs hI2 ⊢
   have := first_calls (p := ruP w) hs (fun W hW => ck1_calls (hI2.below hW)) (fun a => fun W hW => ck2_calls (hI2.below hW) (g2 a)) (fun a b => fun W hW => ck3_calls (hI2.below hW) (g3 a b)) (fun a b c => fun W hW => ck4_calls (hI2.below hW)) (fun a b c d => fun W hW => ck5_calls (hI2.below hW) (g5 a b c d).1 (g5 a b c d).2)
    (e6 := e6) (fun a b c d f => fun W hW => by
     obtain ⟨vl, q1, vr, q2, b', a1, a2, a3, a4⟩ := g6 a b c d f
     rw [a4]
     exact ck6_calls (hI2.below hW) a1 a2 a3)
   rw [hfst] at this
   exact this.mono fun x w' hx => ⟨hx.1, below_step (zA hb1 _) hx.2⟩)
 clear hI hsz hb1 g2 g3 g5 g6 hfst hl hr
 have FD := FC _ rfl
 clear FC
 unfold ruBox ruP fnV at FD
 have hmf : ∀ (fn : Fn) (first cap : Array Value) (w : World), (Instr.makeFunc fn first cap).run Try.prog w = .ok (.func fn first cap) w := fun _ _ _ _ => rfl
 go_enter Try.func69, Try.ntmps69
 go_wp2_with (first | (go_at_call 81; (with_reducible refine FD.mono ?_); rintro e w1 ⟨rfl, hb⟩; have HB := zM hb; clear hb))
 go_ret
 exact ⟨rfl, HB.out⟩
theorem strF_mono (vl : List ByteArray) (k : Nat) : ∀ vr, LeO (strF k vl vr) (strF (k + 1) vl vr)
 | [] => LeO.refl _
 | v :: u => by
  unfold strF
  exact LeO.bind (slices_Contains_string_string.mono _ _ _) fun b => LeO.ite (strF_mono vl k u) (LeO.refl _)
def rule_Check.f (k : Nat) (a0_0 : Int) (l0_1 : List (S54)) (l0_2 : List (S54)) : Option Int := rchF k a0_0 l0_1 l0_2
theorem rule_Check.mono : ∀ a0 a1 a2 k, LeO (rule_Check.f k a0 a1 a2) (rule_Check.f (k + 1) a0 a1 a2) := by
 intro a0 a1 a2 k
 unfold rule_Check.f rchF
 refine LeO.ite (LeO.refl _) (LeO.ite (LeO.refl _) (LeO.bind (term_Check.mono _ _) fun _ => LeO.ite (LeO.bind (term_Check.mono _ _) fun _ => LeO.ite (LeO.ite (LeO.refl _) (LeO.ite (LeO.refl _) (LeO.ite (LeO.bind (name_Kind.mono _ _) fun _ => LeO.ite (LeO.refl _) (LeO.bind (term_Vars.mono _ _) fun _ => LeO.bind (term_Vars.mono _ _) fun _ => LeO.bind (strF_mono _ _ _) fun _ => LeO.refl _)) (LeO.refl _)))) (LeO.refl _)) (LeO.refl _)))
theorem rule_Check.calls (k : Nat) (a0_0 : Int) (A0_1 : Option Addr) (c0_1 : Nat) (l0_1 : List (S54)) (A0_2 : Option Addr) (c0_2 : Nat) (l0_2 : List (S54)) (r : Int) (w : World) (hr0_1 : Kd.C k54 w A0_1 l0_1.length l0_1) (hc0_1 : l0_1.length ≤ c0_1) (hr0_2 : Kd.C k54 w A0_2 l0_2.length l0_2) (hc0_2 : l0_2.length ≤ c0_2) (h : rule_Check.f k a0_0 l0_1 l0_2 = some r) :
 Calls Try.prog 69 #[.agg #[.int .i64 a0_0, .slice A0_1 l0_1.length c0_1, .slice A0_2 l0_2.length c0_2]] w fun e w' => e = .returned (.int .i64 r) ∧ Below w.heap.size w w' := rch_calls k a0_0 A0_1 c0_1 l0_1 A0_2 c0_2 l0_2 r w hr0_1 hc0_1 hr0_2 hc0_2 h



-- ==== PF46

mutual
def rewrite_together.l0 : Nat → List (S73) → List (S73) → Int → Int → Option (Int)
 | 0, _, _, _, _ => none
 | k + 1, x0, x7, x8, x9 => if x9 < x8 then (if 0 ≤ x9 then (if x9 < (x7.length : Int) then ((rule_Check.f k ((rd_T73 x7 x9).f0) ((rd_T73 x7 x9).f1) ((rd_T73 x7 x9).f2)).bind fun t103 => (if t103 = 0 then (rewrite_together.l0 k x0 x7 x8 (wrap64 (x9 + 1))) else (some t103))) else (none)) else (none)) else (rewrite_together.l1 k x0 1)
def rewrite_together.l1 : Nat → List (S73) → Int → Option (Int)
 | 0, _, _ => none
 | k + 1, x0, x6 => if x6 < (x0.length : Int) then (if 0 ≤ (wrap64 (x6 - 1)) then (if (wrap64 (x6 - 1)) < (x0.length : Int) then (if 0 ≤ x6 then (if ((rd_T73 x0 (wrap64 (x6 - 1))).f0) ≥ ((rd_T73 x0 x6).f0) then (some 19) else (rewrite_together.l1 k x0 (wrap64 (x6 + 1)))) else (none)) else (none)) else (none)) else (some 0)
end
def rewrite_together.f (k : Nat) (l0 : List (S73)) : Option (Int) := rewrite_together.l0 k l0 l0 (l0.length : Int) 0
theorem rewrite_together.mono_l : ∀ k, (∀ y0 y1 y2 y3, LeO (rewrite_together.l0 k y0 y1 y2 y3) (rewrite_together.l0 (k + 1) y0 y1 y2 y3)) ∧ (∀ y0 y1, LeO (rewrite_together.l1 k y0 y1) (rewrite_together.l1 (k + 1) y0 y1))
 | 0 => ⟨fun _ _ _ _ r h => by simp [rewrite_together.l0] at h, fun _ _ r h => by simp [rewrite_together.l1] at h⟩
 | k + 1 => by
  obtain ⟨ih0, ih1⟩ := rewrite_together.mono_l k
  refine ⟨?_, ?_⟩
  ·
   intro y0 y1 y2 y3
   unfold rewrite_together.l0
   repeat' first
   | (with_reducible exact ih0 _ _ _ _)
   | (with_reducible exact ih1 _ _)
   | (with_reducible exact rule_Check.mono _ _ _ _)
   | (with_reducible exact LeO.refl _)
   | (with_reducible exact LeO.none _)
   | (with_reducible refine LeO.ite ?_ ?_)
   | (with_reducible refine LeO.bind ?_ (fun _ => ?_))
  ·
   intro y0 y1
   unfold rewrite_together.l1
   repeat' first
   | (with_reducible exact ih0 _ _ _ _)
   | (with_reducible exact ih1 _ _)
   | (with_reducible exact rule_Check.mono _ _ _ _)
   | (with_reducible exact LeO.refl _)
   | (with_reducible exact LeO.none _)
   | (with_reducible refine LeO.ite ?_ ?_)
   | (with_reducible refine LeO.bind ?_ (fun _ => ?_))
theorem rewrite_together.mono : ∀ a0 k, LeO (rewrite_together.f k a0) (rewrite_together.f (k + 1) a0) := by
 intro a0 k
 obtain ⟨ih0, ih1⟩ := rewrite_together.mono_l k
 unfold rewrite_together.f
 repeat' first
  | (with_reducible exact ih0 _ _ _ _)
  | (with_reducible exact ih1 _ _)
  | (with_reducible exact rule_Check.mono _ _ _ _)
  | (with_reducible exact LeO.refl _)
  | (with_reducible exact LeO.none _)
  | (with_reducible refine LeO.ite ?_ ?_)
  | (with_reducible refine LeO.bind ?_ (fun _ => ?_))
theorem rewrite_together.calls (k : Nat) (A0 : Option Addr) (c0 : Nat) (l0 : List (S73)) (r : Int) (w : World) (hr0 : Kd.C k73 w A0 l0.length l0) (hc0 : l0.length ≤ c0) (h : rewrite_together.f k l0 = some r) :
 Calls Try.prog 46 #[.slice A0 l0.length c0] w fun e w' => e = .returned (.int .i64 r) ∧ Below w.heap.size w w' := by
 have hu73 := Try.underlying73
 have HR0 := zM hr0
 have HC0 := zM hc0
 clear hr0 hc0
 have HB := zM (Below.refl w.heap.size w)
 have H : (rewrite_together.l0 k l0 l0 (l0.length : Int) 0) = some r := h
 clear h
 have H' := zM H
 clear H
 go_enter Try.func46, Try.ntmps46
 go_wp2
 repeat (go_quiet (fail); try go_wp2)
 go_loopg [9] k (fun kq v9 w' => ∃ (x9_1 : Int), v9 = .int .i64 x9_1 ∧ Aside0 (rewrite_together.l0 kq l0 l0 (l0.length : Int) x9_1 = some r) ∧ Aside0 (kq ≤ k) ∧ Aside0 (Below w.heap.size w w'))
 case atStart => exact ⟨(0), zy, H', ⟨Nat.le_refl _⟩, ⟨zb⟩⟩
 case round =>
  clear H'
  obtain ⟨x9_1, rfl, HA, HK1, HB⟩ := hrel
  cases gk with
  | zero => exact absurd HA.out (by simp [rewrite_together.l0])
  | succ k1 =>
   have H := HA.out
   clear HA
   simp only [rewrite_together.l0] at H
   by_cases c2 : x9_1 < (l0.length : Int)
   ·
    rw [if_pos c2] at H
    have c2b0 : decide (x9_1 < (l0.length : Int)) = true := zQ c2
    clear c2
    by_cases c3 : 0 ≤ x9_1
    ·
     rw [if_pos c3] at H
     have c3b0 : decide (0 ≤ x9_1) = true := zQ c3
     clear c3
     by_cases c4 : x9_1 < (l0.length : Int)
     ·
      rw [if_pos c4] at H
      have c4b0 : decide (x9_1 < (l0.length : Int)) = true := zQ c4
      clear c4
      replace H := zB H
      obtain ⟨t103, A50, H⟩ := H
      try dsimp only at H
      have A5 := zM A50
      clear A50
      by_cases c6 : t103 = 0
      ·
       rw [if_pos c6] at H
       have c6b0 : (t103 == 0) = true := zG c6
       have c6b1 : (t103 != 0) = false := zH c6
       clear c6
       have H' := zM H
       clear H
       have p101 : 0 ≤ (x9_1 : Int) := zT zv
       have q101 : x9_1 < (l0.length : Int) := zT zv
       obtain ⟨ad101, A101_1, c101_1, A101_2, c101_2, e101, hx101_0, hx101_1, hx101_2, hl101_1, hi101_1, hl101_2, hi101_2⟩ := at_T73 HR0.out x9_1 p101 q101
       cases e101
       replace hx101_0 := (HB.out.cell (World.block_lt_of_cell? w _ hx101_0)).trans hx101_0
       replace hx101_1 := (HB.out.cell (World.block_lt_of_cell? w _ hx101_1)).trans hx101_1
       replace hx101_2 := (HB.out.cell (World.block_lt_of_cell? w _ hx101_2)).trans hx101_2
       have HR101_1 := zM hi101_1
       have HC101_1 := zM hl101_1
       clear hi101_1 hl101_1
       have HR101_2 := zM hi101_2
       have HC101_2 := zM hl101_2
       clear hi101_2 hl101_2
       replace p101 := eq_true p101
       replace q101 := eq_true q101
       go_wp2_with (first | ((with_reducible refine gate_dst (N := 4) rfl ?_); refine box_event ?hg (N := 4) ?hd (cs := #[.int .i64 0, .slice none 0 0, .slice none 0 0]) (t := 73) ?hr ?_; (case hd => rfl); (case hg => rfl); (case hr => first | (go_simp; done) | (go_simp; rfl)); intro gb102 hg w7 hbox hb; have BK102 := zM (hbox); have GW102 := zM (zh hg : w.heap.size ≤ gb102); have GE102 := zM (zh hg : w.heap.size ≤ gb102); replace HB := zM (below_step zb hb); clear hb hbox hg; have hcz8_0 : w7.cell? ⟨gb102, 0, none⟩ = some (.int .i64 0) := (zX BK102.out 0).trans rfl; have hcz8_1 : w7.cell? ⟨gb102, 1, none⟩ = some (.slice none 0 0) := (zX BK102.out 1).trans rfl; have hcz8_2 : w7.cell? ⟨gb102, 2, none⟩ = some (.slice none 0 0) := (zX BK102.out 2).trans rfl; have hfz8_0 := zY BK102.out 0; have hfz8_1 := zY BK102.out 1; have hfz8_2 := zY BK102.out 2) | (go_at_call 69; (with_reducible refine (rule_Check.calls k1 ((rd_T73 l0 x9_1).f0) _ _ ((rd_T73 l0 x9_1).f1) _ _ ((rd_T73 l0 x9_1).f2) t103 _ ?side1 ?side2 ?side3 ?side4 A5.out).mono ?_); (case side1 => exact Kd.C_below HR101_1.out zb); (case side2 => exact HC101_1.out); (case side3 => exact Kd.C_below HR101_2.out zb); (case side4 => exact HC101_2.out); rintro e w9 ⟨rfl, hb⟩; replace BK102 := zM (blk_below (g := gb102) (o := .cells #[.int .i64 ((rd_T73 l0 x9_1).f0), .slice A101_1 ((rd_T73 l0 x9_1).f1).length c101_1, .slice A101_2 ((rd_T73 l0 x9_1).f2).length c101_2] 73 (0, 0)) (by refine zk ?_; refine blk_put (cs := #[.int .i64 ((rd_T73 l0 x9_1).f0), .slice A101_1 ((rd_T73 l0 x9_1).f1).length c101_1, .slice none 0 0]) ?_ 2 _ rfl; refine zk ?_; refine blk_put (cs := #[.int .i64 ((rd_T73 l0 x9_1).f0), .slice none 0 0, .slice none 0 0]) ?_ 1 _ rfl; refine zk ?_; refine blk_put (cs := #[.int .i64 0, .slice none 0 0, .slice none 0 0]) ?_ 0 _ rfl; refine zk ?_; exact BK102.out) hb); replace HB := zM (below_step zb hb); (try clear hb)))
       go_roundg k1
       case measure => have := HK1.out; omega
       case rel => exact ⟨(wrap64 (x9_1 + 1)), zy, H', ⟨by have := HK1.out; omega⟩, ⟨zb⟩⟩
      ·
       rw [if_neg c6] at H
       have c6b0 : (t103 == 0) = false := zE c6
       have c6b1 : (t103 != 0) = true := zF c6
       obtain rfl := zS H
       have p101 : 0 ≤ (x9_1 : Int) := zT zv
       have q101 : x9_1 < (l0.length : Int) := zT zv
       obtain ⟨ad101, A101_1, c101_1, A101_2, c101_2, e101, hx101_0, hx101_1, hx101_2, hl101_1, hi101_1, hl101_2, hi101_2⟩ := at_T73 HR0.out x9_1 p101 q101
       cases e101
       replace hx101_0 := (HB.out.cell (World.block_lt_of_cell? w _ hx101_0)).trans hx101_0
       replace hx101_1 := (HB.out.cell (World.block_lt_of_cell? w _ hx101_1)).trans hx101_1
       replace hx101_2 := (HB.out.cell (World.block_lt_of_cell? w _ hx101_2)).trans hx101_2
       have HR101_1 := zM hi101_1
       have HC101_1 := zM hl101_1
       clear hi101_1 hl101_1
       have HR101_2 := zM hi101_2
       have HC101_2 := zM hl101_2
       clear hi101_2 hl101_2
       replace p101 := eq_true p101
       replace q101 := eq_true q101
       go_wp2_with (first | ((with_reducible refine gate_dst (N := 4) rfl ?_); refine box_event ?hg (N := 4) ?hd (cs := #[.int .i64 0, .slice none 0 0, .slice none 0 0]) (t := 73) ?hr ?_; (case hd => rfl); (case hg => rfl); (case hr => first | (go_simp; done) | (go_simp; rfl)); intro gb102 hg w10 hbox hb; have BK102 := zM (hbox); have GW102 := zM (zh hg : w.heap.size ≤ gb102); have GE102 := zM (zh hg : w.heap.size ≤ gb102); replace HB := zM (below_step zb hb); clear hb hbox hg; have hcz11_0 : w10.cell? ⟨gb102, 0, none⟩ = some (.int .i64 0) := (zX BK102.out 0).trans rfl; have hcz11_1 : w10.cell? ⟨gb102, 1, none⟩ = some (.slice none 0 0) := (zX BK102.out 1).trans rfl; have hcz11_2 : w10.cell? ⟨gb102, 2, none⟩ = some (.slice none 0 0) := (zX BK102.out 2).trans rfl; have hfz11_0 := zY BK102.out 0; have hfz11_1 := zY BK102.out 1; have hfz11_2 := zY BK102.out 2) | (go_at_call 69; (with_reducible refine (rule_Check.calls k1 ((rd_T73 l0 x9_1).f0) _ _ ((rd_T73 l0 x9_1).f1) _ _ ((rd_T73 l0 x9_1).f2) t103 _ ?side1 ?side2 ?side3 ?side4 A5.out).mono ?_); (case side1 => exact Kd.C_below HR101_1.out zb); (case side2 => exact HC101_1.out); (case side3 => exact Kd.C_below HR101_2.out zb); (case side4 => exact HC101_2.out); rintro e w12 ⟨rfl, hb⟩; replace BK102 := zM (blk_below (g := gb102) (o := .cells #[.int .i64 ((rd_T73 l0 x9_1).f0), .slice A101_1 ((rd_T73 l0 x9_1).f1).length c101_1, .slice A101_2 ((rd_T73 l0 x9_1).f2).length c101_2] 73 (0, 0)) (by refine zk ?_; refine blk_put (cs := #[.int .i64 ((rd_T73 l0 x9_1).f0), .slice A101_1 ((rd_T73 l0 x9_1).f1).length c101_1, .slice none 0 0]) ?_ 2 _ rfl; refine zk ?_; refine blk_put (cs := #[.int .i64 ((rd_T73 l0 x9_1).f0), .slice none 0 0, .slice none 0 0]) ?_ 1 _ rfl; refine zk ?_; refine blk_put (cs := #[.int .i64 0, .slice none 0 0, .slice none 0 0]) ?_ 0 _ rfl; refine zk ?_; exact BK102.out) hb); replace HB := zM (below_step zb hb); (try clear hb)))
       go_ret
       exact ⟨zw, zb⟩
     ·
      rw [if_neg c4] at H
      exact absurd H (by simp)
    ·
     rw [if_neg c3] at H
     exact absurd H (by simp)
   ·
    rw [if_neg c2] at H
    have c2b0 : decide (x9_1 < (l0.length : Int)) = false := zR c2
    clear c2
    have H' := zM H
    clear H
    go_wp2
    repeat (go_quiet (fail); try go_wp2)
    go_loopg [6] k1 (fun kq v6 w' => ∃ (x6_2 : Int), v6 = .int .i64 x6_2 ∧ Aside0 (rewrite_together.l1 kq l0 x6_2 = some r) ∧ Aside0 (kq ≤ k1) ∧ Aside0 (Below w.heap.size w w'))
    case atStart => exact ⟨(1), zy, H', ⟨Nat.le_refl _⟩, ⟨zb⟩⟩
    case round =>
     clear H'
     try clear c1
     try clear p1
     try clear q1
     try clear hx1
     try clear c2
     try clear c2b0
     try clear p2
     try clear c3
     try clear c3b0
     try clear c4
     try clear c4b0
     try clear c6
     try clear c6b0
     try clear c6b1
     try clear p6
     try clear c10
     try clear p10
     try clear q10
     try clear hx10
     try clear hcz11_0
     try clear hcz11_1
     try clear hcz11_2
     try clear hcz8_0
     try clear hcz8_1
     try clear hcz8_2
     try clear hfz11_0
     try clear hfz11_1
     try clear hfz11_2
     try clear hfz8_0
     try clear hfz8_1
     try clear hfz8_2
     try clear hx101_0
     try clear hx101_1
     try clear hx101_2
     try clear p101
     try clear q101
     obtain ⟨x6_2, rfl, HA, HK2, HB⟩ := hrel
     cases gk with
     | zero => exact absurd HA.out (by simp [rewrite_together.l1])
     | succ k2 =>
      have H := HA.out
      clear HA
      simp only [rewrite_together.l1] at H
      by_cases c13 : x6_2 < (l0.length : Int)
      ·
       rw [if_pos c13] at H
       have c13b0 : decide (x6_2 < (l0.length : Int)) = true := zQ c13
       clear c13
       obtain ⟨ji14, hji14⟩ : ∃ j_ : Int, (wrap64 (x6_2 - 1)) = j_ := ⟨_, rfl⟩
       replace H : (if 0 ≤ (ji14) then (if (ji14) < (l0.length : Int) then (if 0 ≤ x6_2 then (if ((rd_T73 l0 (ji14)).f0) ≥ ((rd_T73 l0 x6_2).f0) then (some 19) else (rewrite_together.l1 k2 l0 (wrap64 (x6_2 + 1)))) else (none)) else (none)) else (none)) = some r := by first | (rw [hji14] at H; exact H) | (simp only [hji14] at H ⊢; exact H)
       have hji14w : (IntKind.i64.wrap (x6_2 - 1)) = ji14 := (i64_w _).trans hji14
       by_cases c15 : 0 ≤ (ji14)
       ·
        rw [if_pos c15] at H
        have c15b0 : decide (0 ≤ (ji14)) = true := zQ c15
        clear c15
        by_cases c16 : (ji14) < (l0.length : Int)
        ·
         rw [if_pos c16] at H
         have c16b0 : decide ((ji14) < (l0.length : Int)) = true := zQ c16
         clear c16
         by_cases c17 : 0 ≤ x6_2
         ·
          rw [if_pos c17] at H
          have c17b0 : decide (0 ≤ x6_2) = true := zQ c17
          clear c17
          by_cases c18 : ((rd_T73 l0 (ji14)).f0) ≥ ((rd_T73 l0 x6_2).f0)
          ·
           rw [if_pos c18] at H
           have c18b0 : decide (((rd_T73 l0 x6_2).f0) ≤ ((rd_T73 l0 (ji14)).f0)) = true := zQ c18
           clear c18
           obtain rfl := zS H
           have p104 : 0 ≤ ((ji14) : Int) := zT zv
           have q104 : (ji14) < (l0.length : Int) := zT zv
           obtain ⟨ad104, A104_1, c104_1, A104_2, c104_2, e104, hx104_0, hx104_1, hx104_2, hl104_1, hi104_1, hl104_2, hi104_2⟩ := at_T73 HR0.out (ji14) p104 q104
           cases e104
           replace hx104_0 := (HB.out.cell (World.block_lt_of_cell? w _ hx104_0)).trans hx104_0
           replace hx104_1 := (HB.out.cell (World.block_lt_of_cell? w _ hx104_1)).trans hx104_1
           replace hx104_2 := (HB.out.cell (World.block_lt_of_cell? w _ hx104_2)).trans hx104_2
           have HR104_1 := zM hi104_1
           have HC104_1 := zM hl104_1
           clear hi104_1 hl104_1
           have HR104_2 := zM hi104_2
           have HC104_2 := zM hl104_2
           clear hi104_2 hl104_2
           replace p104 := eq_true p104
           replace q104 := eq_true q104
           have p105 : 0 ≤ (x6_2 : Int) := zT zv
           have q105 : x6_2 < (l0.length : Int) := zT zv
           obtain ⟨ad105, A105_1, c105_1, A105_2, c105_2, e105, hx105_0, hx105_1, hx105_2, hl105_1, hi105_1, hl105_2, hi105_2⟩ := at_T73 HR0.out x6_2 p105 q105
           obtain rfl : ad104 = ad105 := (by injection e105)
           replace hx105_0 := (HB.out.cell (World.block_lt_of_cell? w _ hx105_0)).trans hx105_0
           replace hx105_1 := (HB.out.cell (World.block_lt_of_cell? w _ hx105_1)).trans hx105_1
           replace hx105_2 := (HB.out.cell (World.block_lt_of_cell? w _ hx105_2)).trans hx105_2
           have HR105_1 := zM hi105_1
           have HC105_1 := zM hl105_1
           clear hi105_1 hl105_1
           have HR105_2 := zM hi105_2
           have HC105_2 := zM hl105_2
           clear hi105_2 hl105_2
           replace p105 := eq_true p105
           replace q105 := eq_true q105
           go_wp2
           repeat (go_quiet (fail); try go_wp2)
           go_ret
           exact ⟨by first | rfl | (simp [errW_none, errW_some] <;> rfl) | (simp only [← hji14]; first | rfl | (simp [errW_none, errW_some] <;> rfl)) | (simp [*, errW_none, errW_some] <;> rfl), zb⟩
          ·
           rw [if_neg c18] at H
           have c18b0 : decide (((rd_T73 l0 x6_2).f0) ≤ ((rd_T73 l0 (ji14)).f0)) = false := zR c18
           clear c18
           have H' := zM H
           clear H
           have p104 : 0 ≤ ((ji14) : Int) := zT zv
           have q104 : (ji14) < (l0.length : Int) := zT zv
           obtain ⟨ad104, A104_1, c104_1, A104_2, c104_2, e104, hx104_0, hx104_1, hx104_2, hl104_1, hi104_1, hl104_2, hi104_2⟩ := at_T73 HR0.out (ji14) p104 q104
           cases e104
           replace hx104_0 := (HB.out.cell (World.block_lt_of_cell? w _ hx104_0)).trans hx104_0
           replace hx104_1 := (HB.out.cell (World.block_lt_of_cell? w _ hx104_1)).trans hx104_1
           replace hx104_2 := (HB.out.cell (World.block_lt_of_cell? w _ hx104_2)).trans hx104_2
           have HR104_1 := zM hi104_1
           have HC104_1 := zM hl104_1
           clear hi104_1 hl104_1
           have HR104_2 := zM hi104_2
           have HC104_2 := zM hl104_2
           clear hi104_2 hl104_2
           replace p104 := eq_true p104
           replace q104 := eq_true q104
           have p105 : 0 ≤ (x6_2 : Int) := zT zv
           have q105 : x6_2 < (l0.length : Int) := zT zv
           obtain ⟨ad105, A105_1, c105_1, A105_2, c105_2, e105, hx105_0, hx105_1, hx105_2, hl105_1, hi105_1, hl105_2, hi105_2⟩ := at_T73 HR0.out x6_2 p105 q105
           obtain rfl : ad104 = ad105 := (by injection e105)
           replace hx105_0 := (HB.out.cell (World.block_lt_of_cell? w _ hx105_0)).trans hx105_0
           replace hx105_1 := (HB.out.cell (World.block_lt_of_cell? w _ hx105_1)).trans hx105_1
           replace hx105_2 := (HB.out.cell (World.block_lt_of_cell? w _ hx105_2)).trans hx105_2
           have HR105_1 := zM hi105_1
           have HC105_1 := zM hl105_1
           clear hi105_1 hl105_1
           have HR105_2 := zM hi105_2
           have HC105_2 := zM hl105_2
           clear hi105_2 hl105_2
           replace p105 := eq_true p105
           replace q105 := eq_true q105
           go_wp2
           repeat (go_quiet (fail); try go_wp2)
           go_roundg k2
           case measure => have := HK1.out; have := HK2.out; omega
           case rel => exact ⟨(wrap64 (x6_2 + 1)), zy, H', ⟨by have := HK1.out; have := HK2.out; omega⟩, ⟨zb⟩⟩
         ·
          rw [if_neg c17] at H
          exact absurd H (by simp)
        ·
         rw [if_neg c16] at H
         exact absurd H (by simp)
       ·
        rw [if_neg c15] at H
        exact absurd H (by simp)
      ·
       rw [if_neg c13] at H
       have c13b0 : decide (x6_2 < (l0.length : Int)) = false := zR c13
       clear c13
       obtain rfl := zS H
       go_wp2
       repeat (go_quiet (fail); try go_wp2)
       go_ret
       exact ⟨zw, zb⟩

end Go.Proofs.Ytdlkhpfgkghhmaa.P
