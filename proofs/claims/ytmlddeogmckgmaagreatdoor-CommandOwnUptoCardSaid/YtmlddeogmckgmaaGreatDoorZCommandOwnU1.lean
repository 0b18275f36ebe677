/- CommandOwn: the law answers true at every input that the given row speaks of. Conditions: those of the given row, none besides. (Part 2 of 5; written by programs of this session, which drive the kit's print, and by hand.) -/
import Derived.Lib.Builder
import Derived.Lib.OthersKept
import Derived.Lib.BufferKept
import Derived.Lib.UnsafeStr
import Derived.Lib.AppendStr
import Derived.Lib.Walk
import Derived.Lib.Slices
import Derived.Lib.Strings
import Derived.Laws.Externs
import Derived.RegionTactic
import Derived.ChangeAlike
import Derived.Test.YtmlddeogmckgmaaGreatDoorZCommandOwnU0
set_option maxHeartbeats 8000000
set_option maxRecDepth 100000
set_option linter.unusedVariables false
set_option linter.unusedSimpArgs false
-- ==== PF75
namespace Go.Proofs.YtmlddeogmckgmaaGreatDoor.P
open Go.RowKit Go.Proofs.YtmlddeogmckgmaaGreatDoorW.PrintWords Go.Proofs.YtmlddeogmckgmaaGreatDoorW.PrintLast Go.Proofs.YtmlddeogmckgmaaGreatDoorW.PrintMore
attribute [local go_sem] max2_int min2_int max_two min_two max_three min_three max_four min_four

abbrev CkC := S48
structure IsRu (W : World) (g : Nat) (id : Int) (A1 : Option Addr) (c1 : Nat) (l : List CkC) (A2 : Option Addr) (c2 : Nat) (r : List CkC) : Prop where
 blk : W.heap[g]? = some (.cells #[.int .i64 id, .slice A1 l.length c1, .slice A2 r.length c2] 26 (0, 0))
 hl : Kd.C k48 W A1 l.length l
 hl' : l.length ≤ c1
 hr : Kd.C k48 W A2 r.length r
 hr' : r.length ≤ c2
theorem IsRu.below {W W' : World} {g c1 c2 : Nat} {id : Int} {A1 A2 : Option Addr} {l r : List CkC} (h : IsRu W g id A1 c1 l A2 c2 r) (hb : Below W.heap.size W W') : IsRu W' g id A1 c1 l A2 c2 r :=
 ⟨(hb.block g (blk_lt h.blk)).trans h.blk, Kd.C_below h.hl hb, h.hl', Kd.C_below h.hr hb, h.hr'⟩
theorem IsRu.drewN {W : World} {g c1 c2 : Nat} {id : Int} {A1 A2 : Option Addr} {l r : List CkC} (h : IsRu W g id A1 c1 l A2 c2 r) (m : Nat) : IsRu (W.drewN m) g id A1 c1 l A2 c2 r := h.below (zN (Below.refl _ _) m)
theorem when_calls (b : Bool) (e : Int) (w : World) : Calls Tryz.prog 96 #[.bool b, .int .i64 e] w fun x w' => x = .returned (.int .i64 (if b = true then e else 0)) ∧ w' = w := by
 cases b
 ·
  go_enter Tryz.func96, Tryz.ntmps96
  go_wp2
  go_ret
  exact ⟨rfl, rfl⟩
 ·
  go_enter Tryz.func96, Tryz.ntmps96
  go_wp2
  go_ret
  exact ⟨rfl, rfl⟩
theorem ck1_calls {W : World} {g c1 c2 : Nat} {id : Int} {A1 A2 : Option Addr} {l r : List CkC} (h : IsRu W g id A1 c1 l A2 c2 r) :
 Calls Tryz.prog 95 #[.pointer (some ⟨g, 0, none⟩)] W fun x w' => x = .returned (.int .i64 (if id < 0 then 1 else if id > 65535 then 1 else 0)) ∧ Below W.heap.size W w' := by
 have hc0 : W.cell? ⟨g, 0, none⟩ = some (.int .i64 id) := (zX h.blk 0).trans rfl
 clear h
 by_cases h1 : id < 0
 ·
  have d1 : decide (id < 0) = true := zQ h1
  rw [if_pos h1]
  clear h1
  go_enter Tryz.func95, Tryz.ntmps95
  go_wp2_with (first | (go_at_call 96; (with_reducible refine (when_calls _ _ _).mono ?_); rintro e w1 ⟨rfl, rfl⟩))
  repeat (go_quiet (first | (go_at_call 96; (with_reducible refine (when_calls _ _ _).mono ?_); rintro e w1 ⟨rfl, rfl⟩)); try go_wp2_with (first | (go_at_call 96; (with_reducible refine (when_calls _ _ _).mono ?_); rintro e w1 ⟨rfl, rfl⟩)))
  all_goals (go_ret; exact ⟨by first | rfl | (simp; done) | (simp [*]; done) | (simp [*]; omega), by repeat (first | exact Below.refl _ _ | apply zN | apply zD)⟩)
 ·
  have d1 : decide (id < 0) = false := zR h1
  rw [if_neg h1]
  by_cases h2 : id > 65535
  ·
   have d2 : decide (65535 < id) = true := zQ h2
   rw [if_pos h2]
   clear h1 h2
   go_enter Tryz.func95, Tryz.ntmps95
   go_wp2_with (first | (go_at_call 96; (with_reducible refine (when_calls _ _ _).mono ?_); rintro e w1 ⟨rfl, rfl⟩))
   repeat (go_quiet (first | (go_at_call 96; (with_reducible refine (when_calls _ _ _).mono ?_); rintro e w1 ⟨rfl, rfl⟩)); try go_wp2_with (first | (go_at_call 96; (with_reducible refine (when_calls _ _ _).mono ?_); rintro e w1 ⟨rfl, rfl⟩)))
   all_goals (go_ret; exact ⟨by first | rfl | (simp; done) | (simp [*]; done) | (simp [*]; omega), by repeat (first | exact Below.refl _ _ | apply zN | apply zD)⟩)
  ·
   have d2 : decide (65535 < id) = false := zR h2
   rw [if_neg h2]
   clear h1 h2
   go_enter Tryz.func95, Tryz.ntmps95
   go_wp2_with (first | (go_at_call 96; (with_reducible refine (when_calls _ _ _).mono ?_); rintro e w1 ⟨rfl, rfl⟩))
   repeat (go_quiet (first | (go_at_call 96; (with_reducible refine (when_calls _ _ _).mono ?_); rintro e w1 ⟨rfl, rfl⟩)); try go_wp2_with (first | (go_at_call 96; (with_reducible refine (when_calls _ _ _).mono ?_); rintro e w1 ⟨rfl, rfl⟩)))
   all_goals (go_ret; exact ⟨by first | rfl | (simp; done) | (simp [*]; done) | (simp [*]; omega), by repeat (first | exact Below.refl _ _ | apply zN | apply zD)⟩)
theorem ck2_calls {W : World} {g c1 c2 k : Nat} {id e : Int} {A1 A2 : Option Addr} {l r : List CkC} (h : IsRu W g id A1 c1 l A2 c2 r) (he : term_Check.f k l = some e) :
 Calls Tryz.prog 97 #[.pointer (some ⟨g, 0, none⟩)] W fun x w' => x = .returned (.int .i64 e) ∧ Below W.heap.size W w' := by
 have hc0 : W.cell? ⟨g, 1, none⟩ = some (.slice A1 l.length c1) := (zX h.blk 1).trans rfl
 have C1 := term_Check.calls k A1 c1 l e W h.hl h.hl' he
 clear h he
 go_enter Tryz.func97, Tryz.ntmps97
 go_wp2_with (go_at_call 73; (with_reducible refine C1.mono ?_); rintro e w1 ⟨rfl, hb⟩; have HB := zM hb; clear hb)
 go_ret
 exact ⟨rfl, HB.out⟩
theorem ck3_calls {W : World} {g c1 c2 k : Nat} {id e : Int} {A1 A2 : Option Addr} {l r : List CkC} (h : IsRu W g id A1 c1 l A2 c2 r) (he : term_Check.f k r = some e) :
 Calls Tryz.prog 98 #[.pointer (some ⟨g, 0, none⟩)] W fun x w' => x = .returned (.int .i64 e) ∧ Below W.heap.size W w' := by
 have hc0 : W.cell? ⟨g, 2, none⟩ = some (.slice A2 r.length c2) := (zX h.blk 2).trans rfl
 have C1 := term_Check.calls k A2 c2 r e W h.hr h.hr' he
 clear h he
 go_enter Tryz.func98, Tryz.ntmps98
 go_wp2_with (go_at_call 73; (with_reducible refine C1.mono ?_); rintro e w1 ⟨rfl, hb⟩; have HB := zM hb; clear hb)
 go_ret
 exact ⟨rfl, HB.out⟩
theorem ck4_calls {W : World} {g c1 c2 : Nat} {id : Int} {A1 A2 : Option Addr} {l r : List CkC} (h : IsRu W g id A1 c1 l A2 c2 r) :
 Calls Tryz.prog 99 #[.pointer (some ⟨g, 0, none⟩)] W fun x w' => x = .returned (.int .i64 (if l.length > 8 then 6 else if r.length > 8 then 6 else 0)) ∧ Below W.heap.size W w' := by
 have hc1 : W.cell? ⟨g, 1, none⟩ = some (.slice A1 l.length c1) := (zX h.blk 1).trans rfl
 have hc2 : W.cell? ⟨g, 2, none⟩ = some (.slice A2 r.length c2) := (zX h.blk 2).trans rfl
 clear h
 by_cases hq : 8 < l.length ∨ 8 < r.length
 ·
  have HQ := zM hq
  have he : (if l.length > 8 then (6 : Int) else if r.length > 8 then 6 else 0) = 6 := by
   by_cases h1 : l.length > 8
   ·
    rw [if_pos h1]
   ·
    rw [if_neg h1, if_pos (by omega)]
  rw [he]
  clear he hq
  go_enter Tryz.func99, Tryz.ntmps99
  go_wp2_with (first | (go_at_call 96; (with_reducible refine (when_calls _ _ _).mono ?_); rintro e w1 ⟨rfl, rfl⟩))
  repeat (go_quiet (first | (go_at_call 96; (with_reducible refine (when_calls _ _ _).mono ?_); rintro e w1 ⟨rfl, rfl⟩)); try go_wp2_with (first | (go_at_call 96; (with_reducible refine (when_calls _ _ _).mono ?_); rintro e w1 ⟨rfl, rfl⟩)))
  all_goals (go_ret; exact ⟨by first | rfl | (simp; done) | (simp [*]; done) | (exfalso; have := HQ.out; omega), by repeat (first | exact Below.refl _ _ | apply zN | apply zD)⟩)
 ·
  have HQ := zM hq
  have he : (if l.length > 8 then (6 : Int) else if r.length > 8 then 6 else 0) = 0 := by
   rw [if_neg (by omega), if_neg (by omega)]
  rw [he]
  clear he hq
  go_enter Tryz.func99, Tryz.ntmps99
  go_wp2_with (first | (go_at_call 96; (with_reducible refine (when_calls _ _ _).mono ?_); rintro e w1 ⟨rfl, rfl⟩))
  repeat (go_quiet (first | (go_at_call 96; (with_reducible refine (when_calls _ _ _).mono ?_); rintro e w1 ⟨rfl, rfl⟩)); try go_wp2_with (first | (go_at_call 96; (with_reducible refine (when_calls _ _ _).mono ?_); rintro e w1 ⟨rfl, rfl⟩)))
  all_goals (go_ret; exact ⟨by first | rfl | (simp; done) | (simp [*]; done) | (exfalso; have := HQ.out; omega), by repeat (first | exact Below.refl _ _ | apply zN | apply zD)⟩)
theorem ck5_calls {W : World} {g c1 c2 k : Nat} {id e : Int} {A1 A2 : Option Addr} {l r : List CkC} (h : IsRu W g id A1 c1 l A2 c2 r) (hp : 0 < l.length) (he : name_Kind.f k (rd_T48 l 0).f0 = some e) :
 Calls Tryz.prog 100 #[.pointer (some ⟨g, 0, none⟩)] W fun x w' => x = .returned (.int .i64 (if e = 2 then 20 else 0)) ∧ Below W.heap.size W w' := by
 have hc1 : W.cell? ⟨g, 1, none⟩ = some (.slice A1 l.length c1) := (zX h.blk 1).trans rfl
 obtain ⟨ad101, e101, hx101_0, hx101_1⟩ := at_T48 h.hl 0 (by omega) (by omega)
 cases e101
 have C1 := fun W => name_Kind.calls k _ e W he
 clear h he
 have qi101 : (0 < l.length) = True := eq_true hp
 have c3b1 : decide (0 < l.length) = true := zQ hp
 clear hp
 (try rw [show ((0 : Int)).toNat = 0 from rfl] at hx101_0)
 (try rw [show 0 * 2 = 0 from rfl] at hx101_0)
 (try rw [Addr.add_zero'] at hx101_0)
 clear hx101_1
 by_cases h2 : e = 2
 ·
  have d2 : (e == 2) = true := zG h2
  rw [if_pos h2]
  clear h2
  go_enter Tryz.func100, Tryz.ntmps100
  go_wp2_with (first | (go_at_call 35; (with_reducible refine (C1 _).mono ?_); rintro e w1 ⟨rfl, ⟨nd, rfl⟩⟩) | (go_at_call 96; (with_reducible refine (when_calls _ _ _).mono ?_); rintro e w1 ⟨rfl, rfl⟩))
  repeat (go_quiet (first | (go_at_call 35; (with_reducible refine (C1 _).mono ?_); rintro e w1 ⟨rfl, ⟨nd, rfl⟩⟩) | (go_at_call 96; (with_reducible refine (when_calls _ _ _).mono ?_); rintro e w1 ⟨rfl, rfl⟩)); try go_wp2_with (first | (go_at_call 35; (with_reducible refine (C1 _).mono ?_); rintro e w1 ⟨rfl, ⟨nd, rfl⟩⟩) | (go_at_call 96; (with_reducible refine (when_calls _ _ _).mono ?_); rintro e w1 ⟨rfl, rfl⟩)))
  all_goals (go_ret; exact ⟨by first | rfl | (simp; done) | (simp [*]; done) | (simp [*]; omega), by repeat (first | exact Below.refl _ _ | apply zN | apply zD)⟩)
 ·
  have d2 : (e == 2) = false := zE h2
  rw [if_neg h2]
  clear h2
  go_enter Tryz.func100, Tryz.ntmps100
  go_wp2_with (first | (go_at_call 35; (with_reducible refine (C1 _).mono ?_); rintro e w1 ⟨rfl, ⟨nd, rfl⟩⟩) | (go_at_call 96; (with_reducible refine (when_calls _ _ _).mono ?_); rintro e w1 ⟨rfl, rfl⟩))
  repeat (go_quiet (first | (go_at_call 35; (with_reducible refine (C1 _).mono ?_); rintro e w1 ⟨rfl, ⟨nd, rfl⟩⟩) | (go_at_call 96; (with_reducible refine (when_calls _ _ _).mono ?_); rintro e w1 ⟨rfl, rfl⟩)); try go_wp2_with (first | (go_at_call 35; (with_reducible refine (C1 _).mono ?_); rintro e w1 ⟨rfl, ⟨nd, rfl⟩⟩) | (go_at_call 96; (with_reducible refine (when_calls _ _ _).mono ?_); rintro e w1 ⟨rfl, rfl⟩)))
  all_goals (go_ret; exact ⟨by first | rfl | (simp; done) | (simp [*]; done) | (simp [*]; omega), by repeat (first | exact Below.refl _ _ | apply zN | apply zD)⟩)
def strF (k : Nat) (vl : List ByteArray) : List ByteArray → Option Bool
 | [] => some false
 | v :: u => (slices_Contains_string_string.f k vl v).bind fun b => if b = true then strF k vl u else some true
structure IsVl (W : World) (p : Nat) (A : Option Addr) (c : Nat) (vl : List ByteArray) : Prop where
 blk : W.heap[p]? = some (.cells #[.slice A vl.length c] 42 (0, 0))
 hl : Kd.C Kd.string W A vl.length vl
 hc : vl.length ≤ c
theorem IsVl.below {W W' : World} {p c : Nat} {A : Option Addr} {vl : List ByteArray} (h : IsVl W p A c vl) (hb : Below W.heap.size W W') : IsVl W' p A c vl :=
 ⟨(hb.block p (blk_lt h.blk)).trans h.blk, Kd.C_below h.hl hb, h.hc⟩
theorem st1_calls {W : World} {p c k : Nat} {A : Option Addr} {vl : List ByteArray} {v : ByteArray} {b : Bool} (h : IsVl W p A c vl) (hf : slices_Contains_string_string.f k vl v = some b) :
 Calls Tryz.prog 113 #[.string v, .pointer (some ⟨p, 0, none⟩)] W fun x w' => x = .returned (.bool (!b)) ∧ Below W.heap.size W w' := by
 have hc0 : W.cell? ⟨p, 0, none⟩ = some (.slice A vl.length c) := (zX h.blk 0).trans rfl
 have C1 := slices_Contains_string_string.calls k A c vl v b W h.hl h.hc hf
 clear h hf
 go_enter Tryz.func113, Tryz.ntmps113
 go_wp2_with (first | (go_at_call 74; (with_reducible refine C1.mono ?_); rintro e w1 ⟨rfl, hb⟩; have HB := zM hb.below; clear hb))
 go_ret
 exact ⟨rfl, HB.out⟩
theorem ifn_calls {w : World} {p c k cr : Nat} {A Ar : Option Addr} {vl vr : List ByteArray} {b : Bool} (h : IsVl w p A c vl) (hr : Kd.C Kd.string w Ar vr.length vr) (hf : strF k vl vr = some b) :
 Calls Tryz.prog 123 #[.slice Ar vr.length cr, .func (.func 113) #[] #[.pointer (some ⟨p, 0, none⟩)]] w fun x w' => (∃ j : Int, x = .returned (.int .i64 j) ∧ decide (0 ≤ j) = b) ∧ Below w.heap.size w w' := by
 have HV := zM h
 have HR := zM hr
 have HF := zM hf
 have HM := zM (show (vr.length : Int) ≤ 9223372036854775807 by have := hr.2.1; omega)
 clear h hr hf
 have HB := zM (Below.refl w.heap.size w)
 go_enter Tryz.func123, Tryz.ntmps123
 go_wp2
 go_loopg [8] vr.length (fun kq v8 w' => ∃ x : Int, v8 = .int .i64 x ∧ Aside0 (0 ≤ x ∧ x + kq = (vr.length : Int)) ∧ Aside0 (strF k vl (vr.drop x.toNat) = some b) ∧ Aside0 (Below w.heap.size w w'))
 case atStart => exact ⟨0, rfl, ⟨by omega⟩, HF, HB⟩
 case round =>
  clear HF HB
  obtain ⟨x, rfl, HI, HF, HB⟩ := hrel
  cases gk with
  | succ k1 =>
   have hi : 0 ≤ x ∧ x < (vr.length : Int) := by have := HI.out; omega
   have hb0 : decide (x < (vr.length : Int)) = true := zQ hi.2
   have hb2 : decide (0 ≤ x) = true := zQ hi.1
   have hd : vr.drop x.toNat = rdOf ByteArray.empty vr x :: vr.drop (x.toNat + 1) := by
    rw [List.drop_eq_getElem_cons (by omega)]
    congr 1
    unfold rdOf
    rw [List.getD_eq_getElem?_getD, List.getElem?_eq_getElem (by omega)]
    rfl
   obtain ⟨ad, rfl, hx⟩ := Kd.at_string HR.out x hi.1 hi.2
   replace hx := (HB.out.cell (World.block_lt_of_cell? w _ hx)).trans hx
   have hf := HF.out
   rw [hd] at hf
   unfold strF at hf
   obtain ⟨b1, hb1, hf⟩ := zB hf
   have HX := zM hi
   have S1 := fun (W : World) (hW : Below w.heap.size w W) => st1_calls (HV.out.below hW) hb1
   have hp := eq_true hi.1
   have hq := eq_true hi.2
   cases b1 with
   | true =>
    rw [if_pos rfl] at hf
    have HF2 := zM hf
    clear hf hd hi hb1
    go_wp2_with (first | (go_at_call 113; (with_reducible refine (S1 _ ?side1).mono ?_); (case side1 => exact zb); rintro e w1 ⟨rfl, hb⟩; replace HB := zM (below_step zb hb); clear hb))
    go_roundg k1
    case measure => have := HI.out; omega
    case rel => exact ⟨x + 1, by have e_ : wrap64 (x + 1) = x + 1 := (by have := HX.out; have := HM.out; unfold wrap64; omega); first | rfl | rw [e_] | (simp [e_]; done), ⟨by have := HI.out; omega⟩, ⟨by rw [show (x + 1).toNat = x.toNat + 1 by have := HX.out; omega]; exact HF2.out⟩, ⟨by repeat (first | exact HB.out | apply zA | apply zN | apply zD)⟩⟩
   | false =>
    rw [if_neg (by simp)] at hf
    obtain rfl := zS hf
    clear hf hd hi hb1
    go_wp2_with (first | (go_at_call 113; (with_reducible refine (S1 _ ?side1).mono ?_); (case side1 => exact zb); rintro e w1 ⟨rfl, hb⟩; replace HB := zM (below_step zb hb); clear hb))
    go_ret
    exact ⟨⟨x, rfl, zQ HX.out.1⟩, by repeat (first | exact HB.out | apply zA | apply zN | apply zD)⟩
  | zero =>
   have hb0 : decide (x < (vr.length : Int)) = false := zR (by have := HI.out; omega)
   have hf := HF.out
   rw [List.drop_eq_nil_of_le (by have := HI.out; omega)] at hf
   obtain rfl := zS hf
   clear hf
   go_wp2
   go_ret
   exact ⟨⟨-1, rfl, rfl⟩, HB.out⟩
theorem cfn_calls {w : World} {p c k cr : Nat} {A Ar : Option Addr} {vl vr : List ByteArray} {b : Bool} (h : IsVl w p A c vl) (hr : Kd.C Kd.string w Ar vr.length vr) (hf : strF k vl vr = some b) :
 Calls Tryz.prog 112 #[.slice Ar vr.length cr, .func (.func 113) #[] #[.pointer (some ⟨p, 0, none⟩)]] w fun x w' => x = .returned (.bool b) ∧ Below w.heap.size w w' := by
 have C1 := ifn_calls (cr := cr) h hr hf
 clear h hr hf
 go_enter Tryz.func112, Tryz.ntmps112
 go_wp2_with (first | (go_at_call 123; (with_reducible refine C1.mono ?_); rintro e w1 ⟨⟨j, rfl, hj⟩, hb⟩; have HB := zM hb; clear hb))
 go_ret
 exact ⟨zy, HB.out⟩
theorem str_calls {w : World} {c1 c2 k : Nat} {id q1 q2 : Int} {A1 A2 : Option Addr} {l r : List CkC} {vl vr : List ByteArray} {b : Bool} (hl : Kd.C k48 w A1 l.length l) (hl' : l.length ≤ c1) (hr : Kd.C k48 w A2 r.length r) (hr' : r.length ≤ c2)
 (h1 : term_Vars.f k l = some (vl, q1)) (h2 : term_Vars.f k r = some (vr, q2)) (hf : strF k vl vr = some b) :
 Calls Tryz.prog 102 #[.agg #[.int .i64 id, .slice A1 l.length c1, .slice A2 r.length c2]] w fun x w' => x = .returned (.bool b) ∧ Below w.heap.size w w' := by
 have HL := zM hl
 have HR := zM hr
 have V1 := fun (W : World) (hW : Below w.heap.size w W) => term_Vars.calls k A1 c1 l vl q1 W (Kd.C_below hl hW) hl' h1
 have V2 := fun (W : World) (hW : Below w.heap.size w W) => term_Vars.calls k A2 c2 r vr q2 W (Kd.C_below hr hW) hr' h2
 clear hl hr h1 h2
 have HF := zM hf
 clear hf
 have hmf : ∀ (fn : Fn) (first cap : Array Value) (w : World), (Instr.makeFunc fn first cap).run Tryz.prog w = .ok (.func fn first cap) w := fun _ _ _ _ => rfl
 have HB := zM (Below.refl w.heap.size w)
 go_enter Tryz.func102, Tryz.ntmps102
 go_wp2_with (first | (go_at_call 41; (with_reducible refine (V1 _ ?side1).mono ?_); (case side1 => exact zb); rintro e w1 ⟨v1, rfl, hR, hb⟩; obtain ⟨Av, cv, rfl⟩ := Kd.R_slice hR; have HRV := zM (Kd.R_reads' hR).2; have hz : w.heap.size + 1 ≤ w1.heap.size := (by have h_ := hb.size; simp at h_; omega); have hzc : w1.cell? ⟨w.heap.size, 2, none⟩ = some (.slice A2 r.length c2) := (hb.cell (p := ⟨w.heap.size, 2, none⟩) (by simp)).trans ((cell_of_row _ _ 2 _ _ (0, 0) (heap_alloc_new w _)).trans rfl); replace HB := zM (below_step zb hb); clear hR hb; have HZ := zM hz; have hlt : w.heap.size < w1.heap.size := hz; clear hz) | (go_at_call 41; (with_reducible refine (V2 _ ?side2).mono ?_); (case side2 => exact (by repeat (first | exact HB.out | apply zA | apply zN | apply zD | (refine below_set ?_ (by have := HZ.out; omega))))); rintro e w2 ⟨v2, rfl, hR, hb⟩; obtain ⟨Ar, cr, rfl⟩ := Kd.R_slice hR; have hbx := heap_alloc_new w1 (.cells #[.slice Av vl.length cv] 42); have HIV := zM (IsVl.below (vl := vl) (c := cv) (A := Av) ⟨hbx, Kd.C_below HRV.out.2 (zA (Below.refl _ _) _), HRV.out.1⟩ hb); have HCR := zM (Kd.R_reads' hR).2.2; replace HB := zM (below_step (by repeat (first | exact HB.out | apply zA | apply zN | apply zD | (refine below_set ?_ (by have := HZ.out; omega)))) hb); clear hR hb hbx) | (go_at_call 112; (with_reducible refine (cfn_calls HIV.out HCR.out HF.out).mono ?_); rintro e w3 ⟨rfl, hb⟩; replace HB := zM (below_step HB.out hb); clear hb))
 go_ret
 exact ⟨rfl, HB.out⟩
def fst6 (e1 e2 e3 e4 e5 e6 : Int) : Int := if e1 ≠ 0 then e1 else if e2 ≠ 0 then e2 else if e3 ≠ 0 then e3 else if e4 ≠ 0 then e4 else if e5 ≠ 0 then e5 else e6
abbrev Asks (w : World) (f : Nat) (p : Value) (e : Int) : Prop := ∀ W, Below w.heap.size w W → Calls Tryz.prog f #[p] W fun x w' => x = .returned (.int .i64 e) ∧ Below W.heap.size W w'
def fnV (f : Nat) (p : Value) : Value := .func (.func f) #[] #[p]
theorem first_calls {w : World} {s : Nat} {p : Value} {e1 e2 e3 e4 e5 e6 : Int}
 (hs : w.heap[s]? = some (.cells #[fnV 95 p, fnV 97 p, fnV 98 p, fnV 99 p, fnV 100 p, fnV 101 p] 149 (0, 0)))
 (h1 : Asks w 95 p e1) (h2 : e1 = 0 → Asks w 97 p e2) (h3 : e1 = 0 → e2 = 0 → Asks w 98 p e3)
 (h4 : e1 = 0 → e2 = 0 → e3 = 0 → Asks w 99 p e4) (h5 : e1 = 0 → e2 = 0 → e3 = 0 → e4 = 0 → Asks w 100 p e5) (h6 : e1 = 0 → e2 = 0 → e3 = 0 → e4 = 0 → e5 = 0 → Asks w 101 p e6) :
 Calls Tryz.prog 94 #[.slice (some ⟨s, 0, none⟩) 6 6] w fun x w' => x = .returned (.int .i64 (fst6 e1 e2 e3 e4 e5 e6)) ∧ Below w.heap.size w w' := by
 have hc0_0 : w.cell? ⟨s, 0, none⟩ = some (.func (.func 95) #[] #[p]) := (zX hs 0).trans rfl
 have hc0_1 : w.cell? ⟨s, 1, none⟩ = some (.func (.func 97) #[] #[p]) := (zX hs 1).trans rfl
 have hc0_2 : w.cell? ⟨s, 2, none⟩ = some (.func (.func 98) #[] #[p]) := (zX hs 2).trans rfl
 have hc0_3 : w.cell? ⟨s, 3, none⟩ = some (.func (.func 99) #[] #[p]) := (zX hs 3).trans rfl
 have hc0_4 : w.cell? ⟨s, 4, none⟩ = some (.func (.func 100) #[] #[p]) := (zX hs 4).trans rfl
 have hc0_5 : w.cell? ⟨s, 5, none⟩ = some (.func (.func 101) #[] #[p]) := (zX hs 5).trans rfl
 have HB := zM (Below.refl w.heap.size w)
 clear hs
 have HC0 := zM hc0_0
 have HC1 := zM hc0_1
 have HC2 := zM hc0_2
 have HC3 := zM hc0_3
 have HC4 := zM hc0_4
 have HC5 := zM hc0_5
 clear hc0_0 hc0_1 hc0_2 hc0_3 hc0_4 hc0_5
 have a1 := h1
 by_cases c1 : e1 = 0
 case neg =>
  have d1 : (e1 != 0) = true := zF c1
  have hf : fst6 e1 e2 e3 e4 e5 e6 = e1 := by
   unfold fst6
   simp [c1]
  rw [hf]
  clear hf c1 h1 h2 h3 h4 h5 h6
  have hc_0 := HC0.out
  go_enter Tryz.func94, Tryz.ntmps94
  go_wp2
  refine wp_loop_rounds 1 ?_
  rw [rounds_succ]
  go_wp2_with (first | (go_at_call 95; (with_reducible refine (a1 _ ?side1).mono ?_); (case side1 => exact zb); rintro e w1 ⟨rfl, hb⟩; replace HB := zM (below_step zb hb); clear hb; have hc_1 := pw_cell_below HB.out HC1.out))
  go_ret
  exact ⟨zy, HB.out⟩
 case pos =>
 subst c1
 have a2 := h2 rfl
 by_cases c2 : e2 = 0
 case neg =>
  have d2 : (e2 != 0) = true := zF c2
  have hf : fst6 0 e2 e3 e4 e5 e6 = e2 := by
   unfold fst6
   simp [c2]
  rw [hf]
  clear hf c2 h1 h2 h3 h4 h5 h6
  have hc_0 := HC0.out
  go_enter Tryz.func94, Tryz.ntmps94
  go_wp2
  refine wp_loop_rounds 2 ?_
  rw [rounds_succ]
  go_wp2_with (first | (go_at_call 95; (with_reducible refine (a1 _ ?side1).mono ?_); (case side1 => exact zb); rintro e w1 ⟨rfl, hb⟩; replace HB := zM (below_step zb hb); clear hb; have hc_1 := pw_cell_below HB.out HC1.out))
  rw [rounds_succ]
  go_wp2_with (first | (go_at_call 97; (with_reducible refine (a2 _ ?side2).mono ?_); (case side2 => exact zb); rintro e w2 ⟨rfl, hb⟩; replace HB := zM (below_step zb hb); clear hb; have hc_2 := pw_cell_below HB.out HC2.out))
  go_ret
  exact ⟨zy, HB.out⟩
 case pos =>
 subst c2
 have a3 := h3 rfl rfl
 by_cases c3 : e3 = 0
 case neg =>
  have d3 : (e3 != 0) = true := zF c3
  have hf : fst6 0 0 e3 e4 e5 e6 = e3 := by
   unfold fst6
   simp [c3]
  rw [hf]
  clear hf c3 h1 h2 h3 h4 h5 h6
  have hc_0 := HC0.out
  go_enter Tryz.func94, Tryz.ntmps94
  go_wp2
  refine wp_loop_rounds 3 ?_
  rw [rounds_succ]
  go_wp2_with (first | (go_at_call 95; (with_reducible refine (a1 _ ?side1).mono ?_); (case side1 => exact zb); rintro e w1 ⟨rfl, hb⟩; replace HB := zM (below_step zb hb); clear hb; have hc_1 := pw_cell_below HB.out HC1.out))
  rw [rounds_succ]
  go_wp2_with (first | (go_at_call 97; (with_reducible refine (a2 _ ?side2).mono ?_); (case side2 => exact zb); rintro e w2 ⟨rfl, hb⟩; replace HB := zM (below_step zb hb); clear hb; have hc_2 := pw_cell_below HB.out HC2.out))
  rw [rounds_succ]
  go_wp2_with (first | (go_at_call 98; (with_reducible refine (a3 _ ?side3).mono ?_); (case side3 => exact zb); rintro e w3 ⟨rfl, hb⟩; replace HB := zM (below_step zb hb); clear hb; have hc_3 := pw_cell_below HB.out HC3.out))
  go_ret
  exact ⟨zy, HB.out⟩
 case pos =>
 subst c3
 have a4 := h4 rfl rfl rfl
 by_cases c4 : e4 = 0
 case neg =>
  have d4 : (e4 != 0) = true := zF c4
  have hf : fst6 0 0 0 e4 e5 e6 = e4 := by
   unfold fst6
   simp [c4]
  rw [hf]
  clear hf c4 h1 h2 h3 h4 h5 h6
  have hc_0 := HC0.out
  go_enter Tryz.func94, Tryz.ntmps94
  go_wp2
  refine wp_loop_rounds 4 ?_
  rw [rounds_succ]
  go_wp2_with (first | (go_at_call 95; (with_reducible refine (a1 _ ?side1).mono ?_); (case side1 => exact zb); rintro e w1 ⟨rfl, hb⟩; replace HB := zM (below_step zb hb); clear hb; have hc_1 := pw_cell_below HB.out HC1.out))
  rw [rounds_succ]
  go_wp2_with (first | (go_at_call 97; (with_reducible refine (a2 _ ?side2).mono ?_); (case side2 => exact zb); rintro e w2 ⟨rfl, hb⟩; replace HB := zM (below_step zb hb); clear hb; have hc_2 := pw_cell_below HB.out HC2.out))
  rw [rounds_succ]
  go_wp2_with (first | (go_at_call 98; (with_reducible refine (a3 _ ?side3).mono ?_); (case side3 => exact zb); rintro e w3 ⟨rfl, hb⟩; replace HB := zM (below_step zb hb); clear hb; have hc_3 := pw_cell_below HB.out HC3.out))
  rw [rounds_succ]
  go_wp2_with (first | (go_at_call 99; (with_reducible refine (a4 _ ?side4).mono ?_); (case side4 => exact zb); rintro e w4 ⟨rfl, hb⟩; replace HB := zM (below_step zb hb); clear hb; have hc_4 := pw_cell_below HB.out HC4.out))
  go_ret
  exact ⟨zy, HB.out⟩
 case pos =>
 subst c4
 have a5 := h5 rfl rfl rfl rfl
 by_cases c5 : e5 = 0
 case neg =>
  have d5 : (e5 != 0) = true := zF c5
  have hf : fst6 0 0 0 0 e5 e6 = e5 := by
   unfold fst6
   simp [c5]
  rw [hf]
  clear hf c5 h1 h2 h3 h4 h5 h6
  have hc_0 := HC0.out
  go_enter Tryz.func94, Tryz.ntmps94
  go_wp2
  refine wp_loop_rounds 5 ?_
  rw [rounds_succ]
  go_wp2_with (first | (go_at_call 95; (with_reducible refine (a1 _ ?side1).mono ?_); (case side1 => exact zb); rintro e w1 ⟨rfl, hb⟩; replace HB := zM (below_step zb hb); clear hb; have hc_1 := pw_cell_below HB.out HC1.out))
  rw [rounds_succ]
  go_wp2_with (first | (go_at_call 97; (with_reducible refine (a2 _ ?side2).mono ?_); (case side2 => exact zb); rintro e w2 ⟨rfl, hb⟩; replace HB := zM (below_step zb hb); clear hb; have hc_2 := pw_cell_below HB.out HC2.out))
  rw [rounds_succ]
  go_wp2_with (first | (go_at_call 98; (with_reducible refine (a3 _ ?side3).mono ?_); (case side3 => exact zb); rintro e w3 ⟨rfl, hb⟩; replace HB := zM (below_step zb hb); clear hb; have hc_3 := pw_cell_below HB.out HC3.out))
  rw [rounds_succ]
  go_wp2_with (first | (go_at_call 99; (with_reducible refine (a4 _ ?side4).mono ?_); (case side4 => exact zb); rintro e w4 ⟨rfl, hb⟩; replace HB := zM (below_step zb hb); clear hb; have hc_4 := pw_cell_below HB.out HC4.out))
  rw [rounds_succ]
  go_wp2_with (first | (go_at_call 100; (with_reducible refine (a5 _ ?side5).mono ?_); (case side5 => exact zb); rintro e w5 ⟨rfl, hb⟩; replace HB := zM (below_step zb hb); clear hb; have hc_5 := pw_cell_below HB.out HC5.out))
  go_ret
  exact ⟨zy, HB.out⟩
 case pos =>
 subst c5
 have a6 := h6 rfl rfl rfl rfl rfl
 by_cases c6 : e6 = 0
 case neg =>
  have d6 : (e6 != 0) = true := zF c6
  have hf : fst6 0 0 0 0 0 e6 = e6 := by
   unfold fst6
   simp [c6]
  rw [hf]
  clear hf c6 h1 h2 h3 h4 h5 h6
  have hc_0 := HC0.out
  go_enter Tryz.func94, Tryz.ntmps94
  go_wp2
  refine wp_loop_rounds 6 ?_
  rw [rounds_succ]
  go_wp2_with (first | (go_at_call 95; (with_reducible refine (a1 _ ?side1).mono ?_); (case side1 => exact zb); rintro e w1 ⟨rfl, hb⟩; replace HB := zM (below_step zb hb); clear hb; have hc_1 := pw_cell_below HB.out HC1.out))
  rw [rounds_succ]
  go_wp2_with (first | (go_at_call 97; (with_reducible refine (a2 _ ?side2).mono ?_); (case side2 => exact zb); rintro e w2 ⟨rfl, hb⟩; replace HB := zM (below_step zb hb); clear hb; have hc_2 := pw_cell_below HB.out HC2.out))
  rw [rounds_succ]
  go_wp2_with (first | (go_at_call 98; (with_reducible refine (a3 _ ?side3).mono ?_); (case side3 => exact zb); rintro e w3 ⟨rfl, hb⟩; replace HB := zM (below_step zb hb); clear hb; have hc_3 := pw_cell_below HB.out HC3.out))
  rw [rounds_succ]
  go_wp2_with (first | (go_at_call 99; (with_reducible refine (a4 _ ?side4).mono ?_); (case side4 => exact zb); rintro e w4 ⟨rfl, hb⟩; replace HB := zM (below_step zb hb); clear hb; have hc_4 := pw_cell_below HB.out HC4.out))
  rw [rounds_succ]
  go_wp2_with (first | (go_at_call 100; (with_reducible refine (a5 _ ?side5).mono ?_); (case side5 => exact zb); rintro e w5 ⟨rfl, hb⟩; replace HB := zM (below_step zb hb); clear hb; have hc_5 := pw_cell_below HB.out HC5.out))
  rw [rounds_succ]
  go_wp2_with (first | (go_at_call 101; (with_reducible refine (a6 _ ?side6).mono ?_); (case side6 => exact zb); rintro e w6 ⟨rfl, hb⟩; replace HB := zM (below_step zb hb); clear hb))
  go_ret
  exact ⟨zy, HB.out⟩
 case pos =>
 subst c6
 have hf : fst6 0 0 0 0 0 0 = 0 := rfl
 rw [hf]
 clear hf h1 h2 h3 h4 h5 h6
 have hc_0 := HC0.out
 go_enter Tryz.func94, Tryz.ntmps94
 go_wp2
 refine wp_loop_rounds 7 ?_
 rw [rounds_succ]
 go_wp2_with (first | (go_at_call 95; (with_reducible refine (a1 _ ?side1).mono ?_); (case side1 => exact zb); rintro e w1 ⟨rfl, hb⟩; replace HB := zM (below_step zb hb); clear hb; have hc_1 := pw_cell_below HB.out HC1.out))
 rw [rounds_succ]
 go_wp2_with (first | (go_at_call 97; (with_reducible refine (a2 _ ?side2).mono ?_); (case side2 => exact zb); rintro e w2 ⟨rfl, hb⟩; replace HB := zM (below_step zb hb); clear hb; have hc_2 := pw_cell_below HB.out HC2.out))
 rw [rounds_succ]
 go_wp2_with (first | (go_at_call 98; (with_reducible refine (a3 _ ?side3).mono ?_); (case side3 => exact zb); rintro e w3 ⟨rfl, hb⟩; replace HB := zM (below_step zb hb); clear hb; have hc_3 := pw_cell_below HB.out HC3.out))
 rw [rounds_succ]
 go_wp2_with (first | (go_at_call 99; (with_reducible refine (a4 _ ?side4).mono ?_); (case side4 => exact zb); rintro e w4 ⟨rfl, hb⟩; replace HB := zM (below_step zb hb); clear hb; have hc_4 := pw_cell_below HB.out HC4.out))
 rw [rounds_succ]
 go_wp2_with (first | (go_at_call 100; (with_reducible refine (a5 _ ?side5).mono ?_); (case side5 => exact zb); rintro e w5 ⟨rfl, hb⟩; replace HB := zM (below_step zb hb); clear hb; have hc_5 := pw_cell_below HB.out HC5.out))
 rw [rounds_succ]
 go_wp2_with (first | (go_at_call 101; (with_reducible refine (a6 _ ?side6).mono ?_); (case side6 => exact zb); rintro e w6 ⟨rfl, hb⟩; replace HB := zM (below_step zb hb); clear hb))
 rw [rounds_succ]
 go_wp2
 go_ret
 exact ⟨zy, HB.out⟩
theorem ck6_calls {W : World} {g c1 c2 k : Nat} {id q1 q2 : Int} {A1 A2 : Option Addr} {l r : List CkC} {vl vr : List ByteArray} {b : Bool} (h : IsRu W g id A1 c1 l A2 c2 r)
 (h1 : term_Vars.f k l = some (vl, q1)) (h2 : term_Vars.f k r = some (vr, q2)) (hf : strF k vl vr = some b) :
 Calls Tryz.prog 101 #[.pointer (some ⟨g, 0, none⟩)] W fun x w' => x = .returned (.int .i64 (if b = true then 7 else 0)) ∧ Below W.heap.size W w' := by
 have hc0 : W.cell? ⟨g, 0, none⟩ = some (.int .i64 id) := (zX h.blk 0).trans rfl
 have hc1 : W.cell? ⟨g, 1, none⟩ = some (.slice A1 l.length c1) := (zX h.blk 1).trans rfl
 have hc2 : W.cell? ⟨g, 2, none⟩ = some (.slice A2 r.length c2) := (zX h.blk 2).trans rfl
 have S1 := str_calls (id := id) h.hl h.hl' h.hr h.hr' h1 h2 hf
 clear h h1 h2 hf
 cases b
 ·
  go_enter Tryz.func101, Tryz.ntmps101
  go_wp2_with (first | (go_at_call 102; (with_reducible refine S1.mono ?_); rintro e w1 ⟨rfl, hb⟩; have HB := zM hb; clear hb) | (go_at_call 96; (with_reducible refine (when_calls _ _ _).mono ?_); rintro e w2 ⟨rfl, rfl⟩))
  go_ret
  exact ⟨zy, HB.out⟩
 ·
  go_enter Tryz.func101, Tryz.ntmps101
  go_wp2_with (first | (go_at_call 102; (with_reducible refine S1.mono ?_); rintro e w1 ⟨rfl, hb⟩; have HB := zM hb; clear hb) | (go_at_call 96; (with_reducible refine (when_calls _ _ _).mono ?_); rintro e w2 ⟨rfl, rfl⟩))
  go_ret
  exact ⟨zy, HB.out⟩
def rchF (k : Nat) (id : Int) (l r : List CkC) : Option Int :=
 if id < 0 then some 1 else if id > 65535 then some 1 else
 (term_Check.f k l).bind fun e2 => if e2 = 0 then ((term_Check.f k r).bind fun e3 => if e3 = 0 then (
  if l.length > 8 then some 6 else if r.length > 8 then some 6 else if 0 < l.length then (
   (name_Kind.f k (rd_T48 l 0).f0).bind fun kd => if kd = 2 then some 20 else
    (term_Vars.f k l).bind fun a => (term_Vars.f k r).bind fun b => (strF k a.1 b.1).bind fun s => some (if s = true then 7 else 0)) else none) else some e3) else some e2
theorem fst6_1 {e1 e2 e3 e4 e5 e6 : Int} (h : e1 ≠ 0) : fst6 e1 e2 e3 e4 e5 e6 = e1 := if_pos h
theorem fst6_2 {e2 e3 e4 e5 e6 : Int} (h : e2 ≠ 0) : fst6 0 e2 e3 e4 e5 e6 = e2 := by unfold fst6; simp [h]
theorem fst6_3 {e3 e4 e5 e6 : Int} (h : e3 ≠ 0) : fst6 0 0 e3 e4 e5 e6 = e3 := by unfold fst6; simp [h]
theorem fst6_4 {e4 e5 e6 : Int} (h : e4 ≠ 0) : fst6 0 0 0 e4 e5 e6 = e4 := by unfold fst6; simp [h]
theorem fst6_5 {e5 e6 : Int} (h : e5 ≠ 0) : fst6 0 0 0 0 e5 e6 = e5 := by unfold fst6; simp [h]
theorem rch_split {k : Nat} {id e : Int} {l r : List CkC} (h : rchF k id l r = some e) : ∃ e2 e3 kd e6 : Int, fst6 (if id < 0 then 1 else if id > 65535 then 1 else 0) e2 e3 (if l.length > 8 then 6 else if r.length > 8 then 6 else 0) (if kd = 2 then 20 else 0) e6 = e ∧
 ((if id < 0 then (1 : Int) else if id > 65535 then 1 else 0) = 0 → term_Check.f k l = some e2) ∧ ((if id < 0 then (1 : Int) else if id > 65535 then 1 else 0) = 0 → e2 = 0 → term_Check.f k r = some e3) ∧
 ((if id < 0 then (1 : Int) else if id > 65535 then 1 else 0) = 0 → e2 = 0 → e3 = 0 → (if l.length > 8 then (6 : Int) else if r.length > 8 then 6 else 0) = 0 → 0 < l.length ∧ name_Kind.f k (rd_T48 l 0).f0 = some kd) ∧
 ((if id < 0 then (1 : Int) else if id > 65535 then 1 else 0) = 0 → e2 = 0 → e3 = 0 → (if l.length > 8 then (6 : Int) else if r.length > 8 then 6 else 0) = 0 → (if kd = 2 then (20 : Int) else 0) = 0 → ∃ vl q1 vr q2 b, term_Vars.f k l = some (vl, q1) ∧ term_Vars.f k r = some (vr, q2) ∧ strF k vl vr = some b ∧ e6 = if b = true then 7 else 0) := by
 unfold rchF at h
 by_cases c1 : id < 0
 ·
  rw [if_pos c1] at h
  injection h with h
  subst h
  simp only [if_pos c1]
  exact ⟨0, 0, 0, 0, fst6_1 (by decide), (fun h => absurd h (by decide)), (fun h => absurd h (by decide)), (fun h => absurd h (by decide)), (fun h => absurd h (by decide))⟩
 ·
  rw [if_neg c1] at h
  simp only [if_neg c1]
  by_cases c2 : id > 65535
  ·
   rw [if_pos c2] at h
   injection h with h
   subst h
   simp only [if_pos c2]
   exact ⟨0, 0, 0, 0, fst6_1 (by decide), (fun h => absurd h (by decide)), (fun h => absurd h (by decide)), (fun h => absurd h (by decide)), (fun h => absurd h (by decide))⟩
  ·
   rw [if_neg c2] at h
   simp only [if_neg c2]
   obtain ⟨e2, h2, h⟩ := zB h
   by_cases d2 : e2 = 0
   ·
    subst d2
    rw [if_pos rfl] at h
    obtain ⟨e3, h3, h⟩ := zB h
    by_cases d3 : e3 = 0
    ·
     subst d3
     rw [if_pos rfl] at h
     by_cases d4 : l.length > 8
     ·
      rw [if_pos d4] at h
      injection h with h
      subst h
      simp only [if_pos d4]
      exact ⟨0, 0, 0, 0, fst6_4 (by decide), fun _ => h2, fun _ _ => h3, (fun _ _ _ h => absurd h (by decide)), (fun _ _ _ h => absurd h (by decide))⟩
     ·
      rw [if_neg d4] at h
      simp only [if_neg d4]
      by_cases d5 : r.length > 8
      ·
       rw [if_pos d5] at h
       injection h with h
       subst h
       simp only [if_pos d5]
       exact ⟨0, 0, 0, 0, fst6_4 (by decide), fun _ => h2, fun _ _ => h3, (fun _ _ _ h => absurd h (by decide)), (fun _ _ _ h => absurd h (by decide))⟩
      ·
       rw [if_neg d5] at h
       simp only [if_neg d5]
       by_cases d6 : 0 < l.length
       ·
        rw [if_pos d6] at h
        obtain ⟨kd, hk, h⟩ := zB h
        by_cases d7 : kd = 2
        ·
         rw [if_pos d7] at h
         injection h with h
         subst h
         refine ⟨0, 0, kd, 0, ?_, fun _ => h2, fun _ _ => h3, fun _ _ _ _ => ⟨d6, hk⟩, fun _ _ _ _ h => ?_⟩
         ·
          rw [if_pos d7]; exact fst6_5 (by decide)
         ·
          rw [if_pos d7] at h; cases h
        ·
         rw [if_neg d7] at h
         obtain ⟨⟨vl, q1⟩, a1, h⟩ := zB h
         obtain ⟨⟨vr, q2⟩, a2, h⟩ := zB h
         obtain ⟨b, a3, h⟩ := zB h
         injection h with h
         subst h
         refine ⟨0, 0, kd, _, ?_, fun _ => h2, fun _ _ => h3, fun _ _ _ _ => ⟨d6, hk⟩, fun _ _ _ _ _ => ⟨vl, q1, vr, q2, b, a1, a2, a3, rfl⟩⟩
         rw [if_neg d7]
         rfl
       ·
        rw [if_neg d6] at h
        cases h
    ·
     rw [if_neg d3] at h
     injection h with h
     subst h
     exact ⟨0, e3, 0, 0, fst6_3 d3, fun _ => h2, fun _ _ => h3, fun _ _ h => absurd h d3, fun _ _ h => absurd h d3⟩
   ·
    rw [if_neg d2] at h
    injection h with h
    subst h
    exact ⟨e2, 0, 0, 0, fst6_2 d2, fun _ => h2, fun _ h => absurd h d2, fun _ h => absurd h d2, fun _ h => absurd h d2⟩
def ruBox (w : World) (id : Int) (A1 : Option Addr) (c1 : Nat) (l : List CkC) (A2 : Option Addr) (c2 : Nat) (r : List CkC) : World := w.alloc (.cells #[.int .i64 id, .slice A1 l.length c1, .slice A2 r.length c2] 26)
def ruP (w : World) : Value := .pointer (some ⟨w.heap.size, 0, none⟩)
theorem rch_calls (k : Nat) (id : Int) (A1 : Option Addr) (c1 : Nat) (l : List CkC) (A2 : Option Addr) (c2 : Nat) (r : List CkC) (e : Int) (w : World) (hl : Kd.C k48 w A1 l.length l) (hl' : l.length ≤ c1) (hr : Kd.C k48 w A2 r.length r) (hr' : r.length ≤ c2) (h : rchF k id l r = some e) :
 Calls Tryz.prog 75 #[.agg #[.int .i64 id, .slice A1 l.length c1, .slice A2 r.length c2]] w fun x w' => x = .returned (.int .i64 e) ∧ Below w.heap.size w w' := by
 obtain ⟨e2, e3, kd, e6, hfst, g2, g3, g5, g6⟩ := rch_split h
 clear h
 have hb1 : Below w.heap.size w (ruBox w id A1 c1 l A2 c2 r) := zA (Below.refl _ _) _
 have hI : IsRu (ruBox w id A1 c1 l A2 c2 r) w.heap.size id A1 c1 l A2 c2 r := ⟨heap_alloc_new w _, Kd.C_below hl hb1, hl', Kd.C_below hr hb1, hr'⟩
 have hsz : (ruBox w id A1 c1 l A2 c2 r).heap.size = w.heap.size + 1 := by simp [ruBox]
 have FC := fun (row : Obj) (hrow : row = .cells #[fnV 95 (ruP w), fnV 97 (ruP w), fnV 98 (ruP w), fnV 99 (ruP w), fnV 100 (ruP w), fnV 101 (ruP w)] 149 (0, 0)) =>
  (show Calls Tryz.prog 94 #[.slice (some ⟨w.heap.size + 1, 0, none⟩) 6 6] ((ruBox w id A1 c1 l A2 c2 r).alloc row) (fun x w' => x = .returned (.int .i64 e) ∧ Below w.heap.size w w') from by
   have hI2 : IsRu ((ruBox w id A1 c1 l A2 c2 r).alloc row) w.heap.size id A1 c1 l A2 c2 r := hI.below (zA (Below.refl _ _) _)
   have hs := heap_alloc_new (ruBox w id A1 c1 l A2 c2 r) row
   rw [hsz] at hs
   rw [hrow] at hs hI2 ⊢
   have := first_calls (p := ruP w) hs (fun W hW => ck1_calls (hI2.below hW)) (fun a => fun W hW => ck2_calls (hI2.below hW) (g2 a)) (fun a b => fun W hW => ck3_calls (hI2.below hW) (g3 a b)) (fun a b c => fun W hW => ck4_calls (hI2.below hW)) (fun a b c d => fun W hW => ck5_calls (hI2.below hW) (g5 a b c d).1 (g5 a b c d).2)
    (e6 := e6) (fun a b c d f => fun W hW => by
     obtain ⟨vl, q1, vr, q2, b', a1, a2, a3, a4⟩ := g6 a b c d f
     rw [a4]
     exact ck6_calls (hI2.below hW) a1 a2 a3)
   rw [hfst] at this
   exact this.mono fun x w' hx => ⟨hx.1, below_step (zA hb1 _) hx.2⟩)
 clear hI hsz hb1 g2 g3 g5 g6 hfst hl hr
 have FD := FC _ rfl
 clear FC
 unfold ruBox ruP fnV at FD
 have hmf : ∀ (fn : Fn) (first cap : Array Value) (w : World), (Instr.makeFunc fn first cap).run Tryz.prog w = .ok (.func fn first cap) w := fun _ _ _ _ => rfl
 go_enter Tryz.func75, Tryz.ntmps75
 go_wp2_with (first | (go_at_call 94; (with_reducible refine FD.mono ?_); rintro e w1 ⟨rfl, hb⟩; have HB := zM hb; clear hb))
 go_ret
 exact ⟨rfl, HB.out⟩
theorem strF_mono (vl : List ByteArray) (k : Nat) : ∀ vr, LeO (strF k vl vr) (strF (k + 1) vl vr)
 | [] => LeO.refl _
 | v :: u => by
  unfold strF
  exact LeO.bind (slices_Contains_string_string.mono _ _ _) fun b => LeO.ite (strF_mono vl k u) (LeO.refl _)
def rule_Check.f (k : Nat) (a0_0 : Int) (l0_1 : List (S48)) (l0_2 : List (S48)) : Option Int := rchF k a0_0 l0_1 l0_2
theorem rule_Check.mono : ∀ a0 a1 a2 k, LeO (rule_Check.f k a0 a1 a2) (rule_Check.f (k + 1) a0 a1 a2) := by
 intro a0 a1 a2 k
 unfold rule_Check.f rchF
 refine LeO.ite (LeO.refl _) (LeO.ite (LeO.refl _) (LeO.bind (term_Check.mono _ _) fun _ => LeO.ite (LeO.bind (term_Check.mono _ _) fun _ => LeO.ite (LeO.ite (LeO.refl _) (LeO.ite (LeO.refl _) (LeO.ite (LeO.bind (name_Kind.mono _ _) fun _ => LeO.ite (LeO.refl _) (LeO.bind (term_Vars.mono _ _) fun _ => LeO.bind (term_Vars.mono _ _) fun _ => LeO.bind (strF_mono _ _ _) fun _ => LeO.refl _)) (LeO.refl _)))) (LeO.refl _)) (LeO.refl _)))
theorem rule_Check.calls (k : Nat) (a0_0 : Int) (A0_1 : Option Addr) (c0_1 : Nat) (l0_1 : List (S48)) (A0_2 : Option Addr) (c0_2 : Nat) (l0_2 : List (S48)) (r : Int) (w : World) (hr0_1 : Kd.C k48 w A0_1 l0_1.length l0_1) (hc0_1 : l0_1.length ≤ c0_1) (hr0_2 : Kd.C k48 w A0_2 l0_2.length l0_2) (hc0_2 : l0_2.length ≤ c0_2) (h : rule_Check.f k a0_0 l0_1 l0_2 = some r) :
 Calls Tryz.prog 75 #[.agg #[.int .i64 a0_0, .slice A0_1 l0_1.length c0_1, .slice A0_2 l0_2.length c0_2]] w fun e w' => e = .returned (.int .i64 r) ∧ Below w.heap.size w w' := rch_calls k a0_0 A0_1 c0_1 l0_1 A0_2 c0_2 l0_2 r w hr0_1 hc0_1 hr0_2 hc0_2 h



-- ==== PF44

def rule_Parse.f (k : Nat) (a0 : ByteArray) (a1 : ByteArray) : Option (Int × (List (S48)) × (List (S48)) × Int) := (term_Parse.f k a0).bind fun bt102 => (if bt102.2.2 = 0 then ((term_Parse.f k a1).bind fun bt107 => (if bt107.2.2 = 0 then ((rule_Check.f k 0 bt102.1 bt107.1).bind fun t113 => (if t113 = 0 then (some (0, bt102.1, bt107.1, 0)) else (some (0, ([] : List (S48)), ([] : List (S48)), t113)))) else (some (0, ([] : List (S48)), ([] : List (S48)), bt107.2.2)))) else (some (0, ([] : List (S48)), ([] : List (S48)), bt102.2.2)))
theorem rule_Parse.mono : ∀ a0 a1 k, LeO (rule_Parse.f k a0 a1) (rule_Parse.f (k + 1) a0 a1) := by
 intro a0 a1 k
 unfold rule_Parse.f
 repeat' first
  | (with_reducible exact rule_Check.mono _ _ _ _)
  | (with_reducible exact term_Parse.mono _ _)
  | (with_reducible exact LeO.refl _)
  | (with_reducible exact LeO.none _)
  | (with_reducible refine LeO.ite ?_ ?_)
  | (with_reducible refine LeO.bind ?_ (fun _ => ?_))
theorem rule_Parse.calls (k : Nat) (a0 : ByteArray) (a1 : ByteArray) (r1 : Int) (r2 : List (S48)) (r3 : List (S48)) (r4 : Int) (w : World) (h : rule_Parse.f k a0 a1 = some (r1, r2, r3, r4)) :
 Calls Tryz.prog 44 #[.string a0, .string a1] w fun e w' => ∃ v1_ v2_ : Value, e = .returned (.tuple #[.agg #[.int .i64 r1, v1_, v2_], .int .i64 r4]) ∧ Kd.R k48 48 w' w.heap.size (fun k_ => some k_ ≠ (v2_ : Value).ownBlock) v1_ r2 ∧ Kd.R k48 48 w' w.heap.size (fun k_ => some k_ ≠ (v1_ : Value).ownBlock) v2_ r3 ∧ Below w.heap.size w w' := by
 have hu26 := Tryz.underlying26
 have HB := zM (Below.refl w.heap.size w)
 have H : ((term_Parse.f k a0).bind fun bt102 => (if bt102.2.2 = 0 then ((term_Parse.f k a1).bind fun bt107 => (if bt107.2.2 = 0 then ((rule_Check.f k 0 bt102.1 bt107.1).bind fun t113 => (if t113 = 0 then (some (0, bt102.1, bt107.1, 0)) else (some (0, ([] : List (S48)), ([] : List (S48)), t113)))) else (some (0, ([] : List (S48)), ([] : List (S48)), bt107.2.2)))) else (some (0, ([] : List (S48)), ([] : List (S48)), bt102.2.2)))) = some (r1, r2, r3, r4) := h
 clear h
 replace H := zB H
 obtain ⟨⟨t102, t103, t104⟩, A30, H⟩ := H
 try dsimp only at H
 have A3 := zM A30
 clear A30
 by_cases c4 : t104 = 0
 ·
  rw [if_pos c4] at H
  have c4b0 : (t104 == 0) = true := zG c4
  have c4b1 : (t104 != 0) = false := zH c4
  clear c4
  replace H := zB H
  obtain ⟨⟨t107, t108, t109⟩, A50, H⟩ := H
  try dsimp only at H
  have A5 := zM A50
  clear A50
  by_cases c6 : t109 = 0
  ·
   rw [if_pos c6] at H
   have c6b0 : (t109 == 0) = true := zG c6
   have c6b1 : (t109 != 0) = false := zH c6
   clear c6
   replace H := zB H
   obtain ⟨t113, A70, H⟩ := H
   try dsimp only at H
   have A7 := zM A70
   clear A70
   by_cases c8 : t113 = 0
   ·
    rw [if_pos c8] at H
    have c8b0 : (t113 == 0) = true := zG c8
    have c8b1 : (t113 != 0) = false := zH c8
    clear c8
    simp only [Option.some.injEq, Prod.mk.injEq] at H
    obtain ⟨rfl, rfl, rfl, rfl⟩ := H
    go_enter Tryz.func44, Tryz.ntmps44
    go_wp2_with (first | ((with_reducible refine gate_dst (N := 4) rfl ?_); refine box_event ?hg (N := 4) ?hd (cs := #[.int .i64 0, .slice none 0 0, .slice none 0 0]) (t := 26) ?hr ?_; (case hd => rfl); (case hg => rfl); (case hr => first | (go_simp; done) | (go_simp; rfl)); intro gb101 hg w9 hbox hb; have BK101 := zM (hbox); have GW101 := zM (zh hg : w.heap.size ≤ gb101); have GE101 := zM (zh hg : w.heap.size ≤ gb101); replace HB := zM (below_step zb hb); clear hb hbox hg) | ((with_reducible refine gate_callee (f := 40) rfl ?_); refine goesL_ (some 15) rfl rfl Tryz.func40 (by kernel_rfl) rfl #[.string a0] rfl zl ?_; (with_reducible refine (term_Parse.calls k a0 t102 t103 t104 _ A3.out).mono ?_); rintro e w10 ⟨v105, rfl, ho0, hb⟩; refine ⟨_, rfl, ?_⟩; have HO106 := zM (Kd.R_lower ho0 (below_size zb)); replace BK101 := zM (blk_below (zk BK101.out) hb); replace HB := zM (below_step zb hb); (try clear hb); (try clear ho0)) | ((with_reducible refine gate_callee (f := 40) rfl ?_); refine goesL_ (some 25) rfl rfl Tryz.func40 (by kernel_rfl) rfl #[.string a1] rfl zl ?_; (with_reducible refine (term_Parse.calls k a1 t107 t108 t109 _ A5.out).mono ?_); rintro e w11 ⟨v110, rfl, ho0, hb⟩; refine ⟨_, rfl, ?_⟩; have HO111 := zM (Kd.R_lower (Kd.R_new' ho0 (Kd.R_lt (zr HO106.out))) (below_size zb)); replace HO106 := zM (Kd.R_elder' (zr HO106.out) (Kd.R_base ho0) hb); replace BK101 := zM (blk_below (zk BK101.out) hb); replace HB := zM (below_step zb hb); (try clear hb); (try clear ho0); obtain ⟨Ao12, co12, eo12⟩ := Kd.R_slice HO111.out; subst eo12; obtain ⟨Ao13, co13, eo13⟩ := Kd.R_slice HO106.out; subst eo13) | ((with_reducible refine gate_dst (N := 11) rfl ?_); refine box_event ?hg (N := 11) ?hd (cs := #[.int .i64 0, .slice none 0 0, .slice none 0 0]) (t := 26) ?hr ?_; (case hd => rfl); (case hg => rfl); (case hr => first | (go_simp; done) | (go_simp; rfl)); intro gb112 hg w14 hbox hb; replace HO106 := zM (Kd.R_below (zr HO106.out) hb); replace HO111 := zM (Kd.R_below (zr HO111.out) hb); have BK112 := zM (hbox); have GW112 := zM (zh hg : w.heap.size ≤ gb112); have GE112 := zM (zh hg : w.heap.size ≤ gb112); replace HB := zM (below_step zb hb); have NB101_112 := zM ((by rw [hg]; exact Nat.ne_of_lt (blk_lt (zk BK101.out)) : gb101 ≠ gb112)); have NB112_101 := zM ((by rw [hg]; exact Nat.ne_of_gt (blk_lt (zk BK101.out)) : gb112 ≠ gb101)); replace BK101 := zM (blk_below (zk BK101.out) hb); clear hb hbox hg; have hnb15 := NB112_101.out; have hnc15 := NB101_112.out; have hcz16_0 : w14.cell? ⟨gb112, 0, none⟩ = some (.int .i64 0) := (zX BK112.out 0).trans rfl; have hcz16_1 : w14.cell? ⟨gb112, 1, none⟩ = some (.slice none 0 0) := (zX BK112.out 1).trans rfl; have hcz16_2 : w14.cell? ⟨gb112, 2, none⟩ = some (.slice none 0 0) := (zX BK112.out 2).trans rfl; have hfz16_0 := zY BK112.out 0; have hfz16_1 := zY BK112.out 1; have hfz16_2 := zY BK112.out 2) | ((with_reducible refine gate_callee (f := 75) rfl ?_); refine goesL_ (some 37) rfl rfl Tryz.func75 (by kernel_rfl) rfl #[.agg #[.int .i64 0, .slice Ao13 t102.length co13, .slice Ao12 t107.length co12]] rfl zl ?_; (with_reducible refine (rule_Check.calls k 0 _ _ t102 _ _ t107 t113 _ ?side1 ?side2 ?side3 ?side4 A7.out).mono ?_); (case side1 => refine (Kd.R_reads' (e := 48) (base := w.heap.size) (ok := fun k_ => (True ∧ some k_ ≠ (.slice Ao12 t107.length co12 : Value).ownBlock)) (n := t102.length) (c := co13) ?_).2.2; exact (by (with_reducible repeat (first | apply Kd.R_alloc | apply Kd.R_drewN | apply Kd.R_drew)); exact (Kd.R_mono (Kd.R_far (p := ⟨gb112, 2, none⟩) (Kd.R_far (p := ⟨gb112, 1, none⟩) (Kd.R_far (p := ⟨gb112, 0, none⟩) (Kd.R_types HO106.out BK112.out (by decide)) (fun _ hk => hk.2) (.int .i64 0)) (fun _ hk => hk.2) (.slice Ao13 t102.length co13)) (fun _ hk => hk.2) (.slice Ao12 t107.length co12)) (fun _ h_ => h_.1)))); (case side2 => exact (Kd.R_reads' HO106.out).2.1); (case side3 => refine (Kd.R_reads' (e := 48) (base := w.heap.size) (ok := fun k_ => (True ∧ some k_ ≠ (.slice Ao13 t102.length co13 : Value).ownBlock)) (n := t107.length) (c := co12) ?_).2.2; exact (by (with_reducible repeat (first | apply Kd.R_alloc | apply Kd.R_drewN | apply Kd.R_drew)); exact (Kd.R_mono (Kd.R_far (p := ⟨gb112, 2, none⟩) (Kd.R_far (p := ⟨gb112, 1, none⟩) (Kd.R_far (p := ⟨gb112, 0, none⟩) (Kd.R_types HO111.out BK112.out (by decide)) (fun _ hk => hk.2) (.int .i64 0)) (fun _ hk => hk.2) (.slice Ao13 t102.length co13)) (fun _ hk => hk.2) (.slice Ao12 t107.length co12)) (fun _ h_ => h_.1)))); (case side4 => exact (Kd.R_reads' HO111.out).2.1); rintro e w17 ⟨rfl, hb⟩; refine ⟨_, rfl, ?_⟩; replace HO106 := zM (Kd.R_below (by (with_reducible repeat (first | apply Kd.R_alloc | apply Kd.R_drewN | apply Kd.R_drew)); exact (Kd.R_mono (Kd.R_far (p := ⟨gb112, 2, none⟩) (Kd.R_far (p := ⟨gb112, 1, none⟩) (Kd.R_far (p := ⟨gb112, 0, none⟩) (Kd.R_types HO106.out BK112.out (by decide)) (fun _ hk => hk.2) (.int .i64 0)) (fun _ hk => hk.2) (.slice Ao13 t102.length co13)) (fun _ hk => hk.2) (.slice Ao12 t107.length co12)) (fun _ h_ => h_.1))) hb); replace HO111 := zM (Kd.R_below (by (with_reducible repeat (first | apply Kd.R_alloc | apply Kd.R_drewN | apply Kd.R_drew)); exact (Kd.R_mono (Kd.R_far (p := ⟨gb112, 2, none⟩) (Kd.R_far (p := ⟨gb112, 1, none⟩) (Kd.R_far (p := ⟨gb112, 0, none⟩) (Kd.R_types HO111.out BK112.out (by decide)) (fun _ hk => hk.2) (.int .i64 0)) (fun _ hk => hk.2) (.slice Ao13 t102.length co13)) (fun _ hk => hk.2) (.slice Ao12 t107.length co12)) (fun _ h_ => h_.1))) hb); replace BK101 := zM (blk_below (g := gb101) (o := .cells #[.int .i64 0, .slice none 0 0, .slice none 0 0] 26 (0, 0)) (by refine zk ?_; refine blk_far ?_ NB101_112.out _; refine zk ?_; refine blk_far ?_ NB101_112.out _; refine zk ?_; refine blk_far ?_ NB101_112.out _; refine zk ?_; exact BK101.out) hb); replace BK112 := zM (blk_below (g := gb112) (o := .cells #[.int .i64 0, .slice Ao13 t102.length co13, .slice Ao12 t107.length co12] 26 (0, 0)) (by refine zk ?_; refine blk_put (cs := #[.int .i64 0, .slice Ao13 t102.length co13, .slice none 0 0]) ?_ 2 _ rfl; refine zk ?_; refine blk_put (cs := #[.int .i64 0, .slice none 0 0, .slice none 0 0]) ?_ 1 _ rfl; refine zk ?_; refine blk_put (cs := #[.int .i64 0, .slice none 0 0, .slice none 0 0]) ?_ 0 _ rfl; refine zk ?_; exact BK112.out) hb); replace HB := zM (below_step zb hb); (try clear hb); have hcz18_0 : w17.cell? ⟨gb112, 0, none⟩ = some (.int .i64 0) := (zX BK112.out 0).trans rfl; have hcz18_1 : w17.cell? ⟨gb112, 1, none⟩ = some (.slice Ao13 t102.length co13) := (zX BK112.out 1).trans rfl; have hcz18_2 : w17.cell? ⟨gb112, 2, none⟩ = some (.slice Ao12 t107.length co12) := (zX BK112.out 2).trans rfl; have hfz18_0 := zY BK112.out 0; have hfz18_1 := zY BK112.out 1; have hfz18_2 := zY BK112.out 2; have hcz19_0 : w17.cell? ⟨gb101, 0, none⟩ = some (.int .i64 0) := (zX BK101.out 0).trans rfl; have hcz19_1 : w17.cell? ⟨gb101, 1, none⟩ = some (.slice none 0 0) := (zX BK101.out 1).trans rfl; have hcz19_2 : w17.cell? ⟨gb101, 2, none⟩ = some (.slice none 0 0) := (zX BK101.out 2).trans rfl; have hfz19_0 := zY BK101.out 0; have hfz19_1 := zY BK101.out 1; have hfz19_2 := zY BK101.out 2))
    refine bodyPost_ret (results_ct rfl _ _ gb101 26 #[.int .i64 0, .slice Ao13 t102.length co13, .slice Ao12 t107.length co12] (0, 0) _ rfl (by refine zk ?_; refine blk_put (cs := #[.int .i64 0, .slice Ao13 t102.length co13, .slice none 0 0]) ?_ 2 _ rfl; refine zk ?_; refine blk_put (cs := #[.int .i64 0, .slice none 0 0, .slice none 0 0]) ?_ 1 _ rfl; refine zk ?_; refine blk_put (cs := #[.int .i64 0, .slice none 0 0, .slice none 0 0]) ?_ 0 _ rfl; refine zk ?_; exact BK101.out) Tryz.underlying26 rfl (by kernel_rfl)) rfl ?_
    exact ⟨_, _, zw, by (with_reducible repeat (first | apply Kd.R_alloc | apply Kd.R_drewN | apply Kd.R_drew)); exact Kd.R_mono (Kd.R_far (p := ⟨gb101, 2, none⟩) (Kd.R_far (p := ⟨gb101, 1, none⟩) (Kd.R_far (p := ⟨gb101, 0, none⟩) (Kd.R_types HO106.out BK101.out (by decide)) (fun _ hk => hk.2) (.int .i64 0)) (fun _ hk => hk.2) (.slice Ao13 t102.length co13)) (fun _ hk => hk.2) (.slice Ao12 t107.length co12)) (fun _ hk => hk.1.2), by (with_reducible repeat (first | apply Kd.R_alloc | apply Kd.R_drewN | apply Kd.R_drew)); exact Kd.R_mono (Kd.R_far (p := ⟨gb101, 2, none⟩) (Kd.R_far (p := ⟨gb101, 1, none⟩) (Kd.R_far (p := ⟨gb101, 0, none⟩) (Kd.R_types HO111.out BK101.out (by decide)) (fun _ hk => hk.2) (.int .i64 0)) (fun _ hk => hk.2) (.slice Ao13 t102.length co13)) (fun _ hk => hk.2) (.slice Ao12 t107.length co12)) (fun _ hk => hk.1.2), zb⟩
   ·
    rw [if_neg c8] at H
    have c8b0 : (t113 == 0) = false := zE c8
    have c8b1 : (t113 != 0) = true := zF c8
    simp only [Option.some.injEq, Prod.mk.injEq] at H
    obtain ⟨rfl, rfl, rfl, rfl⟩ := H
    go_enter Tryz.func44, Tryz.ntmps44
    go_wp2_with (first | ((with_reducible refine gate_dst (N := 4) rfl ?_); refine box_event ?hg (N := 4) ?hd (cs := #[.int .i64 0, .slice none 0 0, .slice none 0 0]) (t := 26) ?hr ?_; (case hd => rfl); (case hg => rfl); (case hr => first | (go_simp; done) | (go_simp; rfl)); intro gb101 hg w20 hbox hb; have BK101 := zM (hbox); have GW101 := zM (zh hg : w.heap.size ≤ gb101); have GE101 := zM (zh hg : w.heap.size ≤ gb101); replace HB := zM (below_step zb hb); clear hb hbox hg) | ((with_reducible refine gate_callee (f := 40) rfl ?_); refine goesL_ (some 15) rfl rfl Tryz.func40 (by kernel_rfl) rfl #[.string a0] rfl zl ?_; (with_reducible refine (term_Parse.calls k a0 t102 t103 t104 _ A3.out).mono ?_); rintro e w21 ⟨v105, rfl, ho0, hb⟩; refine ⟨_, rfl, ?_⟩; have HO106 := zM (Kd.R_lower ho0 (below_size zb)); replace BK101 := zM (blk_below (zk BK101.out) hb); replace HB := zM (below_step zb hb); (try clear hb); (try clear ho0)) | ((with_reducible refine gate_callee (f := 40) rfl ?_); refine goesL_ (some 25) rfl rfl Tryz.func40 (by kernel_rfl) rfl #[.string a1] rfl zl ?_; (with_reducible refine (term_Parse.calls k a1 t107 t108 t109 _ A5.out).mono ?_); rintro e w22 ⟨v110, rfl, ho0, hb⟩; refine ⟨_, rfl, ?_⟩; have HO111 := zM (Kd.R_lower (Kd.R_new' ho0 (Kd.R_lt (zr HO106.out))) (below_size zb)); replace HO106 := zM (Kd.R_elder' (zr HO106.out) (Kd.R_base ho0) hb); replace BK101 := zM (blk_below (zk BK101.out) hb); replace HB := zM (below_step zb hb); (try clear hb); (try clear ho0); obtain ⟨Ao23, co23, eo23⟩ := Kd.R_slice HO111.out; subst eo23; obtain ⟨Ao24, co24, eo24⟩ := Kd.R_slice HO106.out; subst eo24) | ((with_reducible refine gate_dst (N := 11) rfl ?_); refine box_event ?hg (N := 11) ?hd (cs := #[.int .i64 0, .slice none 0 0, .slice none 0 0]) (t := 26) ?hr ?_; (case hd => rfl); (case hg => rfl); (case hr => first | (go_simp; done) | (go_simp; rfl)); intro gb112 hg w25 hbox hb; replace HO106 := zM (Kd.R_below (zr HO106.out) hb); replace HO111 := zM (Kd.R_below (zr HO111.out) hb); have BK112 := zM (hbox); have GW112 := zM (zh hg : w.heap.size ≤ gb112); have GE112 := zM (zh hg : w.heap.size ≤ gb112); replace HB := zM (below_step zb hb); have NB101_112 := zM ((by rw [hg]; exact Nat.ne_of_lt (blk_lt (zk BK101.out)) : gb101 ≠ gb112)); have NB112_101 := zM ((by rw [hg]; exact Nat.ne_of_gt (blk_lt (zk BK101.out)) : gb112 ≠ gb101)); replace BK101 := zM (blk_below (zk BK101.out) hb); clear hb hbox hg; have hnb26 := NB112_101.out; have hnc26 := NB101_112.out; have hcz27_0 : w25.cell? ⟨gb112, 0, none⟩ = some (.int .i64 0) := (zX BK112.out 0).trans rfl; have hcz27_1 : w25.cell? ⟨gb112, 1, none⟩ = some (.slice none 0 0) := (zX BK112.out 1).trans rfl; have hcz27_2 : w25.cell? ⟨gb112, 2, none⟩ = some (.slice none 0 0) := (zX BK112.out 2).trans rfl; have hfz27_0 := zY BK112.out 0; have hfz27_1 := zY BK112.out 1; have hfz27_2 := zY BK112.out 2) | ((with_reducible refine gate_callee (f := 75) rfl ?_); refine goesL_ (some 37) rfl rfl Tryz.func75 (by kernel_rfl) rfl #[.agg #[.int .i64 0, .slice Ao24 t102.length co24, .slice Ao23 t107.length co23]] rfl zl ?_; (with_reducible refine (rule_Check.calls k 0 _ _ t102 _ _ t107 t113 _ ?side1 ?side2 ?side3 ?side4 A7.out).mono ?_); (case side1 => refine (Kd.R_reads' (e := 48) (base := w.heap.size) (ok := fun k_ => (True ∧ some k_ ≠ (.slice Ao23 t107.length co23 : Value).ownBlock)) (n := t102.length) (c := co24) ?_).2.2; exact (by (with_reducible repeat (first | apply Kd.R_alloc | apply Kd.R_drewN | apply Kd.R_drew)); exact (Kd.R_mono (Kd.R_far (p := ⟨gb112, 2, none⟩) (Kd.R_far (p := ⟨gb112, 1, none⟩) (Kd.R_far (p := ⟨gb112, 0, none⟩) (Kd.R_types HO106.out BK112.out (by decide)) (fun _ hk => hk.2) (.int .i64 0)) (fun _ hk => hk.2) (.slice Ao24 t102.length co24)) (fun _ hk => hk.2) (.slice Ao23 t107.length co23)) (fun _ h_ => h_.1)))); (case side2 => exact (Kd.R_reads' HO106.out).2.1); (case side3 => refine (Kd.R_reads' (e := 48) (base := w.heap.size) (ok := fun k_ => (True ∧ some k_ ≠ (.slice Ao24 t102.length co24 : Value).ownBlock)) (n := t107.length) (c := co23) ?_).2.2; exact (by (with_reducible repeat (first | apply Kd.R_alloc | apply Kd.R_drewN | apply Kd.R_drew)); exact (Kd.R_mono (Kd.R_far (p := ⟨gb112, 2, none⟩) (Kd.R_far (p := ⟨gb112, 1, none⟩) (Kd.R_far (p := ⟨gb112, 0, none⟩) (Kd.R_types HO111.out BK112.out (by decide)) (fun _ hk => hk.2) (.int .i64 0)) (fun _ hk => hk.2) (.slice Ao24 t102.length co24)) (fun _ hk => hk.2) (.slice Ao23 t107.length co23)) (fun _ h_ => h_.1)))); (case side4 => exact (Kd.R_reads' HO111.out).2.1); rintro e w28 ⟨rfl, hb⟩; refine ⟨_, rfl, ?_⟩; replace HO106 := zM (Kd.R_below (by (with_reducible repeat (first | apply Kd.R_alloc | apply Kd.R_drewN | apply Kd.R_drew)); exact (Kd.R_mono (Kd.R_far (p := ⟨gb112, 2, none⟩) (Kd.R_far (p := ⟨gb112, 1, none⟩) (Kd.R_far (p := ⟨gb112, 0, none⟩) (Kd.R_types HO106.out BK112.out (by decide)) (fun _ hk => hk.2) (.int .i64 0)) (fun _ hk => hk.2) (.slice Ao24 t102.length co24)) (fun _ hk => hk.2) (.slice Ao23 t107.length co23)) (fun _ h_ => h_.1))) hb); replace HO111 := zM (Kd.R_below (by (with_reducible repeat (first | apply Kd.R_alloc | apply Kd.R_drewN | apply Kd.R_drew)); exact (Kd.R_mono (Kd.R_far (p := ⟨gb112, 2, none⟩) (Kd.R_far (p := ⟨gb112, 1, none⟩) (Kd.R_far (p := ⟨gb112, 0, none⟩) (Kd.R_types HO111.out BK112.out (by decide)) (fun _ hk => hk.2) (.int .i64 0)) (fun _ hk => hk.2) (.slice Ao24 t102.length co24)) (fun _ hk => hk.2) (.slice Ao23 t107.length co23)) (fun _ h_ => h_.1))) hb); replace BK101 := zM (blk_below (g := gb101) (o := .cells #[.int .i64 0, .slice none 0 0, .slice none 0 0] 26 (0, 0)) (by refine zk ?_; refine blk_far ?_ NB101_112.out _; refine zk ?_; refine blk_far ?_ NB101_112.out _; refine zk ?_; refine blk_far ?_ NB101_112.out _; refine zk ?_; exact BK101.out) hb); replace BK112 := zM (blk_below (g := gb112) (o := .cells #[.int .i64 0, .slice Ao24 t102.length co24, .slice Ao23 t107.length co23] 26 (0, 0)) (by refine zk ?_; refine blk_put (cs := #[.int .i64 0, .slice Ao24 t102.length co24, .slice none 0 0]) ?_ 2 _ rfl; refine zk ?_; refine blk_put (cs := #[.int .i64 0, .slice none 0 0, .slice none 0 0]) ?_ 1 _ rfl; refine zk ?_; refine blk_put (cs := #[.int .i64 0, .slice none 0 0, .slice none 0 0]) ?_ 0 _ rfl; refine zk ?_; exact BK112.out) hb); replace HB := zM (below_step zb hb); (try clear hb); have hcz29_0 : w28.cell? ⟨gb101, 0, none⟩ = some (.int .i64 0) := (zX BK101.out 0).trans rfl; have hcz29_1 : w28.cell? ⟨gb101, 1, none⟩ = some (.slice none 0 0) := (zX BK101.out 1).trans rfl; have hcz29_2 : w28.cell? ⟨gb101, 2, none⟩ = some (.slice none 0 0) := (zX BK101.out 2).trans rfl; have hfz29_0 := zY BK101.out 0; have hfz29_1 := zY BK101.out 1; have hfz29_2 := zY BK101.out 2))
    refine bodyPost_ret (results_ct rfl _ _ gb101 26 #[.int .i64 0, .slice none 0 0, .slice none 0 0] (0, 0) _ rfl (by refine zk ?_; refine blk_put (cs := #[.int .i64 0, .slice none 0 0, .slice none 0 0]) ?_ 2 _ rfl; refine zk ?_; refine blk_put (cs := #[.int .i64 0, .slice none 0 0, .slice none 0 0]) ?_ 1 _ rfl; refine zk ?_; refine blk_put (cs := #[.int .i64 0, .slice none 0 0, .slice none 0 0]) ?_ 0 _ rfl; refine zk ?_; exact BK101.out) Tryz.underlying26 rfl (by kernel_rfl)) rfl ?_
    exact ⟨_, _, zw, by first | exact Kd.R_nil _ _ _ _ _ | exact Kd.N_nil _ _ _ _ _ | exact Kd.V_nil _ _ _ _ _ | exact Kd.Q_nil _ _ _ _ _ | exact Kd.S_nil _ _ _ _ _, by first | exact Kd.R_nil _ _ _ _ _ | exact Kd.N_nil _ _ _ _ _ | exact Kd.V_nil _ _ _ _ _ | exact Kd.Q_nil _ _ _ _ _ | exact Kd.S_nil _ _ _ _ _, zb⟩
  ·
   rw [if_neg c6] at H
   have c6b0 : (t109 == 0) = false := zE c6
   have c6b1 : (t109 != 0) = true := zF c6
   simp only [Option.some.injEq, Prod.mk.injEq] at H
   obtain ⟨rfl, rfl, rfl, rfl⟩ := H
   go_enter Tryz.func44, Tryz.ntmps44
   go_wp2_with (first | ((with_reducible refine gate_dst (N := 4) rfl ?_); refine box_event ?hg (N := 4) ?hd (cs := #[.int .i64 0, .slice none 0 0, .slice none 0 0]) (t := 26) ?hr ?_; (case hd => rfl); (case hg => rfl); (case hr => first | (go_simp; done) | (go_simp; rfl)); intro gb101 hg w30 hbox hb; have BK101 := zM (hbox); have GW101 := zM (zh hg : w.heap.size ≤ gb101); have GE101 := zM (zh hg : w.heap.size ≤ gb101); replace HB := zM (below_step zb hb); clear hb hbox hg) | ((with_reducible refine gate_callee (f := 40) rfl ?_); refine goesL_ (some 15) rfl rfl Tryz.func40 (by kernel_rfl) rfl #[.string a0] rfl zl ?_; (with_reducible refine (term_Parse.calls k a0 t102 t103 t104 _ A3.out).mono ?_); rintro e w31 ⟨v105, rfl, ho0, hb⟩; refine ⟨_, rfl, ?_⟩; have HO106 := zM (Kd.R_lower ho0 (below_size zb)); replace BK101 := zM (blk_below (zk BK101.out) hb); replace HB := zM (below_step zb hb); (try clear hb); (try clear ho0)) | ((with_reducible refine gate_callee (f := 40) rfl ?_); refine goesL_ (some 25) rfl rfl Tryz.func40 (by kernel_rfl) rfl #[.string a1] rfl zl ?_; (with_reducible refine (term_Parse.calls k a1 t107 t108 t109 _ A5.out).mono ?_); rintro e w32 ⟨v110, rfl, ho0, hb⟩; refine ⟨_, rfl, ?_⟩; have HO111 := zM (Kd.R_lower (Kd.R_new' ho0 (Kd.R_lt (zr HO106.out))) (below_size zb)); replace HO106 := zM (Kd.R_elder' (zr HO106.out) (Kd.R_base ho0) hb); replace BK101 := zM (blk_below (zk BK101.out) hb); replace HB := zM (below_step zb hb); (try clear hb); (try clear ho0); have hcz33_0 : w32.cell? ⟨gb101, 0, none⟩ = some (.int .i64 0) := (zX BK101.out 0).trans rfl; have hcz33_1 : w32.cell? ⟨gb101, 1, none⟩ = some (.slice none 0 0) := (zX BK101.out 1).trans rfl; have hcz33_2 : w32.cell? ⟨gb101, 2, none⟩ = some (.slice none 0 0) := (zX BK101.out 2).trans rfl; have hfz33_0 := zY BK101.out 0; have hfz33_1 := zY BK101.out 1; have hfz33_2 := zY BK101.out 2))
   refine bodyPost_ret (results_ct rfl _ _ gb101 26 #[.int .i64 0, .slice none 0 0, .slice none 0 0] (0, 0) _ rfl (by refine zk ?_; refine blk_put (cs := #[.int .i64 0, .slice none 0 0, .slice none 0 0]) ?_ 2 _ rfl; refine zk ?_; refine blk_put (cs := #[.int .i64 0, .slice none 0 0, .slice none 0 0]) ?_ 1 _ rfl; refine zk ?_; refine blk_put (cs := #[.int .i64 0, .slice none 0 0, .slice none 0 0]) ?_ 0 _ rfl; refine zk ?_; exact BK101.out) Tryz.underlying26 rfl (by kernel_rfl)) rfl ?_
   exact ⟨_, _, zw, by first | exact Kd.R_nil _ _ _ _ _ | exact Kd.N_nil _ _ _ _ _ | exact Kd.V_nil _ _ _ _ _ | exact Kd.Q_nil _ _ _ _ _ | exact Kd.S_nil _ _ _ _ _, by first | exact Kd.R_nil _ _ _ _ _ | exact Kd.N_nil _ _ _ _ _ | exact Kd.V_nil _ _ _ _ _ | exact Kd.Q_nil _ _ _ _ _ | exact Kd.S_nil _ _ _ _ _, zb⟩
 ·
  rw [if_neg c4] at H
  have c4b0 : (t104 == 0) = false := zE c4
  have c4b1 : (t104 != 0) = true := zF c4
  simp only [Option.some.injEq, Prod.mk.injEq] at H
  obtain ⟨rfl, rfl, rfl, rfl⟩ := H
  go_enter Tryz.func44, Tryz.ntmps44
  go_wp2_with (first | ((with_reducible refine gate_dst (N := 4) rfl ?_); refine box_event ?hg (N := 4) ?hd (cs := #[.int .i64 0, .slice none 0 0, .slice none 0 0]) (t := 26) ?hr ?_; (case hd => rfl); (case hg => rfl); (case hr => first | (go_simp; done) | (go_simp; rfl)); intro gb101 hg w34 hbox hb; have BK101 := zM (hbox); have GW101 := zM (zh hg : w.heap.size ≤ gb101); have GE101 := zM (zh hg : w.heap.size ≤ gb101); replace HB := zM (below_step zb hb); clear hb hbox hg) | ((with_reducible refine gate_callee (f := 40) rfl ?_); refine goesL_ (some 15) rfl rfl Tryz.func40 (by kernel_rfl) rfl #[.string a0] rfl zl ?_; (with_reducible refine (term_Parse.calls k a0 t102 t103 t104 _ A3.out).mono ?_); rintro e w35 ⟨v105, rfl, ho0, hb⟩; refine ⟨_, rfl, ?_⟩; have HO106 := zM (Kd.R_lower ho0 (below_size zb)); replace BK101 := zM (blk_below (zk BK101.out) hb); replace HB := zM (below_step zb hb); (try clear hb); (try clear ho0); have hcz36_0 : w35.cell? ⟨gb101, 0, none⟩ = some (.int .i64 0) := (zX BK101.out 0).trans rfl; have hcz36_1 : w35.cell? ⟨gb101, 1, none⟩ = some (.slice none 0 0) := (zX BK101.out 1).trans rfl; have hcz36_2 : w35.cell? ⟨gb101, 2, none⟩ = some (.slice none 0 0) := (zX BK101.out 2).trans rfl; have hfz36_0 := zY BK101.out 0; have hfz36_1 := zY BK101.out 1; have hfz36_2 := zY BK101.out 2))
  refine bodyPost_ret (results_ct rfl _ _ gb101 26 #[.int .i64 0, .slice none 0 0, .slice none 0 0] (0, 0) _ rfl (by refine zk ?_; refine blk_put (cs := #[.int .i64 0, .slice none 0 0, .slice none 0 0]) ?_ 2 _ rfl; refine zk ?_; refine blk_put (cs := #[.int .i64 0, .slice none 0 0, .slice none 0 0]) ?_ 1 _ rfl; refine zk ?_; refine blk_put (cs := #[.int .i64 0, .slice none 0 0, .slice none 0 0]) ?_ 0 _ rfl; refine zk ?_; exact BK101.out) Tryz.underlying26 rfl (by kernel_rfl)) rfl ?_
  exact ⟨_, _, zw, by first | exact Kd.R_nil _ _ _ _ _ | exact Kd.N_nil _ _ _ _ _ | exact Kd.V_nil _ _ _ _ _ | exact Kd.Q_nil _ _ _ _ _ | exact Kd.S_nil _ _ _ _ _, by first | exact Kd.R_nil _ _ _ _ _ | exact Kd.N_nil _ _ _ _ _ | exact Kd.V_nil _ _ _ _ _ | exact Kd.Q_nil _ _ _ _ _ | exact Kd.S_nil _ _ _ _ _, zb⟩


-- ==== PF54

theorem bd_info : ∃ j, Tryz.prog.info? 102 = some j ∧ j.size = 2 := by
 have h : (Tryz.prog.info? 102).map (·.size) = some 2 := by kernel_rfl
 exact Option.map_eq_some_iff.1 h
theorem bd_lies : liesAt Tryz.prog Tryz.prog.depth 102 (2 / Tryz.prog.cellsOf 102) 0 102 1 = true := by kernel_rfl
theorem bd_used (b : Nat) (w : World) (h0 : w.cell? ⟨b, 0, none⟩ = some (.pointer (some ⟨b, 0, none⟩))) :
 Calls Tryz.prog 84 #[.pointer (some ⟨b, 0, none⟩)] w fun e w' => e = .returned (.tuple #[]) ∧ w' = w := by
 obtain ⟨j, hj, hjs⟩ := bd_info
 go_enter Tryz.func84, Tryz.ntmps84
 go_wp2
 rw [Lib.run_neq_ptr_same w _ Tryz.underlying100 hj]
 go_wp2
 go_end0
 exact ⟨rfl, rfl⟩
theorem bd_fresh (b : Nat) (w : World) (h0 : w.cell? ⟨b, 0, none⟩ = some (.pointer none)) (hsh : w.shape? b = some (102, 2)) (hfz : w.frozen? ⟨b, 0, none⟩ = false) :
 Calls Tryz.prog 84 #[.pointer (some ⟨b, 0, none⟩)] w fun e w' => e = .returned (.tuple #[]) ∧ w' = w.setCell ⟨b, 0, none⟩ (.pointer (some ⟨b, 0, none⟩)) := by
 obtain ⟨j, hj, hjs⟩ := bd_info
 go_enter Tryz.func84, Tryz.ntmps84
 go_wp2
 rw [Lib.run_to_unsafe w ⟨b, 0, none⟩ Tryz.underlying100 Tryz.underlying165 hj (by rw [hjs]; decide) hsh (Nat.zero_lt_succ 1)]
 simp only [Result.andThen]
 rw [Oper.upon_value]
 go_wp2
 rw [run_callFunc_extern Tryz.func108 (by kernel_rfl) (by kernel_rfl) (by kernel_rfl) (e := Extern.AbiNoEscape.same) (by kernel_rfl)]
 rw [Lib.run_noEscape]
 simp only [Result.andThen]
 rw [Oper.upon_value]
 go_wp2
 rw [Lib.run_from_unsafe w ⟨b, 0, none⟩ Tryz.underlying165 Tryz.underlying100 hj hsh bd_lies]
 simp only [Result.andThen]
 rw [Oper.upon_value]
 go_wp2
 go_end0
 exact ⟨rfl, rfl⟩
abbrev IsBd (B b : Nat) (l : List UInt8) (w : World) : Prop := Lib.IsBuilder 102 5 B b (Lib.byteCells l) w
theorem bd_check (B b : Nat) (bs : List Value) (w : World) (h : Lib.IsBuilder 102 5 B b bs w) :
 Calls Tryz.prog 84 #[.pointer (some ⟨b, 0, none⟩)] w fun e w' => e = .returned (.tuple #[]) ∧ Lib.BuilderAt 102 5 B b (.pointer (some ⟨b, 0, none⟩)) bs w' ∧ Below B w w' ∧ Lib.OthersKept 5 (some b) w w' := by
 rcases h with h | h
 ·
  refine (bd_fresh b w h.cell0 h.shape h.frozen0).mono ?_
  rintro e w' ⟨rfl, rfl⟩
  exact ⟨rfl, h.used _, (Below.refl B w).setCell (p := ⟨b, 0, none⟩) h.1 _, (Lib.OthersKept.refl _ _ w).setCell ⟨b, 0, none⟩ rfl _⟩
 ·
  refine (bd_used b w h.cell0).mono ?_
  rintro e w' ⟨rfl, rfl⟩
  exact ⟨rfl, h, Below.refl B _, Lib.OthersKept.refl _ _ _⟩
theorem bd_byte : ∃ i, Tryz.prog.info? 5 = some i ∧ i.zero = some (.int .u8 0) ∧ i.size = 1 ∧ i.bytes = 1 := by
 have h : (Tryz.prog.info? 5).map (fun i => (i.zero, i.size, i.bytes)) = some (some (.int .u8 0), 1, 1) := by kernel_rfl
 obtain ⟨i, hi, hz⟩ := Option.map_eq_some_iff.1 h
 simp only [Prod.mk.injEq] at hz
 exact ⟨i, hi, hz.1, hz.2.1, hz.2.2⟩
theorem bd_put {B b : Nat} {p v v' : Value} {bs' : List Value} {W : World} (hB : B ≤ b) (hb : W.heap[b]? = some (.cells #[p, v] 102 (0, 0))) (ho : W.ownsRow B 5 1 v' bs'.length bs') : Lib.BuilderAt 102 5 B b p bs' (W.setCell ⟨b, 1, none⟩ v') :=
 Lib.BuilderAt.put (T := 102) (e := 5) hB hb (bs' := bs') ho (by decide)
theorem bd_string (B b : Nat) (bs : List Value) (s : ByteArray) (w : World) (h : Lib.IsBuilder 102 5 B b bs w) (hB0 : B ≤ w.heap.size) (hl : bs.length + s.size ≤ 4096) :
 Calls Tryz.prog 57 #[.pointer (some ⟨b, 0, none⟩), .string s] w fun e w' => e = .returned (.tuple #[.int .i64 s.size, .nilIface]) ∧ Lib.IsBuilder 102 5 B b (bs ++ Lib.strCells s) w' ∧ Below B w w' ∧ Lib.OthersKept 5 (some b) w w' := by
 obtain ⟨i0, hi, hz0, hz1, hz2⟩ := bd_byte
 go_enter Tryz.func57, Tryz.ntmps57
 go_wp2_with (go_at_call 84; refine (bd_check B b bs _ h).mono ?_)
 rintro e w1 ⟨rfl, h1, hb1, hk1⟩
 obtain ⟨hB, v, hbk, hown, hne⟩ := h1
 have c0 : w1.cell? ⟨b, 0, none⟩ = some (.pointer (some ⟨b, 0, none⟩)) := by rw [Lib.cell_of_heap hbk]; rfl
 have c1 : w1.cell? ⟨b, 1, none⟩ = some v := by rw [Lib.cell_of_heap hbk]; rfl
 go_wp2_with (at_builtin; refine Lib.wpList_append_own_string _ rfl _ _ 45 9 rfl B 5 i0 Tryz.underlying45 Tryz.underlying9 hi hz0 hz1 hz2 _ _ _ rfl hown s rfl ?c4 ?c5 ?c6 ?_)
 case c4 => simp only [maxLen]; omega
 case c5 => omega
 case c6 => have := hb1.size; omega
 intro v' w2 hown' hgrow _
 have hlt : b < w1.heap.size := blk_lt hbk
 have hb2 : w2.heap[b]? = some (.cells #[.pointer (some ⟨b, 0, none⟩), v] 102 (0, 0)) := by
  rw [hgrow.block b hlt (fun e => hne e.symm)]
  exact hbk
 have d0 : w2.cell? ⟨b, 0, none⟩ = some (.pointer (some ⟨b, 0, none⟩)) := by rw [Lib.cell_of_heap hb2]; rfl
 have d1 : w2.cell? ⟨b, 1, none⟩ = some v := by rw [Lib.cell_of_heap hb2]; rfl
 have f1 : w2.frozen? ⟨b, 1, none⟩ = false := Lib.frozen_of_heap hb2 1
 obtain ⟨ao, n', cap, rfl⟩ : ∃ ao n' cap, v' = .slice ao n' cap := by
  rcases hown'.2 with ⟨hv, _⟩ | ⟨g, cap, cur, hv, _⟩
  ·
   exact ⟨_, _, _, hv⟩
  ·
   exact ⟨_, _, _, hv⟩
 go_wp2
 go_ret2
 refine ⟨rfl, .inr (bd_put hB hb2 (bs' := bs ++ Lib.strCells s) (by simpa [Lib.strCells_length] using hown')), ?_, (hk1.grown hgrow (Lib.ownsRowF_kind (World.ownsRowF_of hown))).setCell ⟨b, 1, none⟩ rfl _⟩
 exact (hb1.grown hgrow (by have := hb1.size; omega) (fun k hk => (hown.lt k hk).1)).setCell (p := ⟨b, 1, none⟩) hB _
theorem bd_write (B b : Nat) (bs : List Value) (c : Int) (w : World) (h : Lib.IsBuilder 102 5 B b bs w) (hB0 : B ≤ w.heap.size) (hl : bs.length + 1 ≤ 4096) :
 Calls Tryz.prog 106 #[.pointer (some ⟨b, 0, none⟩), .int .u8 c] w fun e w' => e = .returned .nilIface ∧ Lib.IsBuilder 102 5 B b (bs ++ [.int .u8 c]) w' ∧ Below B w w' ∧ Lib.OthersKept 5 (some b) w w' := by
 obtain ⟨i0, hi, hz0, hz1, hz2⟩ := bd_byte
 go_enter Tryz.func106, Tryz.ntmps106
 go_wp2_with (go_at_call 84; refine (bd_check B b bs _ h).mono ?_)
 rintro e w1 ⟨rfl, h1, hb1, hk1⟩
 obtain ⟨hB, v, hbk, hown, hne⟩ := h1
 have c0 : w1.cell? ⟨b, 0, none⟩ = some (.pointer (some ⟨b, 0, none⟩)) := by rw [Lib.cell_of_heap hbk]; rfl
 have c1 : w1.cell? ⟨b, 1, none⟩ = some v := by rw [Lib.cell_of_heap hbk]; rfl
 go_wp2_with (at_builtin; refine wpList_append_own _ rfl _ _ 45 rfl B 5 i0 (.int .u8 0) 1 1 Tryz.underlying45 hi hz0 hz1 hz2 rfl (by decide) _ _ _ rfl (hown.alloc _) ⟨w1.heap.size, 0, none⟩ 1 1 [.int .u8 c] rfl rfl ?c1 ?c2 ?c3 ?c4 ?c5 ?_)
 case c1 =>
  intro j u hj
  match j, hj with
  | 0, hj => simp at hj; subst hj; simp [Addr.add]
 case c2 => intro u hu; simp at hu; subst hu; rfl
 case c3 => unfold maxLen; omega
 case c4 => omega
 case c5 => have := hb1.size; simp; omega
 intro v' w2 hown' hgrow _
 have hlt : b < w1.heap.size := blk_lt hbk
 have hb2 : w2.heap[b]? = some (.cells #[.pointer (some ⟨b, 0, none⟩), v] 102 (0, 0)) := by
  rw [hgrow.block b (by simp; omega) (fun e => hne e.symm), Lib.alloc_old w1 _ b hlt]
  exact hbk
 have d0 : w2.cell? ⟨b, 0, none⟩ = some (.pointer (some ⟨b, 0, none⟩)) := by rw [Lib.cell_of_heap hb2]; rfl
 have d1 : w2.cell? ⟨b, 1, none⟩ = some v := by rw [Lib.cell_of_heap hb2]; rfl
 have f1 : w2.frozen? ⟨b, 1, none⟩ = false := Lib.frozen_of_heap hb2 1
 obtain ⟨g, cap, rfl⟩ : ∃ g cap, v' = .slice (some ⟨g, 0, none⟩) (bs.length + 1) cap := by
  rcases hown'.2 with ⟨_, h0⟩ | ⟨g, cap, cur, hv, _⟩
  ·
   omega
  ·
   exact ⟨g, cap, hv⟩
 go_wp2
 go_ret
 refine ⟨rfl, .inr (bd_put hB hb2 (bs' := bs ++ [.int .u8 c]) (by simpa using hown')), ?_, ((hk1.alloc _).grown hgrow (Lib.ownsRowF_kind (World.ownsRowF_of (hown.alloc _)))).setCell ⟨b, 1, none⟩ rfl _⟩
 exact ((hb1.alloc (by have := hb1.size; omega) _).grown hgrow (by have := hb1.size; simp; omega) (fun k hk => (hown.lt k hk).1)).setCell (p := ⟨b, 1, none⟩) hB _
theorem bd_done (B b : Nat) (l : List UInt8) (w : World) (h : Lib.IsBuilder 102 5 B b (Lib.byteCells l) w) (h0 : l ≠ []) (hlen : l.length ≤ 4096) :
 Calls Tryz.prog 58 #[.pointer (some ⟨b, 0, none⟩)] w fun e w' => e = .returned (.string ⟨l.toArray⟩) ∧ Below B w w' := by
 obtain ⟨p, hB, v, hbk, hown, hne⟩ : ∃ p, Lib.BuilderAt 102 5 B b p (Lib.byteCells l) w := by
  rcases h with h | h
  ·
   exact ⟨_, h⟩
  ·
   exact ⟨_, h⟩
 have hl0 : l.length ≠ 0 := by simpa using h0
 rw [Lib.byteCells_length] at hown
 obtain ⟨g, cap, cur, rfl, hbg, hg, hnc, hcm, hcs, htake⟩ : ∃ g cap cur, v = .slice (some ⟨g, 0, none⟩) l.length cap ∧ B ≤ g ∧ w.heap[g]? = some (.cells cur 5 (0, 0)) ∧ l.length ≤ cap ∧ cap ≤ maxLen ∧ cur.size = cap * 1 ∧ cur.toList.take (l.length * 1) = Lib.byteCells l := by
  rcases hown.2 with ⟨_, hz⟩ | ⟨g, cap, cur, hv, r⟩
  ·
   exact absurd hz hl0
  ·
   exact ⟨g, cap, cur, hv, r⟩
 have c1 : w.drew.cell? ⟨b, 1, none⟩ = some (.slice (some ⟨g, 0, none⟩) l.length cap) := by
  have : w.drew.heap[b]? = some (.cells #[p, .slice (some ⟨g, 0, none⟩) l.length cap] 102 (0, 0)) := hbk
  rw [Lib.cell_of_heap this]; rfl
 have hSD : (Builtin.unsafeSliceData_ #[45] 140 #[.slice (some ⟨g, 0, none⟩) l.length cap]).run Tryz.prog w.drew = .ok (.pointer (some ⟨g, 0, none⟩)) w.drew :=
  Lib.run_unsafeSliceData_row _ _ _ _ _ _ (by omega)
 have hUS : (Builtin.unsafeString_ #[140, 3] 9 #[.pointer (some ⟨g, 0, none⟩), .int .i64 l.length]).run Tryz.prog w.drew = .ok (.string ⟨l.toArray⟩) (w.drew.freeze ⟨g, 0, none⟩ l.length) := by
  refine Lib.run_unsafeString_row w.drew 140 3 9 5 Tryz.underlying140 (by kernel_rfl) g cur.size (by have hg' : w.drew.heap[g]? = some (.cells cur 5 (0, 0)) := hg; simp [World.shape?, hg']) l h0 (by omega) (by omega) ?_
  intro j x hx
  have := hown.cells (g := g) rfl j (.int .u8 x.toNat) (by simp [Lib.byteCells, hx])
  exact this
 go_enter Tryz.func58, Tryz.ntmps58
 go_wp2
 go_region
 all_goals (go_wp2; go_ret; exact ⟨rfl, Lib.below_freeze (Below.drew (Below.refl B w)) (p := ⟨g, 0, none⟩) hbg _⟩)
mutual
def wrT : Nat → List (S48) → Int → List UInt8 → Option (List UInt8 × Int)
 | 0, _, _, _ => none
 | k + 1, t, i, l => if 0 ≤ i then (if i < (t.length : Int) then (if l.length + (rd_T48 t i).f0.size ≤ 4000 then
  ((wrL k t (rd_T48 t i).f1 0 (wrap64 (i + 1)) (l ++ (rd_T48 t i).f0.data.toList)).bind fun x =>
   if (rd_T48 t i).f1 > 0 then (if x.1.length + 1 ≤ 4000 then some (x.1 ++ [41], x.2) else none) else some x) else none) else none) else none
def wrL : Nat → List (S48) → Int → Int → Int → List UInt8 → Option (List UInt8 × Int)
 | 0, _, _, _, _, _ => none
 | k + 1, t, a, n, i, l => if n < a then (if n < 4 then (if l.length + 1 ≤ 4000 then ((wrT k t i (l ++ [if n = 0 then 40 else 44])).bind fun x => wrL k t a (wrap64 (n + 1)) x.2 x.1) else none) else none) else some (l, i)
end
def WrC (k : Nat) : Prop := ∀ (b : Nat) (t : List (S48)) (A : Option Addr) (c : Nat) (i : Int) (l : List UInt8) (r : List UInt8 × Int) (w0 w : World), Kd.C k48 w0 A t.length t → Below w0.heap.size w0 w → IsBd w0.heap.size b l w → wrT k t i l = some r →
 Calls Tryz.prog 82 #[.pointer (some ⟨b, 0, none⟩), .slice A t.length c, .int .i64 i] w fun e w' => e = .returned (.int .i64 r.2) ∧ IsBd w0.heap.size b r.1 w' ∧ Below w0.heap.size w w' ∧ Lib.OthersKept 5 (some b) w w'
theorem bd_alloc {B b : Nat} {l : List UInt8} {w : World} (h : IsBd B b l w) (o : Obj) : IsBd B b l (w.alloc o) := by
 have one : ∀ p, Lib.BuilderAt 102 5 B b p (Lib.byteCells l) w → Lib.BuilderAt 102 5 B b p (Lib.byteCells l) (w.alloc o) := fun p h => by
  obtain ⟨hB, v, hb, ho, hne⟩ := h
  exact ⟨hB, v, (Below.heap_alloc w o b (blk_lt hb)).trans hb, ho.alloc o, hne⟩
 exact h.elim (fun h => .inl (one _ h)) (fun h => .inr (one _ h))
theorem bd_len (l : List UInt8) : (Lib.byteCells l).length = l.length := Lib.byteCells_length l
theorem bd_lt {B b : Nat} {l : List UInt8} {w : World} (h : IsBd B b l w) : b < w.heap.size := h.elim (fun h => h.lt) (fun h => h.lt)
theorem bd_one {B b : Nat} {l : List UInt8} {x : UInt8} {w : World} (h : Lib.IsBuilder 102 5 B b (Lib.byteCells l ++ [.int .u8 x.toNat]) w) : IsBd B b (l ++ [x]) w := by
 unfold IsBd
 rw [Lib.byteCells_append]
 exact h
theorem bd_str {B b : Nat} {l : List UInt8} {s : ByteArray} {w : World} (h : Lib.IsBuilder 102 5 B b (Lib.byteCells l ++ Lib.strCells s) w) : IsBd B b (l ++ s.data.toList) w := by
 unfold IsBd
 rw [Lib.byteCells_append]
 exact h
theorem wr_kept {b : Nat} {w w1 : World} {o : Obj} (h : Lib.OthersKept 5 (some b) (w.alloc o) w1) : Lib.OthersKept 5 (some b) w w1 := ((Lib.OthersKept.refl _ _ w).alloc o).trans h
theorem bd_tr {B : Nat} {w w1 w2 : World} (h : Below B w w1) (k : Below B w1 w2) : Below B w w2 :=
 ⟨k.os.trans h.os, k.tape.trans h.tape, k.output.trans h.output, Nat.le_trans h.size k.size, fun i hi => (k.block i hi).trans (h.block i hi)⟩
theorem wr_step (k : Nat) (ih : ∀ k', k' < k → WrC k') : WrC k := by
 intro b t A c i l r w0 w hC hB hI h
 cases k with
 | zero => simp [wrT] at h
 | succ k =>
  have HI0 := zM hI
  have HB0 := zM (Below.refl w0.heap.size w)
  have HBW := zM hB
  have HC := zM hC
  simp only [wrT] at h
  by_cases c1 : 0 ≤ i
  ·
   rw [if_pos c1] at h
   by_cases c2 : i < (t.length : Int)
   ·
    rw [if_pos c2] at h
    split at h
    · next c3 =>
     obtain ⟨x, hx, h⟩ := zB h
     obtain ⟨ad, rfl, hz1, hz2⟩ := at_T48 (Kd.C_below hC hB) i c1 c2
     have HX := zM hx
     have H := zM h
     have HI := zM hI
     clear hx h hC hI
     have p4 := eq_true c1
     have q4 := eq_true c2
     have W1 := fun (W : World) (h : IsBd w0.heap.size b l W) (hs : w0.heap.size ≤ W.heap.size) => bd_string w0.heap.size b (Lib.byteCells l) (rd_T48 t i).f0 W h hs (by rw [bd_len]; omega)
     clear c1 c2
     have hbn : some w.heap.size ≠ some b := by have := bd_lt HI.out; intro e_; injection e_ with e_; omega
     go_enter Tryz.func82, Tryz.ntmps82
     go_wp2_with (first | (go_at_call 57; (refine (W1 _ ?side1 ?side2).mono ?_); (case side1 => exact (by repeat (first | exact HI0.out | apply bd_alloc | apply bd_drewN | apply bd_drew))); (case side2 => have := HBW.out.size; simp; omega); rintro e w1 ⟨rfl, hI1, hB1, hk1⟩; have hcb := hk1 w.heap.size _ (heap_alloc_new w _) hbn (by intro c_ fz_ h_; cases h_); have hz1c := (zX hcb 1).trans rfl; have HCB := zM hcb; have HI1 := zM (bd_str hI1); have HB1 : Aside0 (Below w0.heap.size w w1) := ⟨bd_tr (HB0.out.alloc hB.size _) hB1⟩; have HK1 := zM (wr_kept hk1); clear hI1 hB1 hk1 hcb))
     repeat (go_quiet (first | (go_at_call 57; (refine (W1 _ ?side1 ?side2).mono ?_); (case side1 => exact (by repeat (first | exact HI0.out | apply bd_alloc | apply bd_drewN | apply bd_drew))); (case side2 => have := HBW.out.size; simp; omega); rintro e w1 ⟨rfl, hI1, hB1, hk1⟩; have hcb := hk1 w.heap.size _ (heap_alloc_new w _) hbn (by intro c_ fz_ h_; cases h_); have hz1c := (zX hcb 1).trans rfl; have HCB := zM hcb; have HI1 := zM (bd_str hI1); have HB1 : Aside0 (Below w0.heap.size w w1) := ⟨bd_tr (HB0.out.alloc hB.size _) hB1⟩; have HK1 := zM (wr_kept hk1); clear hI1 hB1 hk1 hcb)); try go_wp2_with (first | (go_at_call 57; (refine (W1 _ ?side1 ?side2).mono ?_); (case side1 => exact (by repeat (first | exact HI0.out | apply bd_alloc | apply bd_drewN | apply bd_drew))); (case side2 => have := HBW.out.size; simp; omega); rintro e w1 ⟨rfl, hI1, hB1, hk1⟩; have hcb := hk1 w.heap.size _ (heap_alloc_new w _) hbn (by intro c_ fz_ h_; cases h_); have hz1c := (zX hcb 1).trans rfl; have HCB := zM hcb; have HI1 := zM (bd_str hI1); have HB1 : Aside0 (Below w0.heap.size w w1) := ⟨bd_tr (HB0.out.alloc hB.size _) hB1⟩; have HK1 := zM (wr_kept hk1); clear hI1 hB1 hk1 hcb)))
     go_loopg [2, 21] k (fun kq v2 v21 w' => ∃ (n i2 : Int) (l2 : List UInt8), v2 = .int .i64 i2 ∧ v21 = .int .i64 n ∧ Aside0 (wrL kq t (rd_T48 t i).f1 n i2 l2 = some x) ∧ Aside0 (kq ≤ k) ∧ Aside0 (IsBd w0.heap.size b l2 w') ∧ Aside0 (Below w0.heap.size w w') ∧ Aside0 (w'.heap[w.heap.size]? = some (.cells #[.string (rd_T48 t i).f0, .int .i64 (rd_T48 t i).f1] 48 (0, 0))) ∧ Aside0 (Lib.OthersKept 5 (some b) w w') ∧ Aside0 (0 ≤ n))
     case atStart => exact ⟨0, _, _, rfl, rfl, HX, ⟨Nat.le_refl _⟩, ⟨(by repeat (first | exact HI1.out | apply bd_alloc | apply bd_drewN | apply bd_drew))⟩, ⟨(by repeat (first | exact HB1.out | apply zN | apply zD | apply zA))⟩, HCB, HK1, ⟨Int.le_refl _⟩⟩
     case round =>
      clear HX hz1c HCB HI1 HB1 HK1
      obtain ⟨n, i2, l2, rfl, rfl, HA, HK1, HI2, HB2, HCB2, HK2, Hn⟩ := hrel
      cases gk with
      | zero => exact absurd HA.out (by simp [wrL])
      | succ k1 =>
       have hA := HA.out
       clear HA
       simp only [wrL] at hA
       have hz2c := (zX HCB2.out 1).trans rfl
       by_cases d1 : n < (rd_T48 t i).f1
       ·
        rw [if_pos d1] at hA
        have d1b : decide (n < (rd_T48 t i).f1) = true := zQ d1
        clear d1
        split at hA
        · next d8 =>
         split at hA
         · next d2 =>
          obtain ⟨y, hy, hA⟩ := zB hA
          have H' := zM hA
          clear hA
          have HKK := zM (show k1 < k + 1 by have := HK1.out; omega)
          have REC := fun (W : World) (hW : Below w0.heap.size w0 W) (h : IsBd w0.heap.size b (l2 ++ [if n = 0 then 40 else 44]) W) => ih k1 HKK.out b t (some ad) c i2 _ y w0 W HC.out hW h hy
          have hn := Hn.out
          have d9 : n = 0 ∨ n = 1 ∨ n = 2 ∨ n = 3 := by omega
          clear hn Hn d8
          rcases d9 with rfl | rfl | rfl | rfl
          ·
           simp only [if_true] at REC
           have H1 := zM (show wrL k1 t (rd_T48 t i).f1 1 y.2 y.1 = some x from by have h_ := H'.out; rwa [show wrap64 (0 + 1) = 1 from by unfold wrap64; omega] at h_)
           clear H'
           have H' := H1
           clear H1
           have BY := fun (W : World) (h : IsBd w0.heap.size b l2 W) (hs : w0.heap.size ≤ W.heap.size) => bd_write w0.heap.size b (Lib.byteCells l2) 40 W h hs (by rw [bd_len]; omega)
           go_wp2_with (first | (go_at_call 106; (refine (BY _ ?side1 ?side2).mono ?_); (case side1 => exact (by repeat (first | exact HI2.out | apply bd_alloc | apply bd_drewN | apply bd_drew))); (case side2 => exact Nat.le_trans hB.size ((by repeat (first | exact HB2.out | apply zN | apply zD | apply zA)) : Below w0.heap.size w _).size); rintro e w3 ⟨rfl, hI3, hB3, hk3⟩; have hcb3 := hk3 w.heap.size _ HCB2.out hbn (by intro c_ fz_ h_; cases h_); have hz3c := (zX hcb3 1).trans rfl; have HCB3 := zM hcb3; have HI3 := zM (bd_one (x := 40) hI3); have HB3 := zM (bd_tr (by repeat (first | exact HB2.out | apply zN | apply zD | apply zA)) hB3); have HK3 := zM (Lib.OthersKept.trans HK2.out hk3); clear hI3 hB3 hk3 hcb3) | (go_at_call 82; (refine (REC _ ?side1 ?side2).mono ?_); (case side1 => exact bd_tr HBW.out (by repeat (first | exact HB3.out | apply zN | apply zD | apply zA))); (case side2 => exact (by repeat (first | exact HI3.out | apply bd_alloc | apply bd_drewN | apply bd_drew))); rintro e w4 ⟨rfl, hI4, hB4, hk4⟩; have hcb4 := hk4 w.heap.size _ HCB3.out hbn (by intro c_ fz_ h_; cases h_); have HCB4 := zM hcb4; have HI4 := zM hI4; have HB4 := zM (bd_tr (by repeat (first | exact HB3.out | apply zN | apply zD | apply zA)) hB4); have HK4 := zM (Lib.OthersKept.trans HK3.out hk4); clear hI4 hB4 hk4 hcb4))
           repeat (go_quiet (first | (go_at_call 106; (refine (BY _ ?side1 ?side2).mono ?_); (case side1 => exact (by repeat (first | exact HI2.out | apply bd_alloc | apply bd_drewN | apply bd_drew))); (case side2 => exact Nat.le_trans hB.size ((by repeat (first | exact HB2.out | apply zN | apply zD | apply zA)) : Below w0.heap.size w _).size); rintro e w3 ⟨rfl, hI3, hB3, hk3⟩; have hcb3 := hk3 w.heap.size _ HCB2.out hbn (by intro c_ fz_ h_; cases h_); have hz3c := (zX hcb3 1).trans rfl; have HCB3 := zM hcb3; have HI3 := zM (bd_one (x := 40) hI3); have HB3 := zM (bd_tr (by repeat (first | exact HB2.out | apply zN | apply zD | apply zA)) hB3); have HK3 := zM (Lib.OthersKept.trans HK2.out hk3); clear hI3 hB3 hk3 hcb3) | (go_at_call 82; (refine (REC _ ?side1 ?side2).mono ?_); (case side1 => exact bd_tr HBW.out (by repeat (first | exact HB3.out | apply zN | apply zD | apply zA))); (case side2 => exact (by repeat (first | exact HI3.out | apply bd_alloc | apply bd_drewN | apply bd_drew))); rintro e w4 ⟨rfl, hI4, hB4, hk4⟩; have hcb4 := hk4 w.heap.size _ HCB3.out hbn (by intro c_ fz_ h_; cases h_); have HCB4 := zM hcb4; have HI4 := zM hI4; have HB4 := zM (bd_tr (by repeat (first | exact HB3.out | apply zN | apply zD | apply zA)) hB4); have HK4 := zM (Lib.OthersKept.trans HK3.out hk4); clear hI4 hB4 hk4 hcb4)); try go_wp2_with (first | (go_at_call 106; (refine (BY _ ?side1 ?side2).mono ?_); (case side1 => exact (by repeat (first | exact HI2.out | apply bd_alloc | apply bd_drewN | apply bd_drew))); (case side2 => exact Nat.le_trans hB.size ((by repeat (first | exact HB2.out | apply zN | apply zD | apply zA)) : Below w0.heap.size w _).size); rintro e w3 ⟨rfl, hI3, hB3, hk3⟩; have hcb3 := hk3 w.heap.size _ HCB2.out hbn (by intro c_ fz_ h_; cases h_); have hz3c := (zX hcb3 1).trans rfl; have HCB3 := zM hcb3; have HI3 := zM (bd_one (x := 40) hI3); have HB3 := zM (bd_tr (by repeat (first | exact HB2.out | apply zN | apply zD | apply zA)) hB3); have HK3 := zM (Lib.OthersKept.trans HK2.out hk3); clear hI3 hB3 hk3 hcb3) | (go_at_call 82; (refine (REC _ ?side1 ?side2).mono ?_); (case side1 => exact bd_tr HBW.out (by repeat (first | exact HB3.out | apply zN | apply zD | apply zA))); (case side2 => exact (by repeat (first | exact HI3.out | apply bd_alloc | apply bd_drewN | apply bd_drew))); rintro e w4 ⟨rfl, hI4, hB4, hk4⟩; have hcb4 := hk4 w.heap.size _ HCB3.out hbn (by intro c_ fz_ h_; cases h_); have HCB4 := zM hcb4; have HI4 := zM hI4; have HB4 := zM (bd_tr (by repeat (first | exact HB3.out | apply zN | apply zD | apply zA)) hB4); have HK4 := zM (Lib.OthersKept.trans HK3.out hk4); clear hI4 hB4 hk4 hcb4)))
           go_roundg k1
           case measure => have := HK1.out; omega
           case rel => exact ⟨_, y.2, y.1, rfl, rfl, H', ⟨by have := HK1.out; omega⟩, ⟨(by repeat (first | exact HI4.out | apply bd_alloc | apply bd_drewN | apply bd_drew))⟩, ⟨(by repeat (first | exact HB4.out | apply zN | apply zD | apply zA))⟩, HCB4, HK4, ⟨by decide⟩⟩
          ·
           simp only [if_neg (show ¬ (1 : Int) = 0 by decide)] at REC
           have H1 := zM (show wrL k1 t (rd_T48 t i).f1 2 y.2 y.1 = some x from by have h_ := H'.out; rwa [show wrap64 (1 + 1) = 2 from by unfold wrap64; omega] at h_)
           clear H'
           have H' := H1
           clear H1
           have BY := fun (W : World) (h : IsBd w0.heap.size b l2 W) (hs : w0.heap.size ≤ W.heap.size) => bd_write w0.heap.size b (Lib.byteCells l2) 44 W h hs (by rw [bd_len]; omega)
           go_wp2_with (first | (go_at_call 106; (refine (BY _ ?side1 ?side2).mono ?_); (case side1 => exact (by repeat (first | exact HI2.out | apply bd_alloc | apply bd_drewN | apply bd_drew))); (case side2 => exact Nat.le_trans hB.size ((by repeat (first | exact HB2.out | apply zN | apply zD | apply zA)) : Below w0.heap.size w _).size); rintro e w3 ⟨rfl, hI3, hB3, hk3⟩; have hcb3 := hk3 w.heap.size _ HCB2.out hbn (by intro c_ fz_ h_; cases h_); have hz3c := (zX hcb3 1).trans rfl; have HCB3 := zM hcb3; have HI3 := zM (bd_one (x := 44) hI3); have HB3 := zM (bd_tr (by repeat (first | exact HB2.out | apply zN | apply zD | apply zA)) hB3); have HK3 := zM (Lib.OthersKept.trans HK2.out hk3); clear hI3 hB3 hk3 hcb3) | (go_at_call 82; (refine (REC _ ?side1 ?side2).mono ?_); (case side1 => exact bd_tr HBW.out (by repeat (first | exact HB3.out | apply zN | apply zD | apply zA))); (case side2 => exact (by repeat (first | exact HI3.out | apply bd_alloc | apply bd_drewN | apply bd_drew))); rintro e w4 ⟨rfl, hI4, hB4, hk4⟩; have hcb4 := hk4 w.heap.size _ HCB3.out hbn (by intro c_ fz_ h_; cases h_); have HCB4 := zM hcb4; have HI4 := zM hI4; have HB4 := zM (bd_tr (by repeat (first | exact HB3.out | apply zN | apply zD | apply zA)) hB4); have HK4 := zM (Lib.OthersKept.trans HK3.out hk4); clear hI4 hB4 hk4 hcb4))
           repeat (go_quiet (first | (go_at_call 106; (refine (BY _ ?side1 ?side2).mono ?_); (case side1 => exact (by repeat (first | exact HI2.out | apply bd_alloc | apply bd_drewN | apply bd_drew))); (case side2 => exact Nat.le_trans hB.size ((by repeat (first | exact HB2.out | apply zN | apply zD | apply zA)) : Below w0.heap.size w _).size); rintro e w3 ⟨rfl, hI3, hB3, hk3⟩; have hcb3 := hk3 w.heap.size _ HCB2.out hbn (by intro c_ fz_ h_; cases h_); have hz3c := (zX hcb3 1).trans rfl; have HCB3 := zM hcb3; have HI3 := zM (bd_one (x := 44) hI3); have HB3 := zM (bd_tr (by repeat (first | exact HB2.out | apply zN | apply zD | apply zA)) hB3); have HK3 := zM (Lib.OthersKept.trans HK2.out hk3); clear hI3 hB3 hk3 hcb3) | (go_at_call 82; (refine (REC _ ?side1 ?side2).mono ?_); (case side1 => exact bd_tr HBW.out (by repeat (first | exact HB3.out | apply zN | apply zD | apply zA))); (case side2 => exact (by repeat (first | exact HI3.out | apply bd_alloc | apply bd_drewN | apply bd_drew))); rintro e w4 ⟨rfl, hI4, hB4, hk4⟩; have hcb4 := hk4 w.heap.size _ HCB3.out hbn (by intro c_ fz_ h_; cases h_); have HCB4 := zM hcb4; have HI4 := zM hI4; have HB4 := zM (bd_tr (by repeat (first | exact HB3.out | apply zN | apply zD | apply zA)) hB4); have HK4 := zM (Lib.OthersKept.trans HK3.out hk4); clear hI4 hB4 hk4 hcb4)); try go_wp2_with (first | (go_at_call 106; (refine (BY _ ?side1 ?side2).mono ?_); (case side1 => exact (by repeat (first | exact HI2.out | apply bd_alloc | apply bd_drewN | apply bd_drew))); (case side2 => exact Nat.le_trans hB.size ((by repeat (first | exact HB2.out | apply zN | apply zD | apply zA)) : Below w0.heap.size w _).size); rintro e w3 ⟨rfl, hI3, hB3, hk3⟩; have hcb3 := hk3 w.heap.size _ HCB2.out hbn (by intro c_ fz_ h_; cases h_); have hz3c := (zX hcb3 1).trans rfl; have HCB3 := zM hcb3; have HI3 := zM (bd_one (x := 44) hI3); have HB3 := zM (bd_tr (by repeat (first | exact HB2.out | apply zN | apply zD | apply zA)) hB3); have HK3 := zM (Lib.OthersKept.trans HK2.out hk3); clear hI3 hB3 hk3 hcb3) | (go_at_call 82; (refine (REC _ ?side1 ?side2).mono ?_); (case side1 => exact bd_tr HBW.out (by repeat (first | exact HB3.out | apply zN | apply zD | apply zA))); (case side2 => exact (by repeat (first | exact HI3.out | apply bd_alloc | apply bd_drewN | apply bd_drew))); rintro e w4 ⟨rfl, hI4, hB4, hk4⟩; have hcb4 := hk4 w.heap.size _ HCB3.out hbn (by intro c_ fz_ h_; cases h_); have HCB4 := zM hcb4; have HI4 := zM hI4; have HB4 := zM (bd_tr (by repeat (first | exact HB3.out | apply zN | apply zD | apply zA)) hB4); have HK4 := zM (Lib.OthersKept.trans HK3.out hk4); clear hI4 hB4 hk4 hcb4)))
           go_roundg k1
           case measure => have := HK1.out; omega
           case rel => exact ⟨_, y.2, y.1, rfl, rfl, H', ⟨by have := HK1.out; omega⟩, ⟨(by repeat (first | exact HI4.out | apply bd_alloc | apply bd_drewN | apply bd_drew))⟩, ⟨(by repeat (first | exact HB4.out | apply zN | apply zD | apply zA))⟩, HCB4, HK4, ⟨by decide⟩⟩
          ·
           simp only [if_neg (show ¬ (2 : Int) = 0 by decide)] at REC
           have H1 := zM (show wrL k1 t (rd_T48 t i).f1 3 y.2 y.1 = some x from by have h_ := H'.out; rwa [show wrap64 (2 + 1) = 3 from by unfold wrap64; omega] at h_)
           clear H'
           have H' := H1
           clear H1
           have BY := fun (W : World) (h : IsBd w0.heap.size b l2 W) (hs : w0.heap.size ≤ W.heap.size) => bd_write w0.heap.size b (Lib.byteCells l2) 44 W h hs (by rw [bd_len]; omega)
           go_wp2_with (first | (go_at_call 106; (refine (BY _ ?side1 ?side2).mono ?_); (case side1 => exact (by repeat (first | exact HI2.out | apply bd_alloc | apply bd_drewN | apply bd_drew))); (case side2 => exact Nat.le_trans hB.size ((by repeat (first | exact HB2.out | apply zN | apply zD | apply zA)) : Below w0.heap.size w _).size); rintro e w3 ⟨rfl, hI3, hB3, hk3⟩; have hcb3 := hk3 w.heap.size _ HCB2.out hbn (by intro c_ fz_ h_; cases h_); have hz3c := (zX hcb3 1).trans rfl; have HCB3 := zM hcb3; have HI3 := zM (bd_one (x := 44) hI3); have HB3 := zM (bd_tr (by repeat (first | exact HB2.out | apply zN | apply zD | apply zA)) hB3); have HK3 := zM (Lib.OthersKept.trans HK2.out hk3); clear hI3 hB3 hk3 hcb3) | (go_at_call 82; (refine (REC _ ?side1 ?side2).mono ?_); (case side1 => exact bd_tr HBW.out (by repeat (first | exact HB3.out | apply zN | apply zD | apply zA))); (case side2 => exact (by repeat (first | exact HI3.out | apply bd_alloc | apply bd_drewN | apply bd_drew))); rintro e w4 ⟨rfl, hI4, hB4, hk4⟩; have hcb4 := hk4 w.heap.size _ HCB3.out hbn (by intro c_ fz_ h_; cases h_); have HCB4 := zM hcb4; have HI4 := zM hI4; have HB4 := zM (bd_tr (by repeat (first | exact HB3.out | apply zN | apply zD | apply zA)) hB4); have HK4 := zM (Lib.OthersKept.trans HK3.out hk4); clear hI4 hB4 hk4 hcb4))
           repeat (go_quiet (first | (go_at_call 106; (refine (BY _ ?side1 ?side2).mono ?_); (case side1 => exact (by repeat (first | exact HI2.out | apply bd_alloc | apply bd_drewN | apply bd_drew))); (case side2 => exact Nat.le_trans hB.size ((by repeat (first | exact HB2.out | apply zN | apply zD | apply zA)) : Below w0.heap.size w _).size); rintro e w3 ⟨rfl, hI3, hB3, hk3⟩; have hcb3 := hk3 w.heap.size _ HCB2.out hbn (by intro c_ fz_ h_; cases h_); have hz3c := (zX hcb3 1).trans rfl; have HCB3 := zM hcb3; have HI3 := zM (bd_one (x := 44) hI3); have HB3 := zM (bd_tr (by repeat (first | exact HB2.out | apply zN | apply zD | apply zA)) hB3); have HK3 := zM (Lib.OthersKept.trans HK2.out hk3); clear hI3 hB3 hk3 hcb3) | (go_at_call 82; (refine (REC _ ?side1 ?side2).mono ?_); (case side1 => exact bd_tr HBW.out (by repeat (first | exact HB3.out | apply zN | apply zD | apply zA))); (case side2 => exact (by repeat (first | exact HI3.out | apply bd_alloc | apply bd_drewN | apply bd_drew))); rintro e w4 ⟨rfl, hI4, hB4, hk4⟩; have hcb4 := hk4 w.heap.size _ HCB3.out hbn (by intro c_ fz_ h_; cases h_); have HCB4 := zM hcb4; have HI4 := zM hI4; have HB4 := zM (bd_tr (by repeat (first | exact HB3.out | apply zN | apply zD | apply zA)) hB4); have HK4 := zM (Lib.OthersKept.trans HK3.out hk4); clear hI4 hB4 hk4 hcb4)); try go_wp2_with (first | (go_at_call 106; (refine (BY _ ?side1 ?side2).mono ?_); (case side1 => exact (by repeat (first | exact HI2.out | apply bd_alloc | apply bd_drewN | apply bd_drew))); (case side2 => exact Nat.le_trans hB.size ((by repeat (first | exact HB2.out | apply zN | apply zD | apply zA)) : Below w0.heap.size w _).size); rintro e w3 ⟨rfl, hI3, hB3, hk3⟩; have hcb3 := hk3 w.heap.size _ HCB2.out hbn (by intro c_ fz_ h_; cases h_); have hz3c := (zX hcb3 1).trans rfl; have HCB3 := zM hcb3; have HI3 := zM (bd_one (x := 44) hI3); have HB3 := zM (bd_tr (by repeat (first | exact HB2.out | apply zN | apply zD | apply zA)) hB3); have HK3 := zM (Lib.OthersKept.trans HK2.out hk3); clear hI3 hB3 hk3 hcb3) | (go_at_call 82; (refine (REC _ ?side1 ?side2).mono ?_); (case side1 => exact bd_tr HBW.out (by repeat (first | exact HB3.out | apply zN | apply zD | apply zA))); (case side2 => exact (by repeat (first | exact HI3.out | apply bd_alloc | apply bd_drewN | apply bd_drew))); rintro e w4 ⟨rfl, hI4, hB4, hk4⟩; have hcb4 := hk4 w.heap.size _ HCB3.out hbn (by intro c_ fz_ h_; cases h_); have HCB4 := zM hcb4; have HI4 := zM hI4; have HB4 := zM (bd_tr (by repeat (first | exact HB3.out | apply zN | apply zD | apply zA)) hB4); have HK4 := zM (Lib.OthersKept.trans HK3.out hk4); clear hI4 hB4 hk4 hcb4)))
           go_roundg k1
           case measure => have := HK1.out; omega
           case rel => exact ⟨_, y.2, y.1, rfl, rfl, H', ⟨by have := HK1.out; omega⟩, ⟨(by repeat (first | exact HI4.out | apply bd_alloc | apply bd_drewN | apply bd_drew))⟩, ⟨(by repeat (first | exact HB4.out | apply zN | apply zD | apply zA))⟩, HCB4, HK4, ⟨by decide⟩⟩
          ·
           simp only [if_neg (show ¬ (3 : Int) = 0 by decide)] at REC
           have H1 := zM (show wrL k1 t (rd_T48 t i).f1 4 y.2 y.1 = some x from by have h_ := H'.out; rwa [show wrap64 (3 + 1) = 4 from by unfold wrap64; omega] at h_)
           clear H'
           have H' := H1
           clear H1
           have BY := fun (W : World) (h : IsBd w0.heap.size b l2 W) (hs : w0.heap.size ≤ W.heap.size) => bd_write w0.heap.size b (Lib.byteCells l2) 44 W h hs (by rw [bd_len]; omega)
           go_wp2_with (first | (go_at_call 106; (refine (BY _ ?side1 ?side2).mono ?_); (case side1 => exact (by repeat (first | exact HI2.out | apply bd_alloc | apply bd_drewN | apply bd_drew))); (case side2 => exact Nat.le_trans hB.size ((by repeat (first | exact HB2.out | apply zN | apply zD | apply zA)) : Below w0.heap.size w _).size); rintro e w3 ⟨rfl, hI3, hB3, hk3⟩; have hcb3 := hk3 w.heap.size _ HCB2.out hbn (by intro c_ fz_ h_; cases h_); have hz3c := (zX hcb3 1).trans rfl; have HCB3 := zM hcb3; have HI3 := zM (bd_one (x := 44) hI3); have HB3 := zM (bd_tr (by repeat (first | exact HB2.out | apply zN | apply zD | apply zA)) hB3); have HK3 := zM (Lib.OthersKept.trans HK2.out hk3); clear hI3 hB3 hk3 hcb3) | (go_at_call 82; (refine (REC _ ?side1 ?side2).mono ?_); (case side1 => exact bd_tr HBW.out (by repeat (first | exact HB3.out | apply zN | apply zD | apply zA))); (case side2 => exact (by repeat (first | exact HI3.out | apply bd_alloc | apply bd_drewN | apply bd_drew))); rintro e w4 ⟨rfl, hI4, hB4, hk4⟩; have hcb4 := hk4 w.heap.size _ HCB3.out hbn (by intro c_ fz_ h_; cases h_); have HCB4 := zM hcb4; have HI4 := zM hI4; have HB4 := zM (bd_tr (by repeat (first | exact HB3.out | apply zN | apply zD | apply zA)) hB4); have HK4 := zM (Lib.OthersKept.trans HK3.out hk4); clear hI4 hB4 hk4 hcb4))
           repeat (go_quiet (first | (go_at_call 106; (refine (BY _ ?side1 ?side2).mono ?_); (case side1 => exact (by repeat (first | exact HI2.out | apply bd_alloc | apply bd_drewN | apply bd_drew))); (case side2 => exact Nat.le_trans hB.size ((by repeat (first | exact HB2.out | apply zN | apply zD | apply zA)) : Below w0.heap.size w _).size); rintro e w3 ⟨rfl, hI3, hB3, hk3⟩; have hcb3 := hk3 w.heap.size _ HCB2.out hbn (by intro c_ fz_ h_; cases h_); have hz3c := (zX hcb3 1).trans rfl; have HCB3 := zM hcb3; have HI3 := zM (bd_one (x := 44) hI3); have HB3 := zM (bd_tr (by repeat (first | exact HB2.out | apply zN | apply zD | apply zA)) hB3); have HK3 := zM (Lib.OthersKept.trans HK2.out hk3); clear hI3 hB3 hk3 hcb3) | (go_at_call 82; (refine (REC _ ?side1 ?side2).mono ?_); (case side1 => exact bd_tr HBW.out (by repeat (first | exact HB3.out | apply zN | apply zD | apply zA))); (case side2 => exact (by repeat (first | exact HI3.out | apply bd_alloc | apply bd_drewN | apply bd_drew))); rintro e w4 ⟨rfl, hI4, hB4, hk4⟩; have hcb4 := hk4 w.heap.size _ HCB3.out hbn (by intro c_ fz_ h_; cases h_); have HCB4 := zM hcb4; have HI4 := zM hI4; have HB4 := zM (bd_tr (by repeat (first | exact HB3.out | apply zN | apply zD | apply zA)) hB4); have HK4 := zM (Lib.OthersKept.trans HK3.out hk4); clear hI4 hB4 hk4 hcb4)); try go_wp2_with (first | (go_at_call 106; (refine (BY _ ?side1 ?side2).mono ?_); (case side1 => exact (by repeat (first | exact HI2.out | apply bd_alloc | apply bd_drewN | apply bd_drew))); (case side2 => exact Nat.le_trans hB.size ((by repeat (first | exact HB2.out | apply zN | apply zD | apply zA)) : Below w0.heap.size w _).size); rintro e w3 ⟨rfl, hI3, hB3, hk3⟩; have hcb3 := hk3 w.heap.size _ HCB2.out hbn (by intro c_ fz_ h_; cases h_); have hz3c := (zX hcb3 1).trans rfl; have HCB3 := zM hcb3; have HI3 := zM (bd_one (x := 44) hI3); have HB3 := zM (bd_tr (by repeat (first | exact HB2.out | apply zN | apply zD | apply zA)) hB3); have HK3 := zM (Lib.OthersKept.trans HK2.out hk3); clear hI3 hB3 hk3 hcb3) | (go_at_call 82; (refine (REC _ ?side1 ?side2).mono ?_); (case side1 => exact bd_tr HBW.out (by repeat (first | exact HB3.out | apply zN | apply zD | apply zA))); (case side2 => exact (by repeat (first | exact HI3.out | apply bd_alloc | apply bd_drewN | apply bd_drew))); rintro e w4 ⟨rfl, hI4, hB4, hk4⟩; have hcb4 := hk4 w.heap.size _ HCB3.out hbn (by intro c_ fz_ h_; cases h_); have HCB4 := zM hcb4; have HI4 := zM hI4; have HB4 := zM (bd_tr (by repeat (first | exact HB3.out | apply zN | apply zD | apply zA)) hB4); have HK4 := zM (Lib.OthersKept.trans HK3.out hk4); clear hI4 hB4 hk4 hcb4)))
           go_roundg k1
           case measure => have := HK1.out; omega
           case rel => exact ⟨_, y.2, y.1, rfl, rfl, H', ⟨by have := HK1.out; omega⟩, ⟨(by repeat (first | exact HI4.out | apply bd_alloc | apply bd_drewN | apply bd_drew))⟩, ⟨(by repeat (first | exact HB4.out | apply zN | apply zD | apply zA))⟩, HCB4, HK4, ⟨by decide⟩⟩
         ·
          cases hA
        ·
         cases hA
       ·
        rw [if_neg d1] at hA
        have d1b : decide (n < (rd_T48 t i).f1) = false := zR d1
        injection hA with hA
        subst hA
        have h := H.out
        simp only at h
        by_cases d6 : (rd_T48 t i).f1 > 0
        ·
         rw [if_pos d6] at h
         have d6b : decide ((rd_T48 t i).f1 > 0) = true := zQ d6
         clear d6 d1 H
         split at h
         · next d7 =>
          obtain rfl := zS h
          clear h
          have BY := fun (W : World) (h : IsBd w0.heap.size b l2 W) (hs : w0.heap.size ≤ W.heap.size) => bd_write w0.heap.size b (Lib.byteCells l2) 41 W h hs (by rw [bd_len]; omega)
          go_wp2_with (first | (go_at_call 106; (refine (BY _ ?side1 ?side2).mono ?_); (case side1 => exact (by repeat (first | exact HI2.out | apply bd_alloc | apply bd_drewN | apply bd_drew))); (case side2 => exact Nat.le_trans hB.size ((by repeat (first | exact HB2.out | apply zN | apply zD | apply zA)) : Below w0.heap.size w _).size); rintro e w3 ⟨rfl, hI3, hB3, hk3⟩; have hcb3 := hk3 w.heap.size _ HCB2.out hbn (by intro c_ fz_ h_; cases h_); have hz3c := (zX hcb3 1).trans rfl; have HCB3 := zM hcb3; have HI3 := zM (bd_one (x := 41) hI3); have HB3 := zM (bd_tr (by repeat (first | exact HB2.out | apply zN | apply zD | apply zA)) hB3); have HK3 := zM (Lib.OthersKept.trans HK2.out hk3); clear hI3 hB3 hk3 hcb3))
          repeat (go_quiet (first | (go_at_call 106; (refine (BY _ ?side1 ?side2).mono ?_); (case side1 => exact (by repeat (first | exact HI2.out | apply bd_alloc | apply bd_drewN | apply bd_drew))); (case side2 => exact Nat.le_trans hB.size ((by repeat (first | exact HB2.out | apply zN | apply zD | apply zA)) : Below w0.heap.size w _).size); rintro e w3 ⟨rfl, hI3, hB3, hk3⟩; have hcb3 := hk3 w.heap.size _ HCB2.out hbn (by intro c_ fz_ h_; cases h_); have hz3c := (zX hcb3 1).trans rfl; have HCB3 := zM hcb3; have HI3 := zM (bd_one (x := 41) hI3); have HB3 := zM (bd_tr (by repeat (first | exact HB2.out | apply zN | apply zD | apply zA)) hB3); have HK3 := zM (Lib.OthersKept.trans HK2.out hk3); clear hI3 hB3 hk3 hcb3)); try go_wp2_with (first | (go_at_call 106; (refine (BY _ ?side1 ?side2).mono ?_); (case side1 => exact (by repeat (first | exact HI2.out | apply bd_alloc | apply bd_drewN | apply bd_drew))); (case side2 => exact Nat.le_trans hB.size ((by repeat (first | exact HB2.out | apply zN | apply zD | apply zA)) : Below w0.heap.size w _).size); rintro e w3 ⟨rfl, hI3, hB3, hk3⟩; have hcb3 := hk3 w.heap.size _ HCB2.out hbn (by intro c_ fz_ h_; cases h_); have hz3c := (zX hcb3 1).trans rfl; have HCB3 := zM hcb3; have HI3 := zM (bd_one (x := 41) hI3); have HB3 := zM (bd_tr (by repeat (first | exact HB2.out | apply zN | apply zD | apply zA)) hB3); have HK3 := zM (Lib.OthersKept.trans HK2.out hk3); clear hI3 hB3 hk3 hcb3)))
          go_ret
          exact ⟨rfl, (by repeat (first | exact HI3.out | apply bd_alloc | apply bd_drewN | apply bd_drew)), (by repeat (first | exact HB3.out | apply zN | apply zD | apply zA)), HK3.out⟩
         ·
          cases h
        ·
         rw [if_neg d6] at h
         have d6b : decide ((rd_T48 t i).f1 > 0) = false := zR d6
         clear d6 d1 H
         obtain rfl := zS h
         clear h
         go_wp2_with (first | fail)
         repeat (go_quiet (first | fail); try go_wp2_with (first | fail))
         go_ret
         exact ⟨rfl, (by repeat (first | exact HI2.out | apply bd_alloc | apply bd_drewN | apply bd_drew)), (by repeat (first | exact HB2.out | apply zN | apply zD | apply zA)), HK2.out⟩
    ·
     cases h
   ·
    rw [if_neg c2] at h; cases h
  ·
   rw [if_neg c1] at h; cases h
theorem wr_all : ∀ k, WrC k := by
 intro k
 induction k using Nat.strongRecOn with
 | _ k ih => exact wr_step k ih
def printF (k : Nat) (t : List (S48)) : Option (ByteArray × Int) :=
 (term_Check.f k t).bind fun e => if e = 0 then ((wrT k t 0 []).bind fun x => if x.1 = [] then none else if x.1.length ≤ 4096 then some (⟨x.1.toArray⟩, 0) else none) else some (⟨#[]⟩, e)
theorem bd_new {w0 W : World} {b : Nat} (h : w0.heap.size ≤ W.heap.size) (hb : b = W.heap.size) : IsBd w0.heap.size b [] (W.alloc (.cells #[.pointer none, .slice none 0 0] 102)) := by
 subst hb
 exact .inl ⟨h, .slice none 0 0, heap_alloc_new W _, ⟨rfl, .inl ⟨rfl, rfl⟩⟩, by simp [Value.ownBlock]⟩
theorem print_calls (k : Nat) (A0 : Option Addr) (c0 : Nat) (l0 : List (S48)) (r1 : ByteArray) (r2 : Int) (w : World) (hr0 : Kd.C k48 w A0 l0.length l0) (hc0 : l0.length ≤ c0) (h : printF k l0 = some (r1, r2)) :
 Calls Tryz.prog 54 #[.slice A0 l0.length c0] w fun e w' => e = .returned (.tuple #[.string r1, .int .i64 r2]) ∧ Below w.heap.size w w' := by
 unfold printF at h
 obtain ⟨e0, he, h⟩ := zB h
 have C1 := fun (W : World) (hq : Kd.C k48 W A0 l0.length l0) => term_Check.calls k A0 c0 l0 e0 W hq hc0 he
 have HR := zM hr0
 clear he hr0
 by_cases c1 : e0 = 0
 ·
  rw [if_pos c1] at h
  have c1b : (e0 == 0) = true := zG c1
  have c1c : (e0 != 0) = false := zH c1
  clear c1
  obtain ⟨x, hx, h⟩ := zB h
  by_cases c2 : x.1 = []
  ·
   rw [if_pos c2] at h; cases h
  ·
   rw [if_neg c2] at h
   split at h
   · next c3 =>
    injection h with h
    injection h with h1 h2
    subst h1 h2
    have W1 := fun (b : Nat) (W : World) (hb : Below w.heap.size w W) (hq : IsBd w.heap.size b [] W) => (wr_all k) b l0 A0 c0 0 [] x w W HR.out hb hq hx
    have D1 := fun (b : Nat) (W : World) (hq : IsBd w.heap.size b x.1 W) => bd_done w.heap.size b x.1 W hq c2 c3
    clear hx c2 c3
    go_enter Tryz.func54, Tryz.ntmps54
    go_wp2_with (first | (go_at_call 73; (refine (C1 _ ?side1).mono ?_); (case side1 => repeat (first | exact HR.out | apply Kd.C_drewN | apply Kd.C_drew)); rintro e w1 ⟨rfl, hB1⟩; have HB1 := zM hB1; clear hB1) | (go_at_call 82; (refine (W1 _ _ ?side1 ?side2).mono ?_); (case side1 => exact HB1.out.alloc HB1.out.size _); (case side2 => exact bd_new HB1.out.size rfl); rintro e w2 ⟨rfl, hI2, hB2, hk2⟩; have HI2 := zM hI2; have HB2 : Aside0 (Below w.heap.size w w2) := ⟨bd_tr (HB1.out.alloc HB1.out.size _) hB2⟩; clear hI2 hB2 hk2) | (go_at_call 58; (refine (D1 _ _ ?side1).mono ?_); (case side1 => exact HI2.out); rintro e w3 ⟨rfl, hB3⟩; have HB3 : Aside0 (Below w.heap.size w w3) := ⟨bd_tr HB2.out hB3⟩; clear hB3))
    go_ret2
    exact ⟨rfl, HB3.out⟩
   ·
    cases h
 ·
  rw [if_neg c1] at h
  have c1b : (e0 == 0) = false := zE c1
  have c1c : (e0 != 0) = true := zF c1
  clear c1
  injection h with h
  injection h with h1 h2
  subst h1 h2
  go_enter Tryz.func54, Tryz.ntmps54
  go_wp2_with (first | (go_at_call 73; (refine (C1 _ ?side1).mono ?_); (case side1 => repeat (first | exact HR.out | apply Kd.C_drewN | apply Kd.C_drew)); rintro e w1 ⟨rfl, hB1⟩; have HB1 := zM hB1; clear hB1))
  go_ret2
  exact ⟨rfl, HB1.out⟩
theorem wr_mono : ∀ k, (∀ t i l, LeO (wrT k t i l) (wrT (k + 1) t i l)) ∧ (∀ t a n i l, LeO (wrL k t a n i l) (wrL (k + 1) t a n i l))
 | 0 => ⟨fun _ _ _ r h => by simp [wrT] at h, fun _ _ _ _ _ r h => by simp [wrL] at h⟩
 | k + 1 => by
  obtain ⟨ih0, ih1⟩ := wr_mono k
  refine ⟨fun t i l => ?_, fun t a n i l => ?_⟩
  ·
   unfold wrT
   exact LeO.ite (LeO.ite (LeO.ite (LeO.bind (ih1 _ _ _ _ _) fun _ => LeO.refl _) (LeO.none _)) (LeO.none _)) (LeO.none _)
  ·
   unfold wrL
   exact LeO.ite (LeO.ite (LeO.ite (LeO.bind (ih0 _ _ _) fun _ => ih1 _ _ _ _ _) (LeO.none _)) (LeO.none _)) (LeO.refl _)
def term_Print.f (k : Nat) (l0 : List (S48)) : Option (ByteArray × Int) := printF k l0
theorem term_Print.mono : ∀ a0 k, LeO (term_Print.f k a0) (term_Print.f (k + 1) a0) := by
 intro a0 k
 unfold term_Print.f printF
 exact LeO.bind (term_Check.mono _ _) fun e => LeO.ite (LeO.bind ((wr_mono k).1 _ _ _) fun _ => LeO.refl _) (LeO.refl _)
theorem term_Print.calls (k : Nat) (A0 : Option Addr) (c0 : Nat) (l0 : List (S48)) (r1 : ByteArray) (r2 : Int) (w : World) (hr0 : Kd.C k48 w A0 l0.length l0) (hc0 : l0.length ≤ c0) (h : term_Print.f k l0 = some (r1, r2)) :
 Calls Tryz.prog 54 #[.slice A0 l0.length c0] w fun e w' => e = .returned (.tuple #[.string r1, .int .i64 r2]) ∧ Below w.heap.size w w' := print_calls k A0 c0 l0 r1 r2 w hr0 hc0 h



-- ==== PF60

def command_sizes.f (a0_0 : Int) (a0_1 : ByteArray) (a0_2 : Int) (a0_3 : Int) (a0_4 : Bool) (l0_5 : List (S48)) (a0_6 : Int) (l0_7 : List (S48)) (l0_8 : List (S48)) : Option (Int × Int × Int) := some ((l0_5.length : Int), (l0_7.length : Int), (l0_8.length : Int))
theorem command_sizes.calls (a0_0 : Int) (a0_1 : ByteArray) (a0_2 : Int) (a0_3 : Int) (a0_4 : Bool) (A0_5 : Option Addr) (c0_5 : Nat) (l0_5 : List (S48)) (a0_6 : Int) (A0_7 : Option Addr) (c0_7 : Nat) (l0_7 : List (S48)) (A0_8 : Option Addr) (c0_8 : Nat) (l0_8 : List (S48)) (r1 : Int) (r2 : Int) (r3 : Int) (w : World) (hr0_5 : Kd.C k48 w A0_5 l0_5.length l0_5) (hc0_5 : l0_5.length ≤ c0_5) (hr0_7 : Kd.C k48 w A0_7 l0_7.length l0_7) (hc0_7 : l0_7.length ≤ c0_7) (hr0_8 : Kd.C k48 w A0_8 l0_8.length l0_8) (hc0_8 : l0_8.length ≤ c0_8) (h : command_sizes.f a0_0 a0_1 a0_2 a0_3 a0_4 l0_5 a0_6 l0_7 l0_8 = some (r1, r2, r3)) :
 Calls Tryz.prog 60 #[.agg #[.int .i64 a0_0, .string a0_1, .int .i64 a0_2, .int .i64 a0_3, .bool a0_4, .slice A0_5 l0_5.length c0_5, .int .i64 a0_6, .slice A0_7 l0_7.length c0_7, .slice A0_8 l0_8.length c0_8]] w fun e w' => e = .returned (.agg #[.int .i64 r1, .int .i64 r2, .int .i64 r3]) ∧ Below w.heap.size w w' := by
 have hu28 := Tryz.underlying28
 have hu109 := Tryz.underlying109
 have HR0_5 := zM hr0_5
 have HC0_5 := zM hc0_5
 clear hr0_5 hc0_5
 have HR0_7 := zM hr0_7
 have HC0_7 := zM hc0_7
 clear hr0_7 hc0_7
 have HR0_8 := zM hr0_8
 have HC0_8 := zM hc0_8
 clear hr0_8 hc0_8
 have HB := zM (Below.refl w.heap.size w)
 have H : (some ((l0_5.length : Int), (l0_7.length : Int), (l0_8.length : Int))) = some (r1, r2, r3) := h
 clear h
 simp only [Option.some.injEq, Prod.mk.injEq] at H
 obtain ⟨rfl, rfl, rfl⟩ := H
 go_enter Tryz.func60, Tryz.ntmps60
 go_wp2_with (first | ((with_reducible refine gate_dst (N := 1) rfl ?_); refine box_event ?hg (N := 1) ?hd (cs := #[.int .i64 a0_0, .string a0_1, .int .i64 a0_2, .int .i64 a0_3, .bool a0_4, .slice A0_5 l0_5.length c0_5, .int .i64 a0_6, .slice A0_7 l0_7.length c0_7, .slice A0_8 l0_8.length c0_8]) (t := 28) ?hr ?_; (case hd => rfl); (case hg => rfl); (case hr => first | (go_simp; done) | (go_simp; rfl)); intro gb101 hg w2 hbox hb; have BK101 := zM (hbox); have GW101 := zM (zh hg : w.heap.size ≤ gb101); have GE101 := zM (zh hg : w.heap.size ≤ gb101); replace HB := zM (below_step zb hb); clear hb hbox hg) | ((with_reducible refine gate_dst (N := 2) rfl ?_); refine box_event ?hg (N := 2) ?hd (cs := #[.int .i64 0, .int .i64 0, .int .i64 0]) (t := 109) ?hr ?_; (case hd => rfl); (case hg => rfl); (case hr => first | (go_simp; done) | (go_simp; rfl)); intro gb102 hg w3 hbox hb; have BK102 := zM (hbox); have GW102 := zM (zh hg : w.heap.size ≤ gb102); have GE102 := zM (zh hg : w.heap.size ≤ gb102); replace HB := zM (below_step zb hb); have NB101_102 := zM ((by rw [hg]; exact Nat.ne_of_lt (blk_lt (zk BK101.out)) : gb101 ≠ gb102)); have NB102_101 := zM ((by rw [hg]; exact Nat.ne_of_gt (blk_lt (zk BK101.out)) : gb102 ≠ gb101)); replace BK101 := zM (blk_below (zk BK101.out) hb); clear hb hbox hg; have hnb4 := NB101_102.out; have hnc4 := NB102_101.out; have hcz5_0 : w3.cell? ⟨gb101, 0, none⟩ = some (.int .i64 a0_0) := (zX BK101.out 0).trans rfl; have hcz5_1 : w3.cell? ⟨gb101, 1, none⟩ = some (.string a0_1) := (zX BK101.out 1).trans rfl; have hcz5_2 : w3.cell? ⟨gb101, 2, none⟩ = some (.int .i64 a0_2) := (zX BK101.out 2).trans rfl; have hcz5_3 : w3.cell? ⟨gb101, 3, none⟩ = some (.int .i64 a0_3) := (zX BK101.out 3).trans rfl; have hcz5_4 : w3.cell? ⟨gb101, 4, none⟩ = some (.bool a0_4) := (zX BK101.out 4).trans rfl; have hcz5_5 : w3.cell? ⟨gb101, 5, none⟩ = some (.slice A0_5 l0_5.length c0_5) := (zX BK101.out 5).trans rfl; have hcz5_6 : w3.cell? ⟨gb101, 6, none⟩ = some (.int .i64 a0_6) := (zX BK101.out 6).trans rfl; have hcz5_7 : w3.cell? ⟨gb101, 7, none⟩ = some (.slice A0_7 l0_7.length c0_7) := (zX BK101.out 7).trans rfl; have hcz5_8 : w3.cell? ⟨gb101, 8, none⟩ = some (.slice A0_8 l0_8.length c0_8) := (zX BK101.out 8).trans rfl; have hfz5_0 := zY BK101.out 0; have hfz5_1 := zY BK101.out 1; have hfz5_2 := zY BK101.out 2; have hfz5_3 := zY BK101.out 3; have hfz5_4 := zY BK101.out 4; have hfz5_5 := zY BK101.out 5; have hfz5_6 := zY BK101.out 6; have hfz5_7 := zY BK101.out 7; have hfz5_8 := zY BK101.out 8; have hcz6_0 : w3.cell? ⟨gb102, 0, none⟩ = some (.int .i64 0) := (zX BK102.out 0).trans rfl; have hcz6_1 : w3.cell? ⟨gb102, 1, none⟩ = some (.int .i64 0) := (zX BK102.out 1).trans rfl; have hcz6_2 : w3.cell? ⟨gb102, 2, none⟩ = some (.int .i64 0) := (zX BK102.out 2).trans rfl; have hfz6_0 := zY BK102.out 0; have hfz6_1 := zY BK102.out 1; have hfz6_2 := zY BK102.out 2))
 refine bodyPost_ret (results_cell_row rfl _ _ gb102 109 #[.int .i64 (l0_5.length : Int), .int .i64 (l0_7.length : Int), .int .i64 (l0_8.length : Int)] (0, 0) _ rfl (by refine zk ?_; refine blk_put (cs := #[.int .i64 (l0_5.length : Int), .int .i64 (l0_7.length : Int), .int .i64 0]) ?_ 2 _ rfl; refine zk ?_; refine blk_put (cs := #[.int .i64 (l0_5.length : Int), .int .i64 0, .int .i64 0]) ?_ 1 _ rfl; refine zk ?_; refine blk_put (cs := #[.int .i64 0, .int .i64 0, .int .i64 0]) ?_ 0 _ rfl; refine zk ?_; exact BK102.out) Tryz.underlying109 rfl (by kernel_rfl)) rfl ?_
 exact ⟨zw, zb⟩


-- ==== PE0

theorem eqA48 (d : Nat) (w : World) (x0 y0 : ByteArray) (x1 y1 : Int) :
 (Op.equalIn (d + 2) 48 (.agg #[.string x0, .int .i64 x1]) (.agg #[.string y0, .int .i64 y1])).run Tryz.prog w = .ok (x0.toList == y0.toList && (x1 == y1)) w := by
 refine eqA_of Tryz.underlying48 (by kernel_rfl) ?_
 refine eqf_cons (by rfl) (by go_simp; rfl) (by go_simp; rfl) (by go_simp) ?_
 exact eqf_last (by rfl) (by go_simp; rfl) (by go_simp; rfl) (by go_simp)

-- ==== PF23

attribute [local go_sem high] eqA48
def aumbryref04_Same.l0 : Nat → List (S48) → List (S48) → Int → Int → Option (Bool)
 | 0, _, _, _, _ => none
 | k + 1, x0, x1, x12, x13 => if x13 < x12 then (if 0 ≤ x13 then (if x13 < (x0.length : Int) then (if x13 < (x1.length : Int) then (if (!((((rd_T48 x0 x13).f0).toList) == (((rd_T48 x1 x13).f0).toList)) || (!(((rd_T48 x0 x13).f1) == ((rd_T48 x1 x13).f1)))) = true then (some false) else (aumbryref04_Same.l0 k x0 x1 x12 (wrap64 (x13 + 1)))) else (none)) else (none)) else (none)) else (some true)
def aumbryref04_Same.f (k : Nat) (l0 : List (S48)) (l1 : List (S48)) : Option (Bool) := if (l0.length : Int) = (l1.length : Int) then (aumbryref04_Same.l0 k l0 l1 (l0.length : Int) 0) else (some false)
theorem aumbryref04_Same.mono_l : ∀ k, (∀ y0 y1 y2 y3, LeO (aumbryref04_Same.l0 k y0 y1 y2 y3) (aumbryref04_Same.l0 (k + 1) y0 y1 y2 y3))
 | 0 => fun _ _ _ _ r h => by simp [aumbryref04_Same.l0] at h
 | k + 1 => by
  have ih0 := aumbryref04_Same.mono_l k
  ·
   intro y0 y1 y2 y3
   unfold aumbryref04_Same.l0
   repeat' first
   | (with_reducible exact ih0 _ _ _ _)
   | (with_reducible exact LeO.refl _)
   | (with_reducible exact LeO.none _)
   | (with_reducible refine LeO.ite ?_ ?_)
   | (with_reducible refine LeO.bind ?_ (fun _ => ?_))
theorem aumbryref04_Same.mono : ∀ a0 a1 k, LeO (aumbryref04_Same.f k a0 a1) (aumbryref04_Same.f (k + 1) a0 a1) := by
 intro a0 a1 k
 have ih0 := aumbryref04_Same.mono_l k
 unfold aumbryref04_Same.f
 repeat' first
  | (with_reducible exact ih0 _ _ _ _)
  | (with_reducible exact LeO.refl _)
  | (with_reducible exact LeO.none _)
  | (with_reducible refine LeO.ite ?_ ?_)
  | (with_reducible refine LeO.bind ?_ (fun _ => ?_))
theorem aumbryref04_Same.calls (k : Nat) (A0 : Option Addr) (c0 : Nat) (l0 : List (S48)) (A1 : Option Addr) (c1 : Nat) (l1 : List (S48)) (r : Bool) (w : World) (hr0 : Kd.C k48 w A0 l0.length l0) (hc0 : l0.length ≤ c0) (hr1 : Kd.C k48 w A1 l1.length l1) (hc1 : l1.length ≤ c1) (h : aumbryref04_Same.f k l0 l1 = some r) :
 Calls Tryz.prog 23 #[.slice A0 l0.length c0, .slice A1 l1.length c1] w fun e w' => e = .returned (.bool r) ∧ Drawn0 w w' := by
 have hu48 := Tryz.underlying48
 have HR0 := zM hr0
 have HC0 := zM hc0
 clear hr0 hc0
 have HR1 := zM hr1
 have HC1 := zM hc1
 clear hr1 hc1
 have H : (if (l0.length : Int) = (l1.length : Int) then (aumbryref04_Same.l0 k l0 l1 (l0.length : Int) 0) else (some false)) = some r := h
 clear h
 by_cases c3 : (l0.length : Int) = (l1.length : Int)
 ·
  rw [if_pos c3] at H
  have c3b0 : ((l0.length : Int) == (l1.length : Int)) = true := zG c3
  have c3b1 : ((l0.length : Int) != (l1.length : Int)) = false := zH c3
  have c3b2 : (l0.length == l1.length) = true := by first | simpa using c3 | (simp at c3 ⊢; omega)
  clear c3
  have H' := zM H
  clear H
  go_enter Tryz.func23, Tryz.ntmps23
  go_wp2
  repeat (go_quiet (fail); try go_wp2)
  go_loopg [13] k (fun kq v13 w' => ∃ (x13_1 : Int), v13 = .int .i64 x13_1 ∧ Aside0 (aumbryref04_Same.l0 kq l0 l1 (l0.length : Int) x13_1 = some r) ∧ Aside0 (kq ≤ k) ∧ Drawn0 w w')
  case atStart => exact ⟨(0), zy, H', ⟨Nat.le_refl _⟩, zd⟩
  case round =>
   clear H'
   try clear c1
   try clear c2
   try clear p2
   try clear c3
   try clear c3b0
   try clear c3b1
   try clear c3b2
   obtain ⟨x13_1, rfl, HA, HK1, ⟨m1, rfl⟩⟩ := hrel
   cases gk with
   | zero => exact absurd HA.out (by simp [aumbryref04_Same.l0])
   | succ k1 =>
    have H := HA.out
    clear HA
    simp only [aumbryref04_Same.l0] at H
    by_cases c4 : x13_1 < (l0.length : Int)
    ·
     rw [if_pos c4] at H
     have c4b0 : decide (x13_1 < (l0.length : Int)) = true := zQ c4
     clear c4
     by_cases c5 : 0 ≤ x13_1
     ·
      rw [if_pos c5] at H
      have c5b0 : decide (0 ≤ x13_1) = true := zQ c5
      clear c5
      by_cases c6 : x13_1 < (l0.length : Int)
      ·
       rw [if_pos c6] at H
       have c6b0 : decide (x13_1 < (l0.length : Int)) = true := zQ c6
       clear c6
       by_cases c7 : x13_1 < (l1.length : Int)
       ·
        rw [if_pos c7] at H
        have c7b0 : decide (x13_1 < (l1.length : Int)) = true := zQ c7
        clear c7
        by_cases c8 : (!((((rd_T48 l0 x13_1).f0).toList) == (((rd_T48 l1 x13_1).f0).toList)) || (!(((rd_T48 l0 x13_1).f1) == ((rd_T48 l1 x13_1).f1)))) = true
        ·
         rw [if_pos c8] at H
         have c8b0 : (!((((rd_T48 l0 x13_1).f0).toList) == (((rd_T48 l1 x13_1).f0).toList)) || (!(((rd_T48 l0 x13_1).f1) == ((rd_T48 l1 x13_1).f1)))) = true := c8
         clear c8
         obtain rfl := zS H
         have p101 : 0 ≤ (x13_1 : Int) := zT zv
         have q101 : x13_1 < (l0.length : Int) := zT zv
         obtain ⟨ad101, e101, hx101_0, hx101_1⟩ := at_T48 HR0.out x13_1 p101 q101
         cases e101
         replace p101 := eq_true p101
         replace q101 := eq_true q101
         have p102 : 0 ≤ (x13_1 : Int) := zT zv
         have q102 : x13_1 < (l1.length : Int) := zT zv
         obtain ⟨ad102, e102, hx102_0, hx102_1⟩ := at_T48 HR1.out x13_1 p102 q102
         cases e102
         replace p102 := eq_true p102
         replace q102 := eq_true q102
         go_wp2
         repeat (go_quiet (fail); try go_wp2)
         go_ret
         exact ⟨zy, zd⟩
        ·
         rw [if_neg c8] at H
         have c8b0 : (!((((rd_T48 l0 x13_1).f0).toList) == (((rd_T48 l1 x13_1).f0).toList)) || (!(((rd_T48 l0 x13_1).f1) == ((rd_T48 l1 x13_1).f1)))) = false := by simpa using c8
         clear c8
         have H' := zM H
         clear H
         have p101 : 0 ≤ (x13_1 : Int) := zT zv
         have q101 : x13_1 < (l0.length : Int) := zT zv
         obtain ⟨ad101, e101, hx101_0, hx101_1⟩ := at_T48 HR0.out x13_1 p101 q101
         cases e101
         replace p101 := eq_true p101
         replace q101 := eq_true q101
         have p102 : 0 ≤ (x13_1 : Int) := zT zv
         have q102 : x13_1 < (l1.length : Int) := zT zv
         obtain ⟨ad102, e102, hx102_0, hx102_1⟩ := at_T48 HR1.out x13_1 p102 q102
         cases e102
         replace p102 := eq_true p102
         replace q102 := eq_true q102
         go_wp2
         repeat (go_quiet (fail); try go_wp2)
         go_roundg k1
         case measure => have := HK1.out; omega
         case rel => exact ⟨(wrap64 (x13_1 + 1)), zy, H', ⟨by have := HK1.out; omega⟩, zd⟩
       ·
        rw [if_neg c7] at H
        exact absurd H (by simp)
      ·
       rw [if_neg c6] at H
       exact absurd H (by simp)
     ·
      rw [if_neg c5] at H
      exact absurd H (by simp)
    ·
     rw [if_neg c4] at H
     have c4b0 : decide (x13_1 < (l0.length : Int)) = false := zR c4
     clear c4
     obtain rfl := zS H
     go_wp2
     repeat (go_quiet (fail); try go_wp2)
     go_ret
     exact ⟨zy, zd⟩
 ·
  rw [if_neg c3] at H
  have c3b0 : ((l0.length : Int) == (l1.length : Int)) = false := zE c3
  have c3b1 : ((l0.length : Int) != (l1.length : Int)) = true := zF c3
  have c3b2 : (l0.length == l1.length) = false := by first | simpa using c3 | (simp at c3 ⊢; omega)
  obtain rfl := zS H
  go_enter Tryz.func23, Tryz.ntmps23
  go_wp2
  repeat (go_quiet (fail); try go_wp2)
  go_ret
  exact ⟨zy, zd⟩


-- ==== PF24

def aumbryref06_Same.f (k : Nat) (a0_0 : Int) (l0_1 : List (S48)) (l0_2 : List (S48)) (a1_0 : Int) (l1_1 : List (S48)) (l1_2 : List (S48)) : Option (Bool) := if a0_0 = a1_0 then ((aumbryref04_Same.f k l0_1 l1_1).bind fun t103 => (if t103 = true then ((aumbryref04_Same.f k l0_2 l1_2).bind fun t104 => (some t104)) else (some false))) else (some false)
theorem aumbryref06_Same.mono : ∀ a0 a1 a2 a3 a4 a5 k, LeO (aumbryref06_Same.f k a0 a1 a2 a3 a4 a5) (aumbryref06_Same.f (k + 1) a0 a1 a2 a3 a4 a5) := by
 intro a0 a1 a2 a3 a4 a5 k
 unfold aumbryref06_Same.f
 repeat' first
  | (with_reducible exact aumbryref04_Same.mono _ _ _)
  | (with_reducible exact LeO.refl _)
  | (with_reducible exact LeO.none _)
  | (with_reducible refine LeO.ite ?_ ?_)
  | (with_reducible refine LeO.bind ?_ (fun _ => ?_))
theorem aumbryref06_Same.calls (k : Nat) (a0_0 : Int) (A0_1 : Option Addr) (c0_1 : Nat) (l0_1 : List (S48)) (A0_2 : Option Addr) (c0_2 : Nat) (l0_2 : List (S48)) (a1_0 : Int) (A1_1 : Option Addr) (c1_1 : Nat) (l1_1 : List (S48)) (A1_2 : Option Addr) (c1_2 : Nat) (l1_2 : List (S48)) (r : Bool) (w : World) (hr0_1 : Kd.C k48 w A0_1 l0_1.length l0_1) (hc0_1 : l0_1.length ≤ c0_1) (hr0_2 : Kd.C k48 w A0_2 l0_2.length l0_2) (hc0_2 : l0_2.length ≤ c0_2) (hr1_1 : Kd.C k48 w A1_1 l1_1.length l1_1) (hc1_1 : l1_1.length ≤ c1_1) (hr1_2 : Kd.C k48 w A1_2 l1_2.length l1_2) (hc1_2 : l1_2.length ≤ c1_2) (h : aumbryref06_Same.f k a0_0 l0_1 l0_2 a1_0 l1_1 l1_2 = some r) :
 Calls Tryz.prog 24 #[.agg #[.int .i64 a0_0, .slice A0_1 l0_1.length c0_1, .slice A0_2 l0_2.length c0_2], .agg #[.int .i64 a1_0, .slice A1_1 l1_1.length c1_1, .slice A1_2 l1_2.length c1_2]] w fun e w' => e = .returned (.bool r) ∧ Below w.heap.size w w' := by
 have hu26 := Tryz.underlying26
 have HR0_1 := zM hr0_1
 have HC0_1 := zM hc0_1
 clear hr0_1 hc0_1
 have HR0_2 := zM hr0_2
 have HC0_2 := zM hc0_2
 clear hr0_2 hc0_2
 have HR1_1 := zM hr1_1
 have HC1_1 := zM hc1_1
 clear hr1_1 hc1_1
 have HR1_2 := zM hr1_2
 have HC1_2 := zM hc1_2
 clear hr1_2 hc1_2
 have HB := zM (Below.refl w.heap.size w)
 have H : (if a0_0 = a1_0 then ((aumbryref04_Same.f k l0_1 l1_1).bind fun t103 => (if t103 = true then ((aumbryref04_Same.f k l0_2 l1_2).bind fun t104 => (some t104)) else (some false))) else (some false)) = some r := h
 clear h
 by_cases c3 : a0_0 = a1_0
 ·
  rw [if_pos c3] at H
  have c3b0 : (a0_0 == a1_0) = true := zG c3
  have c3b1 : (a0_0 != a1_0) = false := zH c3
  clear c3
  replace H := zB H
  obtain ⟨t103, A40, H⟩ := H
  try dsimp only at H
  have A4 := zM A40
  clear A40
  by_cases c5 : t103 = true
  ·
   subst c5
   rw [if_pos rfl] at H
   replace H := zB H
   obtain ⟨t104, A60, H⟩ := H
   try dsimp only at H
   have A6 := zM A60
   clear A60
   obtain rfl := zS H
   go_enter Tryz.func24, Tryz.ntmps24
   go_wp2_with (first | ((with_reducible refine gate_dst (N := 2) rfl ?_); refine box_event ?hg (N := 2) ?hd (cs := #[.int .i64 a0_0, .slice A0_1 l0_1.length c0_1, .slice A0_2 l0_2.length c0_2]) (t := 26) ?hr ?_; (case hd => rfl); (case hg => rfl); (case hr => first | (go_simp; done) | (go_simp; rfl)); intro gb101 hg w7 hbox hb; have BK101 := zM (hbox); have GW101 := zM (zh hg : w.heap.size ≤ gb101); have GE101 := zM (zh hg : w.heap.size ≤ gb101); replace HB := zM (below_step zb hb); clear hb hbox hg) | ((with_reducible refine gate_dst (N := 3) rfl ?_); refine box_event ?hg (N := 3) ?hd (cs := #[.int .i64 a1_0, .slice A1_1 l1_1.length c1_1, .slice A1_2 l1_2.length c1_2]) (t := 26) ?hr ?_; (case hd => rfl); (case hg => rfl); (case hr => first | (go_simp; done) | (go_simp; rfl)); intro gb102 hg w8 hbox hb; have BK102 := zM (hbox); have GW102 := zM (zh hg : w.heap.size ≤ gb102); have GE102 := zM (zh hg : w.heap.size ≤ gb102); replace HB := zM (below_step zb hb); have NB101_102 := zM ((by rw [hg]; exact Nat.ne_of_lt (blk_lt (zk BK101.out)) : gb101 ≠ gb102)); have NB102_101 := zM ((by rw [hg]; exact Nat.ne_of_gt (blk_lt (zk BK101.out)) : gb102 ≠ gb101)); replace BK101 := zM (blk_below (zk BK101.out) hb); clear hb hbox hg; have hnb9 := NB101_102.out; have hnc9 := NB102_101.out; have hcz10_0 : w8.cell? ⟨gb101, 0, none⟩ = some (.int .i64 a0_0) := (zX BK101.out 0).trans rfl; have hcz10_1 : w8.cell? ⟨gb101, 1, none⟩ = some (.slice A0_1 l0_1.length c0_1) := (zX BK101.out 1).trans rfl; have hcz10_2 : w8.cell? ⟨gb101, 2, none⟩ = some (.slice A0_2 l0_2.length c0_2) := (zX BK101.out 2).trans rfl; have hfz10_0 := zY BK101.out 0; have hfz10_1 := zY BK101.out 1; have hfz10_2 := zY BK101.out 2; have hcz11_0 : w8.cell? ⟨gb102, 0, none⟩ = some (.int .i64 a1_0) := (zX BK102.out 0).trans rfl; have hcz11_1 : w8.cell? ⟨gb102, 1, none⟩ = some (.slice A1_1 l1_1.length c1_1) := (zX BK102.out 1).trans rfl; have hcz11_2 : w8.cell? ⟨gb102, 2, none⟩ = some (.slice A1_2 l1_2.length c1_2) := (zX BK102.out 2).trans rfl; have hfz11_0 := zY BK102.out 0; have hfz11_1 := zY BK102.out 1; have hfz11_2 := zY BK102.out 2) | (go_at_call 23; (with_reducible refine (aumbryref04_Same.calls k _ _ l0_1 _ _ l1_1 true _ ?side1 ?side2 ?side3 ?side4 A4.out).mono ?_); (case side1 => exact Kd.C_below HR0_1.out zb); (case side2 => exact HC0_1.out); (case side3 => exact Kd.C_below HR1_1.out zb); (case side4 => exact HC1_1.out); rintro e w' ⟨rfl, ⟨nd, rfl⟩⟩) | (go_at_call 23; (with_reducible refine (aumbryref04_Same.calls k _ _ l0_2 _ _ l1_2 t104 _ ?side1 ?side2 ?side3 ?side4 A6.out).mono ?_); (case side1 => exact Kd.C_below (Kd.C_below HR0_2.out zb) zg); (case side2 => exact HC0_2.out); (case side3 => exact Kd.C_below (Kd.C_below HR1_2.out zb) zg); (case side4 => exact HC1_2.out); rintro e w' ⟨rfl, ⟨nd, rfl⟩⟩))
   go_ret
   exact ⟨zw, zb⟩
  ·
   replace c5 := zI c5
   subst c5
   rw [if_neg (show ¬ (false = true) by decide)] at H
   obtain rfl := zS H
   go_enter Tryz.func24, Tryz.ntmps24
   go_wp2_with (first | ((with_reducible refine gate_dst (N := 2) rfl ?_); refine box_event ?hg (N := 2) ?hd (cs := #[.int .i64 a0_0, .slice A0_1 l0_1.length c0_1, .slice A0_2 l0_2.length c0_2]) (t := 26) ?hr ?_; (case hd => rfl); (case hg => rfl); (case hr => first | (go_simp; done) | (go_simp; rfl)); intro gb101 hg w12 hbox hb; have BK101 := zM (hbox); have GW101 := zM (zh hg : w.heap.size ≤ gb101); have GE101 := zM (zh hg : w.heap.size ≤ gb101); replace HB := zM (below_step zb hb); clear hb hbox hg) | ((with_reducible refine gate_dst (N := 3) rfl ?_); refine box_event ?hg (N := 3) ?hd (cs := #[.int .i64 a1_0, .slice A1_1 l1_1.length c1_1, .slice A1_2 l1_2.length c1_2]) (t := 26) ?hr ?_; (case hd => rfl); (case hg => rfl); (case hr => first | (go_simp; done) | (go_simp; rfl)); intro gb102 hg w13 hbox hb; have BK102 := zM (hbox); have GW102 := zM (zh hg : w.heap.size ≤ gb102); have GE102 := zM (zh hg : w.heap.size ≤ gb102); replace HB := zM (below_step zb hb); have NB101_102 := zM ((by rw [hg]; exact Nat.ne_of_lt (blk_lt (zk BK101.out)) : gb101 ≠ gb102)); have NB102_101 := zM ((by rw [hg]; exact Nat.ne_of_gt (blk_lt (zk BK101.out)) : gb102 ≠ gb101)); replace BK101 := zM (blk_below (zk BK101.out) hb); clear hb hbox hg; have hnb14 := NB101_102.out; have hnc14 := NB102_101.out; have hcz15_0 : w13.cell? ⟨gb101, 0, none⟩ = some (.int .i64 a0_0) := (zX BK101.out 0).trans rfl; have hcz15_1 : w13.cell? ⟨gb101, 1, none⟩ = some (.slice A0_1 l0_1.length c0_1) := (zX BK101.out 1).trans rfl; have hcz15_2 : w13.cell? ⟨gb101, 2, none⟩ = some (.slice A0_2 l0_2.length c0_2) := (zX BK101.out 2).trans rfl; have hfz15_0 := zY BK101.out 0; have hfz15_1 := zY BK101.out 1; have hfz15_2 := zY BK101.out 2; have hcz16_0 : w13.cell? ⟨gb102, 0, none⟩ = some (.int .i64 a1_0) := (zX BK102.out 0).trans rfl; have hcz16_1 : w13.cell? ⟨gb102, 1, none⟩ = some (.slice A1_1 l1_1.length c1_1) := (zX BK102.out 1).trans rfl; have hcz16_2 : w13.cell? ⟨gb102, 2, none⟩ = some (.slice A1_2 l1_2.length c1_2) := (zX BK102.out 2).trans rfl; have hfz16_0 := zY BK102.out 0; have hfz16_1 := zY BK102.out 1; have hfz16_2 := zY BK102.out 2) | (go_at_call 23; (with_reducible refine (aumbryref04_Same.calls k _ _ l0_1 _ _ l1_1 false _ ?side1 ?side2 ?side3 ?side4 A4.out).mono ?_); (case side1 => exact Kd.C_below HR0_1.out zb); (case side2 => exact HC0_1.out); (case side3 => exact Kd.C_below HR1_1.out zb); (case side4 => exact HC1_1.out); rintro e w' ⟨rfl, ⟨nd, rfl⟩⟩))
   go_ret
   exact ⟨zw, zb⟩
 ·
  rw [if_neg c3] at H
  have c3b0 : (a0_0 == a1_0) = false := zE c3
  have c3b1 : (a0_0 != a1_0) = true := zF c3
  obtain rfl := zS H
  go_enter Tryz.func24, Tryz.ntmps24
  go_wp2_with (first | ((with_reducible refine gate_dst (N := 2) rfl ?_); refine box_event ?hg (N := 2) ?hd (cs := #[.int .i64 a0_0, .slice A0_1 l0_1.length c0_1, .slice A0_2 l0_2.length c0_2]) (t := 26) ?hr ?_; (case hd => rfl); (case hg => rfl); (case hr => first | (go_simp; done) | (go_simp; rfl)); intro gb101 hg w17 hbox hb; have BK101 := zM (hbox); have GW101 := zM (zh hg : w.heap.size ≤ gb101); have GE101 := zM (zh hg : w.heap.size ≤ gb101); replace HB := zM (below_step zb hb); clear hb hbox hg) | ((with_reducible refine gate_dst (N := 3) rfl ?_); refine box_event ?hg (N := 3) ?hd (cs := #[.int .i64 a1_0, .slice A1_1 l1_1.length c1_1, .slice A1_2 l1_2.length c1_2]) (t := 26) ?hr ?_; (case hd => rfl); (case hg => rfl); (case hr => first | (go_simp; done) | (go_simp; rfl)); intro gb102 hg w18 hbox hb; have BK102 := zM (hbox); have GW102 := zM (zh hg : w.heap.size ≤ gb102); have GE102 := zM (zh hg : w.heap.size ≤ gb102); replace HB := zM (below_step zb hb); have NB101_102 := zM ((by rw [hg]; exact Nat.ne_of_lt (blk_lt (zk BK101.out)) : gb101 ≠ gb102)); have NB102_101 := zM ((by rw [hg]; exact Nat.ne_of_gt (blk_lt (zk BK101.out)) : gb102 ≠ gb101)); replace BK101 := zM (blk_below (zk BK101.out) hb); clear hb hbox hg; have hnb19 := NB101_102.out; have hnc19 := NB102_101.out; have hcz20_0 : w18.cell? ⟨gb101, 0, none⟩ = some (.int .i64 a0_0) := (zX BK101.out 0).trans rfl; have hcz20_1 : w18.cell? ⟨gb101, 1, none⟩ = some (.slice A0_1 l0_1.length c0_1) := (zX BK101.out 1).trans rfl; have hcz20_2 : w18.cell? ⟨gb101, 2, none⟩ = some (.slice A0_2 l0_2.length c0_2) := (zX BK101.out 2).trans rfl; have hfz20_0 := zY BK101.out 0; have hfz20_1 := zY BK101.out 1; have hfz20_2 := zY BK101.out 2; have hcz21_0 : w18.cell? ⟨gb102, 0, none⟩ = some (.int .i64 a1_0) := (zX BK102.out 0).trans rfl; have hcz21_1 : w18.cell? ⟨gb102, 1, none⟩ = some (.slice A1_1 l1_1.length c1_1) := (zX BK102.out 1).trans rfl; have hcz21_2 : w18.cell? ⟨gb102, 2, none⟩ = some (.slice A1_2 l1_2.length c1_2) := (zX BK102.out 2).trans rfl; have hfz21_0 := zY BK102.out 0; have hfz21_1 := zY BK102.out 1; have hfz21_2 := zY BK102.out 2))
  go_ret
  exact ⟨zw, zb⟩


-- ==== PF28

def aumbryref04_Copy.f (l0 : List (S48)) : Option ((List (S48))) := if ([] : List (S48)).length + l0.length < 5864062014805 then (some (([] : List (S48)) ++ l0)) else (none)
theorem aumbryref04_Copy.calls (A0 : Option Addr) (c0 : Nat) (l0 : List (S48)) (r : List (S48)) (w : World) (hr0 : Kd.C k48 w A0 l0.length l0) (hc0 : l0.length ≤ c0) (h : aumbryref04_Copy.f l0 = some r) :
 Calls Tryz.prog 28 #[.slice A0 l0.length c0] w fun e w' => ∃ v0_ : Value, e = .returned (v0_) ∧ Kd.R k48 48 w' w.heap.size (fun _ => True) v0_ r ∧ Below w.heap.size w w' := by
 have HR0 := zM hr0
 have HC0 := zM hc0
 clear hr0 hc0
 have HB := zM (Below.refl w.heap.size w)
 have H : (if ([] : List (S48)).length + l0.length < 5864062014805 then (some (([] : List (S48)) ++ l0)) else (none)) = some r := h
 clear h
 by_cases c2 : ([] : List (S48)).length + l0.length < 5864062014805
 ·
  rw [if_pos c2] at H
  have LMc2 := zM c2
  clear c2
  obtain ⟨y101, hy101⟩ : ∃ y_ : List (S48), y_ = (([] : List (S48)) ++ l0) := ⟨_, rfl⟩
  replace H : (some y101) = some r := by first | (rw [hy101]; with_reducible exact H) | (have H2_ := (Option.bind_some _ _).symm.trans H; rw [hy101]; with_reducible exact H2_) | (have H2_ := (Option.bind_some _ _).symm.trans H; with_reducible exact H2_) | with_reducible exact H | (rw [hy101]; exact H) | exact H
  have Ny101 := zM hy101
  clear hy101
  obtain rfl := zS H
  go_enter Tryz.func28, Tryz.ntmps28
  go_wp2_with (first | ((with_reducible refine gate_builtin (b := .append) (xs := #[.tmp 4, .tmp 5]) rfl ?_); at_builtin; refine Kd.R_append_rows k48 (w0 := w) w.heap.size rfl (.tmp 4) (.tmp 5) 24 48 (.agg #[(.string ⟨#[]⟩), (.int .i64 0)]) 24 rfl Tryz.underlying24 info48 rfl (by decide) (by omega) (.slice none 0 0) ([] : List (S48)) l0 _ _ _ (fun _ => True) (fun _ => False) rfl rfl ?aO ?aR (fun _ _ h => h) (fun _ h => h.elim) ?aF ?aB ?aS ?aL ?_; (case aR => exact Kd.C_below HR0.out zg); (case aB => exact zb); (case aF => exact (fun _ _ => trivial)); (case aO => exact ((Kd.R_nil _ _ _ _ (fun _ => True)))); (case aS => exact (below_size zb)); (case aL => have := LMc2.out; omega); intro v102 w3 ho hb hg hat; rw [← Ny101.out] at ho; replace HB := zM (hb); have HO103 := zM (ho); clear ho hb hg hat))
  go_ret
  exact ⟨_, zw, zr HO103.out, zb⟩
 ·
  rw [if_neg c2] at H
  exact absurd H (by simp)


-- ==== PF29

def aumbryref06_Copy.f (a0_0 : Int) (l0_1 : List (S48)) (l0_2 : List (S48)) : Option (Int × (List (S48)) × (List (S48))) := (aumbryref04_Copy.f l0_1).bind fun t103 => ((aumbryref04_Copy.f l0_2).bind fun t106 => (some (a0_0, t103, t106)))
def aumbryref06_Copy.T1 : Bool × List (List Nat × List Nat) := (true, [([], []), ([0], [0]), ([], []), ([2], [2]), ([3], [3]), ([], []), ([5], [5]), ([6, 4], [6]), ([1, 4, 7], [1, 4, 7]), ([8, 7, 0, 1, 2, 3, 4, 5, 6, 7, 8], [8])])
def aumbryref06_Copy.B1 : List Nat := [0, 1, 0, 4, 12, 0, 32, 124, 255, 511]
theorem aumbryref06_Copy.tab1 : rtab .any (opsOf Tryz.f29 1) = aumbryref06_Copy.T1 := by kernel_rfl
theorem aumbryref06_Copy.bits1 : waitsOk aumbryref06_Copy.T1.2 aumbryref06_Copy.B1 = true := by kernel_rfl
theorem aumbryref06_Copy.calls (a0_0 : Int) (A0_1 : Option Addr) (c0_1 : Nat) (l0_1 : List (S48)) (A0_2 : Option Addr) (c0_2 : Nat) (l0_2 : List (S48)) (r1 : Int) (r2 : List (S48)) (r3 : List (S48)) (w : World) (hr0_1 : Kd.C k48 w A0_1 l0_1.length l0_1) (hc0_1 : l0_1.length ≤ c0_1) (hr0_2 : Kd.C k48 w A0_2 l0_2.length l0_2) (hc0_2 : l0_2.length ≤ c0_2) (h : aumbryref06_Copy.f a0_0 l0_1 l0_2 = some (r1, r2, r3)) :
 Calls Tryz.prog 29 #[.agg #[.int .i64 a0_0, .slice A0_1 l0_1.length c0_1, .slice A0_2 l0_2.length c0_2]] w fun e w' => ∃ v1_ v2_ : Value, e = .returned (.agg #[.int .i64 r1, v1_, v2_]) ∧ Kd.R k48 48 w' w.heap.size (fun k_ => some k_ ≠ (v2_ : Value).ownBlock) v1_ r2 ∧ Kd.R k48 48 w' w.heap.size (fun k_ => some k_ ≠ (v1_ : Value).ownBlock) v2_ r3 ∧ Below w.heap.size w w' := by
 have hu26 := Tryz.underlying26
 have HR0_1 := zM hr0_1
 have HC0_1 := zM hc0_1
 clear hr0_1 hc0_1
 have HR0_2 := zM hr0_2
 have HC0_2 := zM hc0_2
 clear hr0_2 hc0_2
 have HB := zM (Below.refl w.heap.size w)
 have H : ((aumbryref04_Copy.f l0_1).bind fun t103 => ((aumbryref04_Copy.f l0_2).bind fun t106 => (some (a0_0, t103, t106)))) = some (r1, r2, r3) := h
 clear h
 replace H := zB H
 obtain ⟨t103, A20, H⟩ := H
 try dsimp only at H
 have A2 := zM A20
 clear A20
 replace H := zB H
 obtain ⟨t106, A30, H⟩ := H
 try dsimp only at H
 have A3 := zM A30
 clear A30
 simp only [Option.some.injEq, Prod.mk.injEq] at H
 obtain ⟨rfl, rfl, rfl⟩ := H
 go_enter Tryz.func29, Tryz.ntmps29
 try go_wp2_with (first | ((with_reducible refine gate_dst (N := 1) rfl ?_); refine box_event ?hg (N := 1) ?hd (cs := #[.int .i64 a0_0, .slice A0_1 l0_1.length c0_1, .slice A0_2 l0_2.length c0_2]) (t := 26) ?hr ?_; (case hd => rfl); (case hg => rfl); (case hr => first | (go_simp; done) | (go_simp; rfl)); intro gb101 hg w4 hbox hb; have BK101 := zM (hbox); have GW101 := zM (zh hg : w.heap.size ≤ gb101); have GE101 := zM (zh hg : w.heap.size ≤ gb101); replace HB := zM (below_step zb hb); clear hb hbox hg) | ((with_reducible refine gate_dst (N := 2) rfl ?_); refine box_event ?hg (N := 2) ?hd (cs := #[.int .i64 0, .slice none 0 0, .slice none 0 0]) (t := 26) ?hr ?_; (case hd => rfl); (case hg => rfl); (case hr => first | (go_simp; done) | (go_simp; rfl)); intro gb102 hg w5 hbox hb; have BK102 := zM (hbox); have GW102 := zM (zh hg : w.heap.size ≤ gb102); have GE102 := zM (zh hg : w.heap.size ≤ gb102); replace HB := zM (below_step zb hb); have NB101_102 := zM ((by rw [hg]; exact Nat.ne_of_lt (blk_lt (zk BK101.out)) : gb101 ≠ gb102)); have NB102_101 := zM ((by rw [hg]; exact Nat.ne_of_gt (blk_lt (zk BK101.out)) : gb102 ≠ gb101)); replace BK101 := zM (blk_below (zk BK101.out) hb); clear hb hbox hg))
 have n0_ := zM (blk_drew BK101.out)
 have n1_ := zM (blk_drew BK102.out)
 have n2_ := zM (zD HB.out)
 clear BK101
 clear BK102
 clear HB
 have BK101 := n0_
 have BK102 := n1_
 have HB := n2_
 clear n0_ n1_ n2_
 refine start_ (n := 10) (S := fun w' => w'.cell? ⟨gb101, 0, none⟩ = some (.int .i64 a0_0) ∧ w'.cell? ⟨gb101, 1, none⟩ = some (.slice A0_1 l0_1.length c0_1) ∧ w'.cell? ⟨gb101, 2, none⟩ = some (.slice A0_2 l0_2.length c0_2)) (ds := []) #[false, false, false, false, false, false, false, false, false, false] (by kernel_rfl) rfl rfl ⟨(zX BK101.out 0).trans rfl, (zX BK101.out 1).trans rfl, (zX BK101.out 2).trans rfl⟩ (fun hHeld => ?_); refine with_tabW aumbryref06_Copy.tab1 aumbryref06_Copy.bits1 (fun HT_ HW_ => ?_)
 generalize w5.drew = w6 at BK101 BK102 HB hHeld ⊢
 refine pure_ (i := 0) (N := some 3) (v := ?_) (a' := ?_) #[true, false, false, false, false, false, false, false, false, false] rfl rfl (any_of HT_.out (by kernel_rfl)) (fun _ _ _ h => h) (Or.inl ⟨by rfl, ?_⟩) ?_ ?_
 rotate_left
 ·
  intro w'
  go_simp
  with_reducible rfl
 rotate_left
 ·
  simp only [Act.put, zp1, zp2, zp3, i64_w, i32_w]
  rfl
 refine pure_ (i := 2) (N := some 5) (v := ?_) (a' := ?_) #[true, false, true, false, false, false, false, false, false, false] rfl rfl (any_of HT_.out (by kernel_rfl)) (fun _ _ _ h => h) (Or.inl ⟨by rfl, ?_⟩) ?_ ?_
 rotate_left
 ·
  intro w'
  go_simp
  with_reducible rfl
 rotate_left
 ·
  simp only [Act.put, zp1, zp2, zp3, i64_w, i32_w]
  rfl
 refine pure_ (i := 5) (N := some 8) (v := ?_) (a' := ?_) #[true, false, true, false, false, true, false, false, false, false] rfl rfl (any_of HT_.out (by kernel_rfl)) (fun _ _ _ h => h) (Or.inl ⟨by rfl, ?_⟩) ?_ ?_
 rotate_left
 ·
  intro w'
  go_simp
  with_reducible rfl
 rotate_left
 ·
  simp only [Act.put, zp1, zp2, zp3, i64_w, i32_w]
  rfl
 refine take_ (i := 1) (N := some 4) (v := ?_) (a' := ?_) #[true, true, true, false, false, true, false, false, false, false] rfl rfl (take_ofW HT_.out HW_.out (by kernel_rfl)) (fun _ _ _ h => h) (Or.inl ⟨by rfl, ?_⟩) hHeld ?_ ?_
 rotate_left
 ·
  rintro w' ⟨s0, s1, s2⟩
  go_simp
  with_reducible rfl
 rotate_left
 ·
  simp only [Act.put, zp1, zp2, zp3, i64_w, i32_w]
  rfl
 refine take_ (i := 3) (N := some 6) (v := ?_) (a' := ?_) #[true, true, true, true, false, true, false, false, false, false] rfl rfl (take_ofW HT_.out HW_.out (by kernel_rfl)) (fun _ _ _ h => h) (Or.inl ⟨by rfl, ?_⟩) hHeld ?_ ?_
 rotate_left
 ·
  rintro w' ⟨s0, s1, s2⟩
  go_simp
  with_reducible rfl
 rotate_left
 ·
  simp only [Act.put, zp1, zp2, zp3, i64_w, i32_w]
  rfl
 refine take_ (i := 6) (N := some 9) (v := ?_) (a' := ?_) #[true, true, true, true, false, true, true, false, false, false] rfl rfl (take_ofW HT_.out HW_.out (by kernel_rfl)) (fun _ _ _ h => h) (Or.inl ⟨by rfl, ?_⟩) hHeld ?_ ?_
 rotate_left
 ·
  rintro w' ⟨s0, s1, s2⟩
  go_simp
  with_reducible rfl
 rotate_left
 ·
  simp only [Act.put, zp1, zp2, zp3, i64_w, i32_w]
  rfl
 refine one_ (i := 4) (N := some 7) #[true, true, true, true, true, true, true, false, false, false] rfl rfl (one_of HT_.out (by kernel_rfl)) (by decide) (fun K hK => ?_)
 refine goes_ Tryz.func28 (by kernel_rfl) rfl #[.slice A0_1 l0_1.length c0_1] (by rfl) rfl rfl zl ?_
 with_reducible refine (aumbryref04_Copy.calls _ _ l0_1 t103 _ ?side1 ?side2 A2.out).mono ?_
 (case side1 => exact Kd.C_below HR0_1.out zb)
 (case side2 => exact HC0_1.out)
 rintro e w7 ⟨v104, rfl, ho0, hb⟩
 refine ⟨_, rfl, ?_⟩
 have n0_ := zM (Kd.R_lower ho0 (below_size zb))
 have n1_ := zM (blk_below (zk BK101.out) hb)
 have n2_ := zM (blk_below (zk BK102.out) hb)
 have n3_ := zM (below_step zb hb)
 clear BK101
 clear BK102
 clear HB
 have HO105 := n0_
 have BK101 := n1_
 have BK102 := n2_
 have HB := n3_
 clear n0_ n1_ n2_ n3_
 (try clear hb)
 (try clear hb2)
 (try clear hk)
 (try clear hi)
 (try clear ho0)
 refine hK.out _ _ ⟨(zX BK101.out 0).trans rfl, (zX BK101.out 1).trans rfl, (zX BK101.out 2).trans rfl⟩ (fun hHeld => ?_)
 clear hK K
 refine norm_ (a' := ?_) ?_ ?_
 rotate_left
 ·
  show Act.put _ (some 7) _ = _
  simp only [Act.put, zp1, zp2, zp3, i64_w, i32_w]
  rfl
 refine one_ (i := 7) (N := some 10) #[true, true, true, true, true, true, true, true, false, false] rfl rfl (one_of HT_.out (by kernel_rfl)) (by decide) (fun K hK => ?_)
 refine goes_ Tryz.func28 (by kernel_rfl) rfl #[.slice A0_2 l0_2.length c0_2] (by rfl) rfl rfl zl ?_
 with_reducible refine (aumbryref04_Copy.calls _ _ l0_2 t106 _ ?side1 ?side2 A3.out).mono ?_
 (case side1 => exact Kd.C_below HR0_2.out zb)
 (case side2 => exact HC0_2.out)
 rintro e w8 ⟨v107, rfl, ho0, hb⟩
 refine ⟨_, rfl, ?_⟩
 have n0_ := zM (Kd.R_elder' (zr HO105.out) (Kd.R_base ho0) hb)
 have n1_ := zM (Kd.R_lower (Kd.R_new' ho0 (Kd.R_lt (zr HO105.out))) (below_size zb))
 have n2_ := zM (blk_below (zk BK101.out) hb)
 have n3_ := zM (blk_below (zk BK102.out) hb)
 have n4_ := zM (below_step zb hb)
 clear HO105
 clear BK101
 clear BK102
 clear HB
 have HO105 := n0_
 have HO108 := n1_
 have BK101 := n2_
 have BK102 := n3_
 have HB := n4_
 clear n0_ n1_ n2_ n3_ n4_
 (try clear hb)
 (try clear hb2)
 (try clear hk)
 (try clear hi)
 (try clear ho0)
 obtain ⟨Ao9, co9, eo9⟩ := Kd.R_slice HO108.out
 (first | subst eo9 | (injection eo9 with f1_ f2_ f3_; have f4_ := f1_.symm; have f5_ := f3_.symm; clear f1_ f2_ f3_; subst f4_; subst f5_))
 obtain ⟨Ao10, co10, eo10⟩ := Kd.R_slice HO105.out
 (first | subst eo10 | (injection eo10 with f1_ f2_ f3_; have f4_ := f1_.symm; have f5_ := f3_.symm; clear f1_ f2_ f3_; subst f4_; subst f5_))
 refine hK.out _ _ ⟨(zX BK101.out 0).trans rfl, (zX BK101.out 1).trans rfl, (zX BK101.out 2).trans rfl⟩ (fun hHeld => ?_)
 clear hK K
 refine norm_ (a' := ?_) ?_ ?_
 rotate_left
 ·
  show Act.put _ (some 10) _ = _
  simp only [Act.put, zp1, zp2, zp3, i64_w, i32_w]
  rfl
 refine pure_ (i := 8) (N := some 11) (v := ?_) (a' := ?_) #[true, true, true, true, true, true, true, true, true, false] rfl rfl (any_of HT_.out (by kernel_rfl)) (fun _ _ _ h => h) (Or.inl ⟨by rfl, ?_⟩) ?_ ?_
 rotate_left
 ·
  intro w'
  go_simp
  with_reducible rfl
 rotate_left
 ·
  simp only [Act.put, zp1, zp2, zp3, i64_w, i32_w]
  rfl
 refine one_ (i := 9) (N := none) #[true, true, true, true, true, true, true, true, true, true] rfl rfl (one_of HT_.out (by kernel_rfl)) (by decide) (fun K hK => ?_)
 have hs11 : w8.cell? ⟨gb102, 0, none⟩ = some (.int .i64 0) := (zX BK102.out 0).trans rfl
 have hfs11 := zY BK102.out 0
 have hns11_0 := NB101_102.out
 have hms11_0 := NB102_101.out
 have hs12 : w8.cell? ⟨gb102, 1, none⟩ = some (.slice none 0 0) := (zX BK102.out 1).trans rfl
 have hfs12 := zY BK102.out 1
 have hns12_0 := NB101_102.out
 have hms12_0 := NB102_101.out
 have hs13 : w8.cell? ⟨gb102, 2, none⟩ = some (.slice none 0 0) := (zX BK102.out 2).trans rfl
 have hfs13 := zY BK102.out 2
 have hns13_0 := NB101_102.out
 have hms13_0 := NB102_101.out
 refine skip_ (w1 := ?_) (by rfl) rfl ?_ ?_
 rotate_left
 ·
  go_simp
  rfl
 refine hK.out _ _ ⟨((cell_far (p := ⟨gb102, _, none⟩) NB101_102.out _).trans (((cell_far (p := ⟨gb102, _, none⟩) NB101_102.out _).trans (((cell_far (p := ⟨gb102, _, none⟩) NB101_102.out _).trans (hHeld.1)))))), ((cell_far (p := ⟨gb102, _, none⟩) NB101_102.out _).trans (((cell_far (p := ⟨gb102, _, none⟩) NB101_102.out _).trans (((cell_far (p := ⟨gb102, _, none⟩) NB101_102.out _).trans (hHeld.2.1)))))), ((cell_far (p := ⟨gb102, _, none⟩) NB101_102.out _).trans (((cell_far (p := ⟨gb102, _, none⟩) NB101_102.out _).trans (((cell_far (p := ⟨gb102, _, none⟩) NB101_102.out _).trans (hHeld.2.2))))))⟩ (fun hHeld => ?_)
 clear hK K
 refine done_ (done_of HT_.out (by kernel_rfl)) ?_
 try go_wp2
 refine bodyPost_ret (results_cell_row rfl _ _ gb102 26 #[.int .i64 a0_0, .slice Ao10 t103.length co10, .slice Ao9 t106.length co9] (0, 0) _ rfl (by refine zk ?_; refine blk_put (cs := #[.int .i64 a0_0, .slice Ao10 t103.length co10, .slice none 0 0]) ?_ 2 _ rfl; refine zk ?_; refine blk_put (cs := #[.int .i64 a0_0, .slice none 0 0, .slice none 0 0]) ?_ 1 _ rfl; refine zk ?_; refine blk_put (cs := #[.int .i64 0, .slice none 0 0, .slice none 0 0]) ?_ 0 _ rfl; refine zk ?_; exact BK102.out) Tryz.underlying26 rfl (by kernel_rfl)) rfl ?_
 exact ⟨_, _, zw, by (with_reducible repeat (first | apply Kd.R_alloc | apply Kd.R_drewN | apply Kd.R_drew)); exact Kd.R_mono (Kd.R_far (p := ⟨gb102, 2, none⟩) (Kd.R_far (p := ⟨gb102, 1, none⟩) (Kd.R_far (p := ⟨gb102, 0, none⟩) (Kd.R_types HO105.out BK102.out (by decide)) (fun _ hk => hk.2) (.int .i64 a0_0)) (fun _ hk => hk.2) (.slice Ao10 t103.length co10)) (fun _ hk => hk.2) (.slice Ao9 t106.length co9)) (fun _ hk => hk.1.2), by (with_reducible repeat (first | apply Kd.R_alloc | apply Kd.R_drewN | apply Kd.R_drew)); exact Kd.R_mono (Kd.R_far (p := ⟨gb102, 2, none⟩) (Kd.R_far (p := ⟨gb102, 1, none⟩) (Kd.R_far (p := ⟨gb102, 0, none⟩) (Kd.R_types HO108.out BK102.out (by decide)) (fun _ hk => hk.2) (.int .i64 a0_0)) (fun _ hk => hk.2) (.slice Ao10 t103.length co10)) (fun _ hk => hk.2) (.slice Ao9 t106.length co9)) (fun _ hk => hk.1.2), zb⟩


-- ==== PF48

mutual
def aumbryref03_Kind.j0 : Nat → ByteArray → Bool → Option (Int)
 | 0, _, _ => none
 | k + 1, x0, x15 => if x15 = true then (some 0) else (aumbryref03_Kind.l0 k x0 true true 0)
def aumbryref03_Kind.l0 : Nat → ByteArray → Bool → Bool → Int → Option (Int)
 | 0, _, _, _, _ => none
 | k + 1, x0, x3, x4, x5 => if x5 < (x0.size : Int) then (if 0 ≤ x5 then (if (bt x0 x5) ≥ 48 then (if (bt x0 x5) ≤ 57 then (if x3 = true then (if (bt x0 x5) ≥ 97 then (if (bt x0 x5) ≤ 122 then (if x4 = true then (if (bt x0 x5) ≥ 65 then (if (bt x0 x5) ≤ 90 then (aumbryref03_Kind.l0 k x0 true true (wrap64 (x5 + 1))) else (aumbryref03_Kind.l0 k x0 true (decide (x5 > 0)) (wrap64 (x5 + 1)))) else (aumbryref03_Kind.l0 k x0 true (decide (x5 > 0)) (wrap64 (x5 + 1)))) else (aumbryref03_Kind.l0 k x0 true false (wrap64 (x5 + 1)))) else (if x4 = true then (if (bt x0 x5) ≥ 65 then (if (bt x0 x5) ≤ 90 then (aumbryref03_Kind.l0 k x0 (decide (x5 > 0)) true (wrap64 (x5 + 1))) else (aumbryref03_Kind.l0 k x0 (decide (x5 > 0)) (decide (x5 > 0)) (wrap64 (x5 + 1)))) else (aumbryref03_Kind.l0 k x0 (decide (x5 > 0)) (decide (x5 > 0)) (wrap64 (x5 + 1)))) else (aumbryref03_Kind.l0 k x0 (decide (x5 > 0)) false (wrap64 (x5 + 1))))) else (if x4 = true then (if (bt x0 x5) ≥ 65 then (if (bt x0 x5) ≤ 90 then (aumbryref03_Kind.l0 k x0 (decide (x5 > 0)) true (wrap64 (x5 + 1))) else (aumbryref03_Kind.l0 k x0 (decide (x5 > 0)) (decide (x5 > 0)) (wrap64 (x5 + 1)))) else (aumbryref03_Kind.l0 k x0 (decide (x5 > 0)) (decide (x5 > 0)) (wrap64 (x5 + 1)))) else (aumbryref03_Kind.l0 k x0 (decide (x5 > 0)) false (wrap64 (x5 + 1))))) else (if x4 = true then (if (bt x0 x5) ≥ 65 then (if (bt x0 x5) ≤ 90 then (aumbryref03_Kind.l0 k x0 false true (wrap64 (x5 + 1))) else (aumbryref03_Kind.l0 k x0 false (decide (x5 > 0)) (wrap64 (x5 + 1)))) else (aumbryref03_Kind.l0 k x0 false (decide (x5 > 0)) (wrap64 (x5 + 1)))) else (aumbryref03_Kind.l0 k x0 false false (wrap64 (x5 + 1))))) else (if x3 = true then (if (bt x0 x5) ≥ 97 then (if (bt x0 x5) ≤ 122 then (if x4 = true then (if (bt x0 x5) ≥ 65 then (if (bt x0 x5) ≤ 90 then (aumbryref03_Kind.l0 k x0 true true (wrap64 (x5 + 1))) else (aumbryref03_Kind.l0 k x0 true false (wrap64 (x5 + 1)))) else (aumbryref03_Kind.l0 k x0 true false (wrap64 (x5 + 1)))) else (aumbryref03_Kind.l0 k x0 true false (wrap64 (x5 + 1)))) else (if x4 = true then (if (bt x0 x5) ≥ 65 then (if (bt x0 x5) ≤ 90 then (aumbryref03_Kind.l0 k x0 false true (wrap64 (x5 + 1))) else (aumbryref03_Kind.l0 k x0 false false (wrap64 (x5 + 1)))) else (aumbryref03_Kind.l0 k x0 false false (wrap64 (x5 + 1)))) else (aumbryref03_Kind.l0 k x0 false false (wrap64 (x5 + 1))))) else (if x4 = true then (if (bt x0 x5) ≥ 65 then (if (bt x0 x5) ≤ 90 then (aumbryref03_Kind.l0 k x0 false true (wrap64 (x5 + 1))) else (aumbryref03_Kind.l0 k x0 false false (wrap64 (x5 + 1)))) else (aumbryref03_Kind.l0 k x0 false false (wrap64 (x5 + 1)))) else (aumbryref03_Kind.l0 k x0 false false (wrap64 (x5 + 1))))) else (if x4 = true then (if (bt x0 x5) ≥ 65 then (if (bt x0 x5) ≤ 90 then (aumbryref03_Kind.l0 k x0 false true (wrap64 (x5 + 1))) else (aumbryref03_Kind.l0 k x0 false false (wrap64 (x5 + 1)))) else (aumbryref03_Kind.l0 k x0 false false (wrap64 (x5 + 1)))) else (aumbryref03_Kind.l0 k x0 false false (wrap64 (x5 + 1)))))) else (if x3 = true then (if (bt x0 x5) ≥ 97 then (if (bt x0 x5) ≤ 122 then (if x4 = true then (if (bt x0 x5) ≥ 65 then (if (bt x0 x5) ≤ 90 then (aumbryref03_Kind.l0 k x0 true true (wrap64 (x5 + 1))) else (aumbryref03_Kind.l0 k x0 true false (wrap64 (x5 + 1)))) else (aumbryref03_Kind.l0 k x0 true false (wrap64 (x5 + 1)))) else (aumbryref03_Kind.l0 k x0 true false (wrap64 (x5 + 1)))) else (if x4 = true then (if (bt x0 x5) ≥ 65 then (if (bt x0 x5) ≤ 90 then (aumbryref03_Kind.l0 k x0 false true (wrap64 (x5 + 1))) else (aumbryref03_Kind.l0 k x0 false false (wrap64 (x5 + 1)))) else (aumbryref03_Kind.l0 k x0 false false (wrap64 (x5 + 1)))) else (aumbryref03_Kind.l0 k x0 false false (wrap64 (x5 + 1))))) else (if x4 = true then (if (bt x0 x5) ≥ 65 then (if (bt x0 x5) ≤ 90 then (aumbryref03_Kind.l0 k x0 false true (wrap64 (x5 + 1))) else (aumbryref03_Kind.l0 k x0 false false (wrap64 (x5 + 1)))) else (aumbryref03_Kind.l0 k x0 false false (wrap64 (x5 + 1)))) else (aumbryref03_Kind.l0 k x0 false false (wrap64 (x5 + 1))))) else (if x4 = true then (if (bt x0 x5) ≥ 65 then (if (bt x0 x5) ≤ 90 then (aumbryref03_Kind.l0 k x0 false true (wrap64 (x5 + 1))) else (aumbryref03_Kind.l0 k x0 false false (wrap64 (x5 + 1)))) else (aumbryref03_Kind.l0 k x0 false false (wrap64 (x5 + 1)))) else (aumbryref03_Kind.l0 k x0 false false (wrap64 (x5 + 1)))))) else (none)) else (if x3 = true then (some 1) else (if x4 = true then (some 2) else (some 0)))
end
def aumbryref03_Kind.f (k : Nat) (a0 : ByteArray) : Option (Int) := if (a0.size : Int) < 1 then (aumbryref03_Kind.j0 k a0 true) else (aumbryref03_Kind.j0 k a0 (decide ((a0.size : Int) > 8)))
theorem aumbryref03_Kind.mono_l : ∀ k, (∀ y0 y1, LeO (aumbryref03_Kind.j0 k y0 y1) (aumbryref03_Kind.j0 (k + 1) y0 y1)) ∧ (∀ y0 y1 y2 y3, LeO (aumbryref03_Kind.l0 k y0 y1 y2 y3) (aumbryref03_Kind.l0 (k + 1) y0 y1 y2 y3))
 | 0 => ⟨fun _ _ r h => by simp [aumbryref03_Kind.j0] at h, fun _ _ _ _ r h => by simp [aumbryref03_Kind.l0] at h⟩
 | k + 1 => by
  obtain ⟨ih0, ih1⟩ := aumbryref03_Kind.mono_l k
  refine ⟨?_, ?_⟩
  ·
   intro y0 y1
   unfold aumbryref03_Kind.j0
   repeat' first
   | (with_reducible exact ih0 _ _)
   | (with_reducible exact ih1 _ _ _ _)
   | (with_reducible exact LeO.refl _)
   | (with_reducible exact LeO.none _)
   | (with_reducible refine LeO.ite ?_ ?_)
   | (with_reducible refine LeO.bind ?_ (fun _ => ?_))
  ·
   intro y0 y1 y2 y3
   unfold aumbryref03_Kind.l0
   repeat' first
   | (with_reducible exact ih0 _ _)
   | (with_reducible exact ih1 _ _ _ _)
   | (with_reducible exact LeO.refl _)
   | (with_reducible exact LeO.none _)
   | (with_reducible refine LeO.ite ?_ ?_)
   | (with_reducible refine LeO.bind ?_ (fun _ => ?_))
theorem aumbryref03_Kind.mono : ∀ a0 k, LeO (aumbryref03_Kind.f k a0) (aumbryref03_Kind.f (k + 1) a0) := by
 intro a0 k
 obtain ⟨ih0, ih1⟩ := aumbryref03_Kind.mono_l k
 unfold aumbryref03_Kind.f
 repeat' first
  | (with_reducible exact ih0 _ _)
  | (with_reducible exact ih1 _ _ _ _)
  | (with_reducible exact LeO.refl _)
  | (with_reducible exact LeO.none _)
  | (with_reducible refine LeO.ite ?_ ?_)
  | (with_reducible refine LeO.bind ?_ (fun _ => ?_))
theorem aumbryref03_Kind.calls (k : Nat) (a0 : ByteArray) (r : Int) (w : World) (h : aumbryref03_Kind.f k a0 = some r) :
 Calls Tryz.prog 48 #[.string a0] w fun e w' => e = .returned (.int .i64 r) ∧ Drawn0 w w' := by
 have H : (if (a0.size : Int) < 1 then (aumbryref03_Kind.j0 k a0 true) else (aumbryref03_Kind.j0 k a0 (decide ((a0.size : Int) > 8)))) = some r := h
 clear h
 cases k with
 | zero => exact absurd H (by by_cases c : (a0.size : Int) < 1 <;> simp [aumbryref03_Kind.j0, c])
 | succ k =>
 simp only [aumbryref03_Kind.j0] at H
 by_cases c1 : (a0.size : Int) < 1
 ·
  rw [if_pos c1] at H
  simp only [if_true] at H
  obtain rfl := zS H
  have d1 : decide ((a0.size : Int) < 1) = true := zQ c1
  have d2 : decide (a0.size < 1) = true := zQ (by omega)
  go_enter Tryz.func48, Tryz.ntmps48
  go_wp2
  go_ret
  exact ⟨rfl, zd⟩
 rw [if_neg c1] at H
 have d1 : decide ((a0.size : Int) < 1) = false := zR c1
 have d2 : decide (a0.size < 1) = false := zR (by omega)
 by_cases c2 : (a0.size : Int) > 8
 ·
  rw [if_pos (zQ c2)] at H
  obtain rfl := zS H
  have d3 : decide ((a0.size : Int) > 8) = true := zQ c2
  have d4 : decide (8 < a0.size) = true := zQ (by omega)
  go_enter Tryz.func48, Tryz.ntmps48
  go_wp2
  go_ret
  exact ⟨rfl, zd⟩
 rw [if_neg (by simpa using c2)] at H
 have d3 : decide ((a0.size : Int) > 8) = false := zR c2
 have d4 : decide (8 < a0.size) = false := zR (by omega)
 have HA := zM H
 clear H
 go_enter Tryz.func48, Tryz.ntmps48
 go_wp2
 clear d1 d2 d3 d4
 go_loopg [3, 4, 5] a0.size (fun kq v3 v4 v5 w' => ∃ (x3 x4 : Bool) (x5 : Int) (kk : Nat), v3 = .bool x3 ∧ v4 = .bool x4 ∧ v5 = .int .i64 x5 ∧ Aside0 (0 ≤ x5 ∧ x5 + kq = (a0.size : Int)) ∧ Aside0 (aumbryref03_Kind.l0 kk a0 x3 x4 x5 = some r) ∧ Drawn0 w w')
 case atStart => exact ⟨true, true, 0, k, rfl, rfl, rfl, ⟨by omega⟩, HA, zd⟩
 case round =>
  clear HA
  obtain ⟨x3, x4, x5, kk, rfl, rfl, rfl, HX, HA, ⟨m2, rfl⟩⟩ := hrel
  cases kk with
  | zero => exact absurd HA.out (by simp [aumbryref03_Kind.l0])
  | succ kk =>
  have H := HA.out
  simp only [aumbryref03_Kind.l0] at H
  clear HA
  cases gk with
  | succ k2 =>
   have hi : 0 ≤ x5 ∧ x5 < (a0.size : Int) := by have := HX.out; omega
   rw [if_pos hi.2, if_pos hi.1] at H
   have hx7 := bt_at a0 x5
   have p7 : (0 ≤ x5) = True := eq_true hi.1
   have q7 : (x5 < (a0.size : Int)) = True := eq_true hi.2
   have q8 : decide (x5 < (a0.size : Int)) = true := zQ hi.2
   have cls : bt a0 x5 < 48 ∨ (48 ≤ bt a0 x5 ∧ bt a0 x5 ≤ 57) ∨ (57 < bt a0 x5 ∧ bt a0 x5 < 65) ∨ (65 ≤ bt a0 x5 ∧ bt a0 x5 ≤ 90) ∨ (90 < bt a0 x5 ∧ bt a0 x5 < 97) ∨ (97 ≤ bt a0 x5 ∧ bt a0 x5 ≤ 122) ∨ 122 < bt a0 x5 := by omega
   have hup : wrap64 (x5 + 1) = x5 + 1 := by have := HX.out; have := c2; unfold wrap64; omega
   rcases cls with h | h | h | h | h | h | h
   all_goals
    (first | have d1 : decide (48 ≤ bt a0 x5) = true := zQ (by omega) | have d1 : decide (48 ≤ bt a0 x5) = false := zR (by omega))
    (first | have d2 : decide (bt a0 x5 ≤ 57) = true := zQ (by omega) | have d2 : decide (bt a0 x5 ≤ 57) = false := zR (by omega))
    (first | have d3 : decide (97 ≤ bt a0 x5) = true := zQ (by omega) | have d3 : decide (97 ≤ bt a0 x5) = false := zR (by omega))
    (first | have d4 : decide (bt a0 x5 ≤ 122) = true := zQ (by omega) | have d4 : decide (bt a0 x5 ≤ 122) = false := zR (by omega))
    (first | have d5 : decide (65 ≤ bt a0 x5) = true := zQ (by omega) | have d5 : decide (65 ≤ bt a0 x5) = false := zR (by omega))
    (first | have d6 : decide (bt a0 x5 ≤ 90) = true := zQ (by omega) | have d6 : decide (bt a0 x5 ≤ 90) = false := zR (by omega))
    (first | rw [if_pos (show bt a0 x5 ≥ 48 by omega)] at H | rw [if_neg (show ¬ bt a0 x5 ≥ 48 by omega)] at H)
    (try (first | rw [if_pos (show bt a0 x5 ≤ 57 by omega)] at H | rw [if_neg (show ¬ bt a0 x5 ≤ 57 by omega)] at H))
    (try (first | (have e3 : (bt a0 x5 ≥ 97) = True := eq_true (by omega); simp only [e3, if_true] at H; clear e3) | (have e3 : (bt a0 x5 ≥ 97) = False := eq_false (by omega); simp only [e3, if_false] at H; clear e3)))
    (try (first | (have e4 : (bt a0 x5 ≤ 122) = True := eq_true (by omega); simp only [e4, if_true] at H; clear e4) | (have e4 : (bt a0 x5 ≤ 122) = False := eq_false (by omega); simp only [e4, if_false] at H; clear e4)))
    (try (first | (have e5 : (bt a0 x5 ≥ 65) = True := eq_true (by omega); simp only [e5, if_true] at H; clear e5) | (have e5 : (bt a0 x5 ≥ 65) = False := eq_false (by omega); simp only [e5, if_false] at H; clear e5)))
    (try (first | (have e6 : (bt a0 x5 ≤ 90) = True := eq_true (by omega); simp only [e6, if_true] at H; clear e6) | (have e6 : (bt a0 x5 ≤ 90) = False := eq_false (by omega); simp only [e6, if_false] at H; clear e6)))
    clear h
    cases x3 <;> cases x4 <;> simp only [if_true, if_false, Bool.false_eq_true] at H
    all_goals
     go_wp2
     go_roundg k2
     case measure => have := HX.out; omega
     case rel => exact ⟨_, _, _, kk, zy, zy, zy, ⟨by rw [hup]; have := HX.out; omega⟩, ⟨H⟩, zd⟩
  | zero =>
   have hx : x5 = (a0.size : Int) := by have := HX.out; omega
   subst hx
   rw [if_neg (by omega)] at H
   have q8 : decide ((a0.size : Int) < (a0.size : Int)) = false := zR (by omega)
   cases x3 <;> cases x4 <;> simp only [if_true, if_false, Bool.false_eq_true] at H
   all_goals
    obtain rfl := zS H
    go_wp2
    go_ret
    exact ⟨rfl, zd⟩


-- ==== PF77

mutual
def aumbryref03_Number.j0 : Nat → ByteArray → Int → Bool → Option (Int × Int)
 | 0, _, _, _ => none
 | k + 1, x0, x4, x14 => if x14 = true then (aumbryref03_Number.j1 k x0 1) else (aumbryref03_Number.j1 k x0 x4)
def aumbryref03_Number.j1 : Nat → ByteArray → Int → Option (Int × Int)
 | 0, _, _ => none
 | k + 1, x0, x4 => if (x0.size : Int) = x4 then (aumbryref03_Number.j2 k x0 x4 true) else (if (wrap64 ((x0.size : Int) - x4)) > 19 then (aumbryref03_Number.j2 k x0 x4 true) else (if 0 ≤ x4 then (if x4 < (x0.size : Int) then (if (bt x0 x4) = 48 then (aumbryref03_Number.j2 k x0 x4 (decide ((x0.size : Int) > 1))) else (aumbryref03_Number.j2 k x0 x4 false)) else (none)) else (none)))
def aumbryref03_Number.j2 : Nat → ByteArray → Int → Bool → Option (Int × Int)
 | 0, _, _, _ => none
 | k + 1, x0, x4, x36 => if x36 = true then (some (0, 13)) else (aumbryref03_Number.l0 k x0 x4 0 x4)
def aumbryref03_Number.l0 : Nat → ByteArray → Int → Int → Int → Option (Int × Int)
 | 0, _, _, _, _ => none
 | k + 1, x0, x4, x5, x6 => if x6 < (x0.size : Int) then (if 0 ≤ x6 then (if (bt x0 x6) < 48 then (some (0, 13)) else (if (bt x0 x6) > 57 then (some (0, 13)) else (aumbryref03_Number.l0 k x0 x4 (IntKind.u64.wrap ((IntKind.u64.wrap (x5 * 10)) + (((bt x0 x6) - 48) % 256))) (wrap64 (x6 + 1))))) else (none)) else (if x5 > 9223372036854775808 then (aumbryref03_Number.j4 k x4 x5 true) else (if x5 = 9223372036854775808 then (aumbryref03_Number.j4 k x4 x5 (x4 == 0)) else (aumbryref03_Number.j4 k x4 x5 false)))
def aumbryref03_Number.j4 : Nat → Int → Int → Bool → Option (Int × Int)
 | 0, _, _, _ => none
 | k + 1, x4, x5, x71 => if x71 = true then (some (0, 13)) else (if x4 = 1 then (some (wrap64 ((wrap64 (-(wrap64 (IntKind.u64.wrap (x5 - 1))))) - 1), 0)) else (some (wrap64 (x5), 0)))
end
def aumbryref03_Number.f (k : Nat) (a0 : ByteArray) : Option (Int × Int) := if (a0.size : Int) > 0 then (if 0 < (a0.size : Int) then (aumbryref03_Number.j0 k a0 0 ((bt a0 0) == 45)) else (none)) else (aumbryref03_Number.j0 k a0 0 false)
theorem aumbryref03_Number.mono_l : ∀ k, (∀ y0 y1 y2, LeO (aumbryref03_Number.j0 k y0 y1 y2) (aumbryref03_Number.j0 (k + 1) y0 y1 y2)) ∧ (∀ y0 y1, LeO (aumbryref03_Number.j1 k y0 y1) (aumbryref03_Number.j1 (k + 1) y0 y1)) ∧ (∀ y0 y1 y2, LeO (aumbryref03_Number.j2 k y0 y1 y2) (aumbryref03_Number.j2 (k + 1) y0 y1 y2)) ∧ (∀ y0 y1 y2 y3, LeO (aumbryref03_Number.l0 k y0 y1 y2 y3) (aumbryref03_Number.l0 (k + 1) y0 y1 y2 y3)) ∧ (∀ y0 y1 y2, LeO (aumbryref03_Number.j4 k y0 y1 y2) (aumbryref03_Number.j4 (k + 1) y0 y1 y2))
 | 0 => ⟨fun _ _ _ r h => by simp [aumbryref03_Number.j0] at h, fun _ _ r h => by simp [aumbryref03_Number.j1] at h, fun _ _ _ r h => by simp [aumbryref03_Number.j2] at h, fun _ _ _ _ r h => by simp [aumbryref03_Number.l0] at h, fun _ _ _ r h => by simp [aumbryref03_Number.j4] at h⟩
 | k + 1 => by
  obtain ⟨ih0, ih1, ih2, ih3, ih4⟩ := aumbryref03_Number.mono_l k
  refine ⟨?_, ?_, ?_, ?_, ?_⟩
  ·
   intro y0 y1 y2
   unfold aumbryref03_Number.j0
   repeat' first
   | (with_reducible exact ih0 _ _ _)
   | (with_reducible exact ih1 _ _)
   | (with_reducible exact ih2 _ _ _)
   | (with_reducible exact ih3 _ _ _ _)
   | (with_reducible exact ih4 _ _ _)
   | (with_reducible exact LeO.refl _)
   | (with_reducible exact LeO.none _)
   | (with_reducible refine LeO.ite ?_ ?_)
   | (with_reducible refine LeO.bind ?_ (fun _ => ?_))
  ·
   intro y0 y1
   unfold aumbryref03_Number.j1
   repeat' first
   | (with_reducible exact ih0 _ _ _)
   | (with_reducible exact ih1 _ _)
   | (with_reducible exact ih2 _ _ _)
   | (with_reducible exact ih3 _ _ _ _)
   | (with_reducible exact ih4 _ _ _)
   | (with_reducible exact LeO.refl _)
   | (with_reducible exact LeO.none _)
   | (with_reducible refine LeO.ite ?_ ?_)
   | (with_reducible refine LeO.bind ?_ (fun _ => ?_))
  ·
   intro y0 y1 y2
   unfold aumbryref03_Number.j2
   repeat' first
   | (with_reducible exact ih0 _ _ _)
   | (with_reducible exact ih1 _ _)
   | (with_reducible exact ih2 _ _ _)
   | (with_reducible exact ih3 _ _ _ _)
   | (with_reducible exact ih4 _ _ _)
   | (with_reducible exact LeO.refl _)
   | (with_reducible exact LeO.none _)
   | (with_reducible refine LeO.ite ?_ ?_)
   | (with_reducible refine LeO.bind ?_ (fun _ => ?_))
  ·
   intro y0 y1 y2 y3
   unfold aumbryref03_Number.l0
   repeat' first
   | (with_reducible exact ih0 _ _ _)
   | (with_reducible exact ih1 _ _)
   | (with_reducible exact ih2 _ _ _)
   | (with_reducible exact ih3 _ _ _ _)
   | (with_reducible exact ih4 _ _ _)
   | (with_reducible exact LeO.refl _)
   | (with_reducible exact LeO.none _)
   | (with_reducible refine LeO.ite ?_ ?_)
   | (with_reducible refine LeO.bind ?_ (fun _ => ?_))
  ·
   intro y0 y1 y2
   unfold aumbryref03_Number.j4
   repeat' first
   | (with_reducible exact ih0 _ _ _)
   | (with_reducible exact ih1 _ _)
   | (with_reducible exact ih2 _ _ _)
   | (with_reducible exact ih3 _ _ _ _)
   | (with_reducible exact ih4 _ _ _)
   | (with_reducible exact LeO.refl _)
   | (with_reducible exact LeO.none _)
   | (with_reducible refine LeO.ite ?_ ?_)
   | (with_reducible refine LeO.bind ?_ (fun _ => ?_))
theorem aumbryref03_Number.mono : ∀ a0 k, LeO (aumbryref03_Number.f k a0) (aumbryref03_Number.f (k + 1) a0) := by
 intro a0 k
 obtain ⟨ih0, ih1, ih2, ih3, ih4⟩ := aumbryref03_Number.mono_l k
 unfold aumbryref03_Number.f
 repeat' first
  | (with_reducible exact ih0 _ _ _)
  | (with_reducible exact ih1 _ _)
  | (with_reducible exact ih2 _ _ _)
  | (with_reducible exact ih3 _ _ _ _)
  | (with_reducible exact ih4 _ _ _)
  | (with_reducible exact LeO.refl _)
  | (with_reducible exact LeO.none _)
  | (with_reducible refine LeO.ite ?_ ?_)
  | (with_reducible refine LeO.bind ?_ (fun _ => ?_))
theorem aumbryref03_Number.calls (k : Nat) (a0 : ByteArray) (r1 : Int) (r2 : Int) (w : World) (h : aumbryref03_Number.f k a0 = some (r1, r2)) :
 Calls Tryz.prog 77 #[.string a0] w fun e w' => e = .returned (.tuple #[.int .i64 r1, .int .i64 r2]) ∧ Drawn0 w w' := by
 have H : (if (a0.size : Int) > 0 then (if 0 < (a0.size : Int) then (aumbryref03_Number.j0 k a0 0 ((bt a0 0) == 45)) else (none)) else (aumbryref03_Number.j0 k a0 0 false)) = some (r1, r2) := h
 clear h
 have HC2 := zM H
 clear H
 go_enter Tryz.func77, Tryz.ntmps77
 go_upto_region 2 with (fail)
 go_cut [14] (fun v14 wc => ∃ (kq : Nat) (x14_1 : Bool), v14 = .bool x14_1 ∧ Aside0 (aumbryref03_Number.j0 kq a0 0 x14_1 = some (r1, r2)) ∧ Aside0 (kq ≤ k) ∧ Drawn0 w wc)
 case first =>
  have H := HC2.out
  clear HC2
  by_cases c3 : (a0.size : Int) > 0
  ·
   rw [if_pos c3] at H
   have c3b0 : decide (0 < (a0.size : Int)) = true := zQ c3
   have c3b1 : decide (0 < a0.size) = true := zQ (by omega)
   clear c3
   (first | rw [c3b0] | (simp only [i64_w, i32_w]; rw [c3b0]) | skip)
   by_cases c4 : 0 < (a0.size : Int)
   ·
    rw [if_pos c4] at H
    have c4b0 : decide (0 < (a0.size : Int)) = true := zQ c4
    have c4b1 : decide (0 < a0.size) = true := zQ (by omega)
    clear c4
    have H' := zM H
    clear H
    have p5 : 0 ≤ (0 : Int) := (by omega)
    have q5 : 0 < a0.size := (by have : (0 : Int) < (a0.size : Int) := zT zv; omega)
    have hx5 : ∀ h : 0 < a0.size, ((a0[0]'h).toNat : Int) = bt a0 0 := bt_at a0 0
    clear p5
    have qi5 : (0 < (a0.size : Int)) = True := eq_true (zT zv)
    replace q5 := eq_true q5
    go_wp2
    go_meet
    case rel => exact ⟨_, (((bt a0 0) == 45)), zy, H', ⟨by first | omega | exact Nat.le_refl _⟩, zd⟩
   ·
    rw [if_neg c4] at H
    exact absurd H (by simp)
  ·
   rw [if_neg c3] at H
   have c3b0 : decide (0 < (a0.size : Int)) = false := zR c3
   have c3b1 : decide (0 < a0.size) = false := zR (by omega)
   clear c3
   (first | rw [c3b0] | (simp only [i64_w, i32_w]; rw [c3b0]) | skip)
   have H' := zM H
   clear H
   go_wp2
   go_meet
   case rel => exact ⟨_, (false), zy, H', ⟨by first | omega | exact Nat.le_refl _⟩, zd⟩
 case rest =>
  clear HC2
  try clear p2
  try clear c3
  try clear c3b0
  try clear c3b1
  try clear c4
  try clear c4b0
  try clear c4b1
  try clear p5
  try clear q5
  try clear hx5
  try clear qi5
  try clear p5
  try clear q5
  obtain ⟨kq, x14_1, rfl, HA, HJ1, ⟨mc1, rfl⟩⟩ := hcut
  cases kq with
  | zero => exact absurd HA.out (by simp [aumbryref03_Number.j0])
  | succ kj1 =>
   have H := HA.out
   clear HA
   simp only [aumbryref03_Number.j0] at H
   have HC6 := zM H
   clear H
   go_upto_if 14 with (fail)
   go_cut [4] (fun v4 wc => ∃ (kq : Nat) (x4_5 : Int), v4 = .int .i64 x4_5 ∧ Aside0 (aumbryref03_Number.j1 kq a0 x4_5 = some (r1, r2)) ∧ Aside0 (kq ≤ kj1) ∧ Drawn0 w wc)
   case first =>
    have H := HC6.out
    clear HC6
    by_cases c7 : x14_1 = true
    ·
     subst c7
     rw [if_pos rfl] at H
     have H' := zM H
     clear H
     go_wp2
     go_meet
     case rel => exact ⟨_, (1), zy, H', ⟨by have := HJ1.out; first | omega | exact Nat.le_refl _⟩, zd⟩
    ·
     replace c7 := zI c7
     subst c7
     rw [if_neg (show ¬ (false = true) by decide)] at H
     have H' := zM H
     clear H
     go_wp2
     go_meet
     case rel => exact ⟨_, (0), zy, H', ⟨by have := HJ1.out; first | omega | exact Nat.le_refl _⟩, zd⟩
   case rest =>
    clear HC6
    try clear c1
    try clear p2
    try clear c3
    try clear c3b0
    try clear c3b1
    try clear c4
    try clear c4b0
    try clear c4b1
    try clear p5
    try clear q5
    try clear hx5
    try clear qi5
    try clear c7
    try clear p2
    try clear p5
    try clear q5
    obtain ⟨kq, x4_5, rfl, HA, HJ5, ⟨mc5, rfl⟩⟩ := hcut
    cases kq with
    | zero => exact absurd HA.out (by simp [aumbryref03_Number.j1])
    | succ kj5 =>
     have H := HA.out
     clear HA
     simp only [aumbryref03_Number.j1] at H
     have HC8 := zM H
     clear H
     go_upto_region 4 with (fail)
     go_cut [36] (fun v36 wc => ∃ (kq : Nat) (x36_7 : Bool), v36 = .bool x36_7 ∧ Aside0 (aumbryref03_Number.j2 kq a0 x4_5 x36_7 = some (r1, r2)) ∧ Aside0 (kq ≤ kj5) ∧ Drawn0 w wc)
     case first =>
      have H := HC8.out
      clear HC8
      by_cases c9 : (a0.size : Int) = x4_5
      ·
       rw [if_pos c9] at H
       have c9b0 : ((a0.size : Int) == x4_5) = true := zG c9
       have c9b1 : ((a0.size : Int) != x4_5) = false := zH c9
       clear c9
       (first | rw [c9b0] | (simp only [i64_w, i32_w]; rw [c9b0]) | skip)
       have H' := zM H
       clear H
       go_wp2
       go_meet
       case rel => exact ⟨_, (true), zy, H', ⟨by have := HJ1.out; have := HJ5.out; first | omega | exact Nat.le_refl _⟩, zd⟩
      ·
       rw [if_neg c9] at H
       have c9b0 : ((a0.size : Int) == x4_5) = false := zE c9
       have c9b1 : ((a0.size : Int) != x4_5) = true := zF c9
       (first | rw [c9b0] | (simp only [i64_w, i32_w]; rw [c9b0]) | skip)
       by_cases c10 : (wrap64 ((a0.size : Int) - x4_5)) > 19
       ·
        rw [if_pos c10] at H
        have c10b0 : decide (19 < (wrap64 ((a0.size : Int) - x4_5))) = true := zQ c10
        clear c10
        have H' := zM H
        clear H
        go_wp2
        go_meet
        case rel => exact ⟨_, (true), zy, H', ⟨by have := HJ1.out; have := HJ5.out; first | omega | exact Nat.le_refl _⟩, zd⟩
       ·
        rw [if_neg c10] at H
        have c10b0 : decide (19 < (wrap64 ((a0.size : Int) - x4_5))) = false := zR c10
        clear c10
        by_cases c11 : 0 ≤ x4_5
        ·
         rw [if_pos c11] at H
         have c11b0 : decide (0 ≤ x4_5) = true := zQ c11
         clear c11
         by_cases c12 : x4_5 < (a0.size : Int)
         ·
          rw [if_pos c12] at H
          have c12b0 : decide (x4_5 < (a0.size : Int)) = true := zQ c12
          clear c12
          by_cases c14 : (bt a0 x4_5) = 48
          ·
           rw [if_pos c14] at H
           have c14b0 : ((bt a0 x4_5) == 48) = true := zG c14
           have c14b1 : ((bt a0 x4_5) != 48) = false := zH c14
           clear c14
           have H' := zM H
           clear H
           have p13 : 0 ≤ (x4_5 : Int) := zT zv
           have q13 : x4_5 < (a0.size : Int) := zT zv
           have hx13 := bt_at a0 x4_5
           replace p13 := eq_true p13
           replace q13 := eq_true q13
           go_wp2
           go_meet
           case rel => exact ⟨_, (decide ((a0.size : Int) > 1)), zy, H', ⟨by have := HJ1.out; have := HJ5.out; first | omega | exact Nat.le_refl _⟩, zd⟩
          ·
           rw [if_neg c14] at H
           have c14b0 : ((bt a0 x4_5) == 48) = false := zE c14
           have c14b1 : ((bt a0 x4_5) != 48) = true := zF c14
           have H' := zM H
           clear H
           have p13 : 0 ≤ (x4_5 : Int) := zT zv
           have q13 : x4_5 < (a0.size : Int) := zT zv
           have hx13 := bt_at a0 x4_5
           replace p13 := eq_true p13
           replace q13 := eq_true q13
           go_wp2
           go_meet
           case rel => exact ⟨_, (false), zy, H', ⟨by have := HJ1.out; have := HJ5.out; first | omega | exact Nat.le_refl _⟩, zd⟩
         ·
          rw [if_neg c12] at H
          exact absurd H (by simp)
        ·
         rw [if_neg c11] at H
         exact absurd H (by simp)
     case rest =>
      clear HC8
      try clear c1
      try clear p1
      try clear q1
      try clear hx1
      try clear p2
      try clear c3
      try clear c3b0
      try clear c3b1
      try clear c4
      try clear c4b0
      try clear c4b1
      try clear c5
      try clear p5
      try clear q5
      try clear hx5
      try clear qi5
      try clear p6
      try clear c7
      try clear c9
      try clear c9b0
      try clear c9b1
      try clear c10
      try clear c10b0
      try clear c11
      try clear c11b0
      try clear c12
      try clear c12b0
      try clear p13
      try clear q13
      try clear hx13
      try clear c14
      try clear c14b0
      try clear c14b1
      try clear p13
      try clear p2
      try clear p5
      try clear q13
      try clear q5
      obtain ⟨kq, x36_7, rfl, HA, HJ7, ⟨mc7, rfl⟩⟩ := hcut
      cases kq with
      | zero => exact absurd HA.out (by simp [aumbryref03_Number.j2])
      | succ kj7 =>
       have H := HA.out
       clear HA
       simp only [aumbryref03_Number.j2] at H
       by_cases c15 : x36_7 = true
       ·
        subst c15
        rw [if_pos rfl] at H
        simp only [Option.some.injEq, Prod.mk.injEq] at H
        obtain ⟨rfl, rfl⟩ := H
        go_wp2
        go_ret2
        exact ⟨zy, zd⟩
       ·
        replace c15 := zI c15
        subst c15
        rw [if_neg (show ¬ (false = true) by decide)] at H
        have H' := zM H
        clear H
        go_wp2
        go_loopg [5, 6] kj7 (fun kq v5 v6 w' => ∃ (x5_4 : Int) (x6_4 : Int), v5 = .int .u64 x5_4 ∧ v6 = .int .i64 x6_4 ∧ Aside0 (aumbryref03_Number.l0 kq a0 x4_5 x5_4 x6_4 = some (r1, r2)) ∧ Aside0 (kq ≤ kj7) ∧ Drawn0 w w')
        case atStart => exact ⟨(0), (x4_5), zy, zy, H', ⟨Nat.le_refl _⟩, zd⟩
        case round =>
         clear H'
         try clear c1
         try clear p1
         try clear q1
         try clear hx1
         try clear p2
         try clear c3
         try clear c3b0
         try clear c3b1
         try clear c4
         try clear c4b0
         try clear c4b1
         try clear c5
         try clear p5
         try clear q5
         try clear hx5
         try clear qi5
         try clear p6
         try clear c7
         try clear c9
         try clear c9b0
         try clear c9b1
         try clear c10
         try clear c10b0
         try clear c11
         try clear c11b0
         try clear c12
         try clear c12b0
         try clear p13
         try clear q13
         try clear hx13
         try clear c14
         try clear c14b0
         try clear c14b1
         try clear c15
         try clear p1
         try clear p13
         try clear p2
         try clear p5
         try clear p6
         try clear q1
         try clear q13
         try clear q5
         obtain ⟨x5_4, x6_4, rfl, rfl, HA, HK4, ⟨m4, rfl⟩⟩ := hrel
         cases gk with
         | zero => exact absurd HA.out (by simp [aumbryref03_Number.l0])
         | succ k4 =>
          have H := HA.out
          clear HA
          simp only [aumbryref03_Number.l0] at H
          by_cases c16 : x6_4 < (a0.size : Int)
          ·
           rw [if_pos c16] at H
           have c16b0 : decide (x6_4 < (a0.size : Int)) = true := zQ c16
           clear c16
           by_cases c17 : 0 ≤ x6_4
           ·
            rw [if_pos c17] at H
            have c17b0 : decide (0 ≤ x6_4) = true := zQ c17
            clear c17
            by_cases c19 : (bt a0 x6_4) < 48
            ·
             rw [if_pos c19] at H
             have c19b0 : decide ((bt a0 x6_4) < 48) = true := zQ c19
             clear c19
             simp only [Option.some.injEq, Prod.mk.injEq] at H
             obtain ⟨rfl, rfl⟩ := H
             have p18 : 0 ≤ (x6_4 : Int) := zT zv
             have q18 : x6_4 < (a0.size : Int) := zT zv
             have hx18 := bt_at a0 x6_4
             replace p18 := eq_true p18
             replace q18 := eq_true q18
             go_wp2
             go_ret2
             exact ⟨zy, zd⟩
            ·
             rw [if_neg c19] at H
             have c19b0 : decide ((bt a0 x6_4) < 48) = false := zR c19
             clear c19
             by_cases c21 : (bt a0 x6_4) > 57
             ·
              rw [if_pos c21] at H
              have c21b0 : decide (57 < (bt a0 x6_4)) = true := zQ c21
              clear c21
              simp only [Option.some.injEq, Prod.mk.injEq] at H
              obtain ⟨rfl, rfl⟩ := H
              have p18 : 0 ≤ (x6_4 : Int) := zT zv
              have q18 : x6_4 < (a0.size : Int) := zT zv
              have hx18 := bt_at a0 x6_4
              replace p18 := eq_true p18
              replace q18 := eq_true q18
              have p20 : 0 ≤ (x6_4 : Int) := zT zv
              have q20 : x6_4 < (a0.size : Int) := zT zv
              have hx20 := bt_at a0 x6_4
              replace p20 := eq_true p20
              replace q20 := eq_true q20
              go_wp2
              go_ret2
              exact ⟨zy, zd⟩
             ·
              rw [if_neg c21] at H
              have c21b0 : decide (57 < (bt a0 x6_4)) = false := zR c21
              clear c21
              have H' := zM H
              clear H
              have p18 : 0 ≤ (x6_4 : Int) := zT zv
              have q18 : x6_4 < (a0.size : Int) := zT zv
              have hx18 := bt_at a0 x6_4
              replace p18 := eq_true p18
              replace q18 := eq_true q18
              have p20 : 0 ≤ (x6_4 : Int) := zT zv
              have q20 : x6_4 < (a0.size : Int) := zT zv
              have hx20 := bt_at a0 x6_4
              replace p20 := eq_true p20
              replace q20 := eq_true q20
              have p22 : 0 ≤ (x6_4 : Int) := zT zv
              have q22 : x6_4 < (a0.size : Int) := zT zv
              have hx22 := bt_at a0 x6_4
              replace p22 := eq_true p22
              replace q22 := eq_true q22
              go_wp2
              go_roundg k4
              case measure => have := HJ1.out; have := HJ5.out; have := HJ7.out; have := HK4.out; omega
              case rel => exact ⟨(IntKind.u64.wrap ((IntKind.u64.wrap (x5_4 * 10)) + (((bt a0 x6_4) - 48) % 256))), (wrap64 (x6_4 + 1)), zy, zy, H', ⟨by have := HJ1.out; have := HJ5.out; have := HJ7.out; have := HK4.out; omega⟩, zd⟩
           ·
            rw [if_neg c17] at H
            exact absurd H (by simp)
          ·
           rw [if_neg c16] at H
           have c16b0 : decide (x6_4 < (a0.size : Int)) = false := zR c16
           clear c16
           have HC23 := zM H
           clear H
           go_upto_region 13 with (fail)
           go_cut [71] (fun v71 wc => ∃ (kq : Nat) (x71_22 : Bool), v71 = .bool x71_22 ∧ Aside0 (aumbryref03_Number.j4 kq x4_5 x5_4 x71_22 = some (r1, r2)) ∧ Aside0 (kq ≤ k4) ∧ Drawn0 w wc)
           case first =>
            have H := HC23.out
            clear HC23
            by_cases c24 : x5_4 > 9223372036854775808
            ·
             rw [if_pos c24] at H
             have c24b0 : decide (9223372036854775808 < x5_4) = true := zQ c24
             clear c24
             (first | rw [c24b0] | (simp only [i64_w, i32_w]; rw [c24b0]) | skip)
             have H' := zM H
             clear H
             go_wp2
             go_meet
             case rel => exact ⟨_, (true), zy, H', ⟨by have := HJ1.out; have := HJ5.out; have := HJ7.out; have := HK4.out; first | omega | exact Nat.le_refl _⟩, zd⟩
            ·
             rw [if_neg c24] at H
             have c24b0 : decide (9223372036854775808 < x5_4) = false := zR c24
             clear c24
             (first | rw [c24b0] | (simp only [i64_w, i32_w]; rw [c24b0]) | skip)
             by_cases c25 : x5_4 = 9223372036854775808
             ·
              rw [if_pos c25] at H
              have c25b0 : (x5_4 == 9223372036854775808) = true := zG c25
              have c25b1 : (x5_4 != 9223372036854775808) = false := zH c25
              clear c25
              have H' := zM H
              clear H
              go_wp2
              go_meet
              case rel => exact ⟨_, ((x4_5 == 0)), zy, H', ⟨by have := HJ1.out; have := HJ5.out; have := HJ7.out; have := HK4.out; first | omega | exact Nat.le_refl _⟩, zd⟩
             ·
              rw [if_neg c25] at H
              have c25b0 : (x5_4 == 9223372036854775808) = false := zE c25
              have c25b1 : (x5_4 != 9223372036854775808) = true := zF c25
              have H' := zM H
              clear H
              go_wp2
              go_meet
              case rel => exact ⟨_, (false), zy, H', ⟨by have := HJ1.out; have := HJ5.out; have := HJ7.out; have := HK4.out; first | omega | exact Nat.le_refl _⟩, zd⟩
           case rest =>
            clear HC23
            try clear c1
            try clear p1
            try clear q1
            try clear hx1
            try clear c2
            try clear p2
            try clear q2
            try clear hx2
            try clear c3
            try clear c3b0
            try clear c3b1
            try clear c4
            try clear c4b0
            try clear c4b1
            try clear c5
            try clear p5
            try clear q5
            try clear hx5
            try clear qi5
            try clear p6
            try clear c7
            try clear c9
            try clear c9b0
            try clear c9b1
            try clear c10
            try clear c10b0
            try clear c11
            try clear c11b0
            try clear c12
            try clear c12b0
            try clear p13
            try clear q13
            try clear hx13
            try clear c14
            try clear c14b0
            try clear c14b1
            try clear c15
            try clear c16
            try clear c16b0
            try clear c17
            try clear c17b0
            try clear p18
            try clear q18
            try clear hx18
            try clear c19
            try clear c19b0
            try clear p20
            try clear q20
            try clear hx20
            try clear c21
            try clear c21b0
            try clear p22
            try clear q22
            try clear hx22
            try clear c24
            try clear c24b0
            try clear c25
            try clear c25b0
            try clear c25b1
            try clear p1
            try clear p13
            try clear p18
            try clear p2
            try clear p20
            try clear p22
            try clear p5
            try clear p6
            try clear q1
            try clear q13
            try clear q18
            try clear q20
            try clear q22
            try clear q5
            obtain ⟨kq, x71_22, rfl, HA, HJ22, ⟨mc22, rfl⟩⟩ := hcut
            cases kq with
            | zero => exact absurd HA.out (by simp [aumbryref03_Number.j4])
            | succ kj22 =>
             have H := HA.out
             clear HA
             simp only [aumbryref03_Number.j4] at H
             by_cases c26 : x71_22 = true
             ·
              subst c26
              rw [if_pos rfl] at H
              simp only [Option.some.injEq, Prod.mk.injEq] at H
              obtain ⟨rfl, rfl⟩ := H
              go_wp2
              go_ret2
              exact ⟨zy, zd⟩
             ·
              replace c26 := zI c26
              subst c26
              rw [if_neg (show ¬ (false = true) by decide)] at H
              by_cases c27 : x4_5 = 1
              ·
               rw [if_pos c27] at H
               have c27b0 : (x4_5 == 1) = true := zG c27
               have c27b1 : (x4_5 != 1) = false := zH c27
               clear c27
               simp only [Option.some.injEq, Prod.mk.injEq] at H
               obtain ⟨rfl, rfl⟩ := H
               go_wp2
               go_ret2
               exact ⟨zy, zd⟩
              ·
               rw [if_neg c27] at H
               have c27b0 : (x4_5 == 1) = false := zE c27
               have c27b1 : (x4_5 != 1) = true := zF c27
               simp only [Option.some.injEq, Prod.mk.injEq] at H
               obtain ⟨rfl, rfl⟩ := H
               go_wp2
               go_ret2
               exact ⟨zy, zd⟩


-- ==== PF49

def aumbryref22_number.f (k : Nat) (a0 : ByteArray) : Option (Int × Int) := (aumbryref03_Number.f k a0).bind fun bt101 => (some (bt101.1, bt101.2))
theorem aumbryref22_number.mono : ∀ a0 k, LeO (aumbryref22_number.f k a0) (aumbryref22_number.f (k + 1) a0) := by
 intro a0 k
 unfold aumbryref22_number.f
 repeat' first
  | (with_reducible exact aumbryref03_Number.mono _ _)
  | (with_reducible exact LeO.refl _)
  | (with_reducible exact LeO.none _)
  | (with_reducible refine LeO.ite ?_ ?_)
  | (with_reducible refine LeO.bind ?_ (fun _ => ?_))
theorem aumbryref22_number.calls (k : Nat) (a0 : ByteArray) (r1 : Int) (r2 : Int) (w : World) (h : aumbryref22_number.f k a0 = some (r1, r2)) :
 Calls Tryz.prog 49 #[.string a0] w fun e w' => e = .returned (.tuple #[.int .i64 r1, .int .i64 r2]) ∧ Drawn0 w w' := by
 have H : ((aumbryref03_Number.f k a0).bind fun bt101 => (some (bt101.1, bt101.2))) = some (r1, r2) := h
 clear h
 replace H := zB H
 obtain ⟨⟨t101, t102⟩, A20, H⟩ := H
 try dsimp only at H
 have A2 := zM A20
 clear A20
 simp only [Option.some.injEq, Prod.mk.injEq] at H
 obtain ⟨rfl, rfl⟩ := H
 go_enter Tryz.func49, Tryz.ntmps49
 go_wp2_with (first | ((with_reducible refine gate_callee (f := 77) rfl ?_); refine goesL_ (some 8) rfl rfl Tryz.func77 (by kernel_rfl) rfl #[.string a0] rfl zl ?_; (with_reducible refine (aumbryref03_Number.calls k a0 t101 t102 _ A2.out).mono ?_); rintro e w' ⟨rfl, ⟨nd, rfl⟩⟩; refine ⟨_, rfl, ?_⟩))
 go_ret2
 exact ⟨zy, zd⟩


-- ==== PF105

def aumbryref04_sign.f (a0 : Int) : Option (Bool) := if a0 ≥ 97 then (if a0 ≤ 122 then (some true) else (if a0 ≥ 65 then (if a0 ≤ 90 then (some true) else (if a0 ≥ 48 then (some (decide (a0 ≤ 57))) else (some false))) else (if a0 ≥ 48 then (some (decide (a0 ≤ 57))) else (some false)))) else (if a0 ≥ 65 then (if a0 ≤ 90 then (some true) else (if a0 ≥ 48 then (some (decide (a0 ≤ 57))) else (some false))) else (if a0 ≥ 48 then (some (decide (a0 ≤ 57))) else (some false)))
theorem aumbryref04_sign.calls (a0 : Int) (r : Bool) (w : World) (h : aumbryref04_sign.f a0 = some r) :
 Calls Tryz.prog 105 #[.int .u8 a0] w fun e w' => e = .returned (.bool r) ∧ Drawn0 w w' := by
 have H : (if a0 ≥ 97 then (if a0 ≤ 122 then (some true) else (if a0 ≥ 65 then (if a0 ≤ 90 then (some true) else (if a0 ≥ 48 then (some (decide (a0 ≤ 57))) else (some false))) else (if a0 ≥ 48 then (some (decide (a0 ≤ 57))) else (some false)))) else (if a0 ≥ 65 then (if a0 ≤ 90 then (some true) else (if a0 ≥ 48 then (some (decide (a0 ≤ 57))) else (some false))) else (if a0 ≥ 48 then (some (decide (a0 ≤ 57))) else (some false)))) = some r := h
 clear h
 by_cases c2 : a0 ≥ 97
 ·
  rw [if_pos c2] at H
  have c2b0 : decide (97 ≤ a0) = true := zQ c2
  clear c2
  by_cases c3 : a0 ≤ 122
  ·
   rw [if_pos c3] at H
   have c3b0 : decide (a0 ≤ 122) = true := zQ c3
   clear c3
   obtain rfl := zS H
   go_enter Tryz.func105, Tryz.ntmps105
   go_wp2
   go_ret
   exact ⟨zy, zd⟩
  ·
   rw [if_neg c3] at H
   have c3b0 : decide (a0 ≤ 122) = false := zR c3
   clear c3
   by_cases c4 : a0 ≥ 65
   ·
    rw [if_pos c4] at H
    have c4b0 : decide (65 ≤ a0) = true := zQ c4
    clear c4
    by_cases c5 : a0 ≤ 90
    ·
     rw [if_pos c5] at H
     have c5b0 : decide (a0 ≤ 90) = true := zQ c5
     clear c5
     obtain rfl := zS H
     go_enter Tryz.func105, Tryz.ntmps105
     go_wp2
     go_ret
     exact ⟨zy, zd⟩
    ·
     rw [if_neg c5] at H
     have c5b0 : decide (a0 ≤ 90) = false := zR c5
     clear c5
     by_cases c6 : a0 ≥ 48
     ·
      rw [if_pos c6] at H
      have c6b0 : decide (48 ≤ a0) = true := zQ c6
      clear c6
      obtain rfl := zS H
      go_enter Tryz.func105, Tryz.ntmps105
      go_wp2
      go_ret
      exact ⟨zy, zd⟩
     ·
      rw [if_neg c6] at H
      have c6b0 : decide (48 ≤ a0) = false := zR c6
      clear c6
      obtain rfl := zS H
      go_enter Tryz.func105, Tryz.ntmps105
      go_wp2
      go_ret
      exact ⟨zy, zd⟩
   ·
    rw [if_neg c4] at H
    have c4b0 : decide (65 ≤ a0) = false := zR c4
    clear c4
    by_cases c7 : a0 ≥ 48
    ·
     rw [if_pos c7] at H
     have c7b0 : decide (48 ≤ a0) = true := zQ c7
     clear c7
     obtain rfl := zS H
     go_enter Tryz.func105, Tryz.ntmps105
     go_wp2
     go_ret
     exact ⟨zy, zd⟩
    ·
     rw [if_neg c7] at H
     have c7b0 : decide (48 ≤ a0) = false := zR c7
     clear c7
     obtain rfl := zS H
     go_enter Tryz.func105, Tryz.ntmps105
     go_wp2
     go_ret
     exact ⟨zy, zd⟩
 ·
  rw [if_neg c2] at H
  have c2b0 : decide (97 ≤ a0) = false := zR c2
  clear c2
  by_cases c8 : a0 ≥ 65
  ·
   rw [if_pos c8] at H
   have c8b0 : decide (65 ≤ a0) = true := zQ c8
   clear c8
   by_cases c9 : a0 ≤ 90
   ·
    rw [if_pos c9] at H
    have c9b0 : decide (a0 ≤ 90) = true := zQ c9
    clear c9
    obtain rfl := zS H
    go_enter Tryz.func105, Tryz.ntmps105
    go_wp2
    go_ret
    exact ⟨zy, zd⟩
   ·
    rw [if_neg c9] at H
    have c9b0 : decide (a0 ≤ 90) = false := zR c9
    clear c9
    by_cases c10 : a0 ≥ 48
    ·
     rw [if_pos c10] at H
     have c10b0 : decide (48 ≤ a0) = true := zQ c10
     clear c10
     obtain rfl := zS H
     go_enter Tryz.func105, Tryz.ntmps105
     go_wp2
     go_ret
     exact ⟨zy, zd⟩
    ·
     rw [if_neg c10] at H
     have c10b0 : decide (48 ≤ a0) = false := zR c10
     clear c10
     obtain rfl := zS H
     go_enter Tryz.func105, Tryz.ntmps105
     go_wp2
     go_ret
     exact ⟨zy, zd⟩
  ·
   rw [if_neg c8] at H
   have c8b0 : decide (65 ≤ a0) = false := zR c8
   clear c8
   by_cases c11 : a0 ≥ 48
   ·
    rw [if_pos c11] at H
    have c11b0 : decide (48 ≤ a0) = true := zQ c11
    clear c11
    obtain rfl := zS H
    go_enter Tryz.func105, Tryz.ntmps105
    go_wp2
    go_ret
    exact ⟨zy, zd⟩
   ·
    rw [if_neg c11] at H
    have c11b0 : decide (48 ≤ a0) = false := zR c11
    clear c11
    obtain rfl := zS H
    go_enter Tryz.func105, Tryz.ntmps105
    go_wp2
    go_ret
    exact ⟨zy, zd⟩


-- ==== PF79

mutual
def aumbryref04_Read.j1 : Nat → ByteArray → Int → List (S48) → Int → Option ((List (S48)) × Int × Int)
 | 0, _, _, _, _ => none
 | k + 1, x0, x1, x2, x9 => if 0 ≤ x1 then (if x1 ≤ x9 then (if x9 ≤ (x0.size : Int) then (if (x0.extract (x1 : Int).toNat (x9 : Int).toNat).toList = ([] : List UInt8) then (some (([] : List (S48)), x1, 3)) else ((aumbryref03_Kind.f k (x0.extract (x1 : Int).toNat (x9 : Int).toNat)).bind fun t102 => (if t102 = 0 then (some (([] : List (S48)), x1, 4)) else (if (x2.length : Int) = 64 then (some (([] : List (S48)), x1, 6)) else (if x2.length < 5864062014805 then ((some (x2 ++ [(⟨x0.extract (x1 : Int).toNat (x9 : Int).toNat, 0⟩ : S48)] : List (S48))).bind fun y103 => (if x9 = (x0.size : Int) then (aumbryref04_Read.j2 k x0 y103 x9 t102 (x2.length : Int) true) else (if 0 ≤ x9 then (if x9 < (x0.size : Int) then (aumbryref04_Read.j2 k x0 y103 x9 t102 (x2.length : Int) ((bt x0 x9) != 40)) else (none)) else (none)))) else (none)))))) else (none)) else (none)) else (none)
def aumbryref04_Read.j2 : Nat → ByteArray → List (S48) → Int → Int → Int → Bool → Option ((List (S48)) × Int × Int)
 | 0, _, _, _, _, _, _ => none
 | k + 1, x0, x2, x9, x11, x12, x62 => if x62 = true then (some (x2, x9, 0)) else (if x11 = 2 then (some (([] : List (S48)), x9, 5)) else (aumbryref04_Read.l1 k x0 x2 x9 x12 1))
def aumbryref04_Read.l1 : Nat → ByteArray → List (S48) → Int → Int → Int → Option ((List (S48)) × Int × Int)
 | 0, _, _, _, _, _ => none
 | k + 1, x0, x2, x9, x12, x13 => (aumbryref04_Read.f k x0 (wrap64 (x9 + 1)) x2).bind fun bt106 => (if bt106.2.2 = 0 then (if 0 ≤ x12 then (if x12 < (bt106.1.length : Int) then ((some (bt106.1.set (x12 : Int).toNat (⟨(rd_T48 bt106.1 x12).f0, x13⟩ : S48) : List (S48))).bind fun y111 => (if bt106.2.1 < (x0.size : Int) then (if 0 ≤ bt106.2.1 then (aumbryref04_Read.j4 k x0 y111 bt106.2.1 x12 x13 ((bt x0 bt106.2.1) == 41)) else (none)) else (aumbryref04_Read.j4 k x0 y111 bt106.2.1 x12 x13 false))) else (none)) else (none)) else (some (([] : List (S48)), bt106.2.1, bt106.2.2)))
def aumbryref04_Read.j4 : Nat → ByteArray → List (S48) → Int → Int → Int → Bool → Option ((List (S48)) × Int × Int)
 | 0, _, _, _, _, _, _ => none
 | k + 1, x0, x2, x9, x12, x13, x99 => if x99 = true then (some (x2, wrap64 (x9 + 1), 0)) else (if x9 = (x0.size : Int) then (aumbryref04_Read.j5 k x0 x2 x9 x12 x13 true) else (if 0 ≤ x9 then (if x9 < (x0.size : Int) then (aumbryref04_Read.j5 k x0 x2 x9 x12 x13 ((bt x0 x9) != 44)) else (none)) else (none)))
def aumbryref04_Read.j5 : Nat → ByteArray → List (S48) → Int → Int → Int → Bool → Option ((List (S48)) × Int × Int)
 | 0, _, _, _, _, _, _ => none
 | k + 1, x0, x2, x9, x12, x13, x112 => if x112 = true then (some (([] : List (S48)), x9, 3)) else (if x13 = 4 then (some (([] : List (S48)), x9, 5)) else (aumbryref04_Read.l1 k x0 x2 x9 x12 (wrap64 (x13 + 1))))
def aumbryref04_Read.l0 : Nat → ByteArray → Int → List (S48) → Int → Option ((List (S48)) × Int × Int)
 | 0, _, _, _, _ => none
 | k + 1, x0, x1, x2, x9 => if x9 < (x0.size : Int) then (if 0 ≤ x9 then ((aumbryref04_sign.f (bt x0 x9)).bind fun t101 => (if t101 = true then (aumbryref04_Read.l0 k x0 x1 x2 (wrap64 (x9 + 1))) else (aumbryref04_Read.j1 k x0 x1 x2 x9))) else (none)) else (aumbryref04_Read.j1 k x0 x1 x2 x9)
def aumbryref04_Read.f : Nat → ByteArray → Int → List (S48) → Option ((List (S48)) × Int × Int)
 | 0, _, _, _ => none
 | k + 1, a0, a1, l2 => aumbryref04_Read.l0 k a0 a1 l2 a1
end
theorem aumbryref04_Read.mono_l : ∀ k, (∀ y0 y1 y2, LeO (aumbryref04_Read.f k y0 y1 y2) (aumbryref04_Read.f (k + 1) y0 y1 y2)) ∧ (∀ y0 y1 y2 y3, LeO (aumbryref04_Read.j1 k y0 y1 y2 y3) (aumbryref04_Read.j1 (k + 1) y0 y1 y2 y3)) ∧ (∀ y0 y1 y2 y3 y4 y5, LeO (aumbryref04_Read.j2 k y0 y1 y2 y3 y4 y5) (aumbryref04_Read.j2 (k + 1) y0 y1 y2 y3 y4 y5)) ∧ (∀ y0 y1 y2 y3 y4, LeO (aumbryref04_Read.l1 k y0 y1 y2 y3 y4) (aumbryref04_Read.l1 (k + 1) y0 y1 y2 y3 y4)) ∧ (∀ y0 y1 y2 y3 y4 y5, LeO (aumbryref04_Read.j4 k y0 y1 y2 y3 y4 y5) (aumbryref04_Read.j4 (k + 1) y0 y1 y2 y3 y4 y5)) ∧ (∀ y0 y1 y2 y3 y4 y5, LeO (aumbryref04_Read.j5 k y0 y1 y2 y3 y4 y5) (aumbryref04_Read.j5 (k + 1) y0 y1 y2 y3 y4 y5)) ∧ (∀ y0 y1 y2 y3, LeO (aumbryref04_Read.l0 k y0 y1 y2 y3) (aumbryref04_Read.l0 (k + 1) y0 y1 y2 y3))
 | 0 => ⟨fun _ _ _ r h => by simp [aumbryref04_Read.f] at h, fun _ _ _ _ r h => by simp [aumbryref04_Read.j1] at h, fun _ _ _ _ _ _ r h => by simp [aumbryref04_Read.j2] at h, fun _ _ _ _ _ r h => by simp [aumbryref04_Read.l1] at h, fun _ _ _ _ _ _ r h => by simp [aumbryref04_Read.j4] at h, fun _ _ _ _ _ _ r h => by simp [aumbryref04_Read.j5] at h, fun _ _ _ _ r h => by simp [aumbryref04_Read.l0] at h⟩
 | k + 1 => by
  obtain ⟨ih0, ih1, ih2, ih3, ih4, ih5, ih6⟩ := aumbryref04_Read.mono_l k
  refine ⟨?_, ?_, ?_, ?_, ?_, ?_, ?_⟩
  ·
   intro y0 y1 y2
   unfold aumbryref04_Read.f
   repeat' first
   | (with_reducible exact ih0 _ _ _)
   | (with_reducible exact ih1 _ _ _ _)
   | (with_reducible exact ih2 _ _ _ _ _ _)
   | (with_reducible exact ih3 _ _ _ _ _)
   | (with_reducible exact ih4 _ _ _ _ _ _)
   | (with_reducible exact ih5 _ _ _ _ _ _)
   | (with_reducible exact ih6 _ _ _ _)
   | (with_reducible exact aumbryref03_Kind.mono _ _)
   | (with_reducible exact LeO.refl _)
   | (with_reducible exact LeO.none _)
   | (with_reducible refine LeO.ite ?_ ?_)
   | (with_reducible refine LeO.bind ?_ (fun _ => ?_))
  ·
   intro y0 y1 y2 y3
   unfold aumbryref04_Read.j1
   repeat' first
   | (with_reducible exact ih0 _ _ _)
   | (with_reducible exact ih1 _ _ _ _)
   | (with_reducible exact ih2 _ _ _ _ _ _)
   | (with_reducible exact ih3 _ _ _ _ _)
   | (with_reducible exact ih4 _ _ _ _ _ _)
   | (with_reducible exact ih5 _ _ _ _ _ _)
   | (with_reducible exact ih6 _ _ _ _)
   | (with_reducible exact aumbryref03_Kind.mono _ _)
   | (with_reducible exact LeO.refl _)
   | (with_reducible exact LeO.none _)
   | (with_reducible refine LeO.ite ?_ ?_)
   | (with_reducible refine LeO.bind ?_ (fun _ => ?_))
  ·
   intro y0 y1 y2 y3 y4 y5
   unfold aumbryref04_Read.j2
   repeat' first
   | (with_reducible exact ih0 _ _ _)
   | (with_reducible exact ih1 _ _ _ _)
   | (with_reducible exact ih2 _ _ _ _ _ _)
   | (with_reducible exact ih3 _ _ _ _ _)
   | (with_reducible exact ih4 _ _ _ _ _ _)
   | (with_reducible exact ih5 _ _ _ _ _ _)
   | (with_reducible exact ih6 _ _ _ _)
   | (with_reducible exact aumbryref03_Kind.mono _ _)
   | (with_reducible exact LeO.refl _)
   | (with_reducible exact LeO.none _)
   | (with_reducible refine LeO.ite ?_ ?_)
   | (with_reducible refine LeO.bind ?_ (fun _ => ?_))
  ·
   intro y0 y1 y2 y3 y4
   unfold aumbryref04_Read.l1
   repeat' first
   | (with_reducible exact ih0 _ _ _)
   | (with_reducible exact ih1 _ _ _ _)
   | (with_reducible exact ih2 _ _ _ _ _ _)
   | (with_reducible exact ih3 _ _ _ _ _)
   | (with_reducible exact ih4 _ _ _ _ _ _)
   | (with_reducible exact ih5 _ _ _ _ _ _)
   | (with_reducible exact ih6 _ _ _ _)
   | (with_reducible exact aumbryref03_Kind.mono _ _)
   | (with_reducible exact LeO.refl _)
   | (with_reducible exact LeO.none _)
   | (with_reducible refine LeO.ite ?_ ?_)
   | (with_reducible refine LeO.bind ?_ (fun _ => ?_))
  ·
   intro y0 y1 y2 y3 y4 y5
   unfold aumbryref04_Read.j4
   repeat' first
   | (with_reducible exact ih0 _ _ _)
   | (with_reducible exact ih1 _ _ _ _)
   | (with_reducible exact ih2 _ _ _ _ _ _)
   | (with_reducible exact ih3 _ _ _ _ _)
   | (with_reducible exact ih4 _ _ _ _ _ _)
   | (with_reducible exact ih5 _ _ _ _ _ _)
   | (with_reducible exact ih6 _ _ _ _)
   | (with_reducible exact aumbryref03_Kind.mono _ _)
   | (with_reducible exact LeO.refl _)
   | (with_reducible exact LeO.none _)
   | (with_reducible refine LeO.ite ?_ ?_)
   | (with_reducible refine LeO.bind ?_ (fun _ => ?_))
  ·
   intro y0 y1 y2 y3 y4 y5
   unfold aumbryref04_Read.j5
   repeat' first
   | (with_reducible exact ih0 _ _ _)
   | (with_reducible exact ih1 _ _ _ _)
   | (with_reducible exact ih2 _ _ _ _ _ _)
   | (with_reducible exact ih3 _ _ _ _ _)
   | (with_reducible exact ih4 _ _ _ _ _ _)
   | (with_reducible exact ih5 _ _ _ _ _ _)
   | (with_reducible exact ih6 _ _ _ _)
   | (with_reducible exact aumbryref03_Kind.mono _ _)
   | (with_reducible exact LeO.refl _)
   | (with_reducible exact LeO.none _)
   | (with_reducible refine LeO.ite ?_ ?_)
   | (with_reducible refine LeO.bind ?_ (fun _ => ?_))
  ·
   intro y0 y1 y2 y3
   unfold aumbryref04_Read.l0
   repeat' first
   | (with_reducible exact ih0 _ _ _)
   | (with_reducible exact ih1 _ _ _ _)
   | (with_reducible exact ih2 _ _ _ _ _ _)
   | (with_reducible exact ih3 _ _ _ _ _)
   | (with_reducible exact ih4 _ _ _ _ _ _)
   | (with_reducible exact ih5 _ _ _ _ _ _)
   | (with_reducible exact ih6 _ _ _ _)
   | (with_reducible exact aumbryref03_Kind.mono _ _)
   | (with_reducible exact LeO.refl _)
   | (with_reducible exact LeO.none _)
   | (with_reducible refine LeO.ite ?_ ?_)
   | (with_reducible refine LeO.bind ?_ (fun _ => ?_))
theorem aumbryref04_Read.mono : ∀ a0 a1 a2 k, LeO (aumbryref04_Read.f k a0 a1 a2) (aumbryref04_Read.f (k + 1) a0 a1 a2) := by
 intro a0 a1 a2 k
 obtain ⟨ih0, ih1, ih2, ih3, ih4, ih5, ih6⟩ := aumbryref04_Read.mono_l k
 exact ih0 a0 a1 a2
theorem aumbryref04_Read.calls (k : Nat) : ∀ (a0 : ByteArray) (a1 : Int) (P2_ : Nat → Prop) (u9000_ : Value) (l2 : List (S48)) (r1 : List (S48)) (r2 : Int) (r3 : Int) (w0 w : World) (hB : Below w0.heap.size w0 w) (ho2 : Kd.R k48 48 w w0.heap.size P2_ u9000_ l2) (h : aumbryref04_Read.f k a0 a1 l2 = some (r1, r2, r3)),
 Calls Tryz.prog 79 #[.string a0, .int .i64 a1, u9000_] w fun e w' => ∃ v0_ : Value, e = .returned (.tuple #[v0_, .int .i64 r2, .int .i64 r3]) ∧ Kd.R k48 48 w' w0.heap.size (fun k_ => (P2_ k_ ∨ w.heap.size ≤ k_)) v0_ r1 ∧ Below w0.heap.size w0 w' ∧ Kept w w' (fun k_ => P2_ k_) := by
 induction k using Nat.strongRecOn with
 | _ k ih =>
 intro a0 a1 P2_ u9000_ l2 r1 r2 r3 w0 w hB ho2 h
 cases k with
 | zero => exact absurd h (by simp [aumbryref04_Read.f])
 | succ k =>
 simp only [aumbryref04_Read.f] at h
 have hu48 := Tryz.underlying48
 have HO2 := zM (show Kd.R k48 48 w w0.heap.size (fun k_ => (P2_ k_ ∨ w.heap.size ≤ k_)) u9000_ l2 from Kd.R_mono ho2 (fun k_ hk => (.inl hk)))
 have HK := zM (Kept.refl w (fun k_ => P2_ k_))
 have HW0 := zM hB.size
 have HB := zM hB
 clear hB
 have H : (aumbryref04_Read.l0 k a0 a1 l2 a1) = some (r1, r2, r3) := h
 clear h
 have HC4 := zM H
 clear H
 go_enter Tryz.func79, Tryz.ntmps79
 go_upto_block 0 with (fail)
 go_cut [9] (fun v9 wc => ∃ (kq : Nat) (x9_3 : Int), v9 = .int .i64 x9_3 ∧ Aside0 (aumbryref04_Read.j1 kq a0 a1 l2 x9_3 = some (r1, r2, r3)) ∧ Aside0 (kq ≤ k) ∧ Aside0 (Kd.R k48 48 wc w0.heap.size (fun k_ => (P2_ k_ ∨ w.heap.size ≤ k_)) u9000_ l2) ∧ Aside0 (Kept w wc (fun k_ => P2_ k_)) ∧ Aside0 (Below w0.heap.size w0 wc))
 case first =>
  have H := HC4.out
  clear HC4
  have H' := zM H
  clear H
  go_wp2
  go_loopg [9] k (fun kq v9 w' => ∃ (x9_1 : Int), v9 = .int .i64 x9_1 ∧ Aside0 (aumbryref04_Read.l0 kq a0 a1 l2 x9_1 = some (r1, r2, r3)) ∧ Aside0 (kq ≤ k) ∧ Aside0 (Kd.R k48 48 w' w0.heap.size (fun k_ => (P2_ k_ ∨ w.heap.size ≤ k_)) u9000_ l2) ∧ Aside0 (Kept w w' (fun k_ => P2_ k_)) ∧ Aside0 (Below w0.heap.size w0 w'))
  case atStart => exact ⟨(a1), zy, H', ⟨Nat.le_refl _⟩, ⟨zr HO2.out⟩, ⟨zf⟩, ⟨zb⟩⟩
  case round =>
   clear H'
   try clear p2
   obtain ⟨x9_1, rfl, HA, HK1, HO_2, HK, HB⟩ := hrel
   cases gk with
   | zero => exact absurd HA.out (by simp [aumbryref04_Read.l0])
   | succ k1 =>
    have H := HA.out
    clear HA
    simp only [aumbryref04_Read.l0] at H
    by_cases c5 : x9_1 < (a0.size : Int)
    ·
     rw [if_pos c5] at H
     have c5b0 : decide (x9_1 < (a0.size : Int)) = true := zQ c5
     clear c5
     (first | rw [c5b0] | (simp only [i64_w, i32_w]; rw [c5b0]) | skip)
     by_cases c6 : 0 ≤ x9_1
     ·
      rw [if_pos c6] at H
      have c6b0 : decide (0 ≤ x9_1) = true := zQ c6
      clear c6
      replace H := zB H
      obtain ⟨t101, A80, H⟩ := H
      try dsimp only at H
      have A8 := zM A80
      clear A80
      by_cases c9 : t101 = true
      ·
       subst c9
       rw [if_pos rfl] at H
       have H' := zM H
       clear H
       have p7 : 0 ≤ (x9_1 : Int) := zT zv
       have q7 : x9_1 < (a0.size : Int) := zT zv
       have hx7 := bt_at a0 x9_1
       replace p7 := eq_true p7
       replace q7 := eq_true q7
       go_wp2_with (first | (go_at_call 105; (with_reducible refine (aumbryref04_sign.calls (bt a0 x9_1) true _ A8.out).mono ?_); rintro e w' ⟨rfl, ⟨nd, rfl⟩⟩))
       go_roundg k1
       case measure => have := HK1.out; omega
       case rel => exact ⟨(wrap64 (x9_1 + 1)), zy, H', ⟨by have := HK1.out; omega⟩, ⟨zr HO_2.out⟩, ⟨zf⟩, ⟨zb⟩⟩
      ·
       replace c9 := zI c9
       subst c9
       rw [if_neg (show ¬ (false = true) by decide)] at H
       have H' := zM H
       clear H
       have p7 : 0 ≤ (x9_1 : Int) := zT zv
       have q7 : x9_1 < (a0.size : Int) := zT zv
       have hx7 := bt_at a0 x9_1
       replace p7 := eq_true p7
       replace q7 := eq_true q7
       go_wp2_with (first | (go_at_call 105; (with_reducible refine (aumbryref04_sign.calls (bt a0 x9_1) false _ A8.out).mono ?_); rintro e w' ⟨rfl, ⟨nd, rfl⟩⟩))
       go_meet
       case rel => exact ⟨_, (x9_1), zy, H', ⟨by have := HK1.out; first | omega | exact Nat.le_refl _⟩, ⟨zr HO_2.out⟩, ⟨zf⟩, ⟨zb⟩⟩
     ·
      rw [if_neg c6] at H
      exact absurd H (by simp)
    ·
     rw [if_neg c5] at H
     have c5b0 : decide (x9_1 < (a0.size : Int)) = false := zR c5
     clear c5
     (first | rw [c5b0] | (simp only [i64_w, i32_w]; rw [c5b0]) | skip)
     have H' := zM H
     clear H
     go_wp2
     go_meet
     case rel => exact ⟨_, (x9_1), zy, H', ⟨by have := HK1.out; first | omega | exact Nat.le_refl _⟩, ⟨zr HO_2.out⟩, ⟨zf⟩, ⟨zb⟩⟩
 case rest =>
  clear HC4
  try clear p2
  try clear c5
  try clear c5b0
  try clear c6
  try clear c6b0
  try clear p6
  try clear c7
  try clear p7
  try clear q7
  try clear hx7
  try clear c9
  try clear p2
  try clear p7
  try clear q7
  obtain ⟨kq, x9_3, rfl, HA, HJ3, HO_2, HK, HB⟩ := hcut
  cases kq with
  | zero => exact absurd HA.out (by simp [aumbryref04_Read.j1])
  | succ kj3 =>
   have H := HA.out
   clear HA
   simp only [aumbryref04_Read.j1] at H
   by_cases c10 : 0 ≤ a1
   ·
    rw [if_pos c10] at H
    have c10b0 := eq_true c10
    have c10b1 : decide (0 ≤ a1) = true := zQ c10
    clear c10
    by_cases c11 : a1 ≤ x9_3
    ·
     rw [if_pos c11] at H
     have c11b0 := eq_true c11
     have c11b1 : decide (a1 ≤ x9_3) = true := zQ c11
     clear c11
     by_cases c12 : x9_3 ≤ (a0.size : Int)
     ·
      rw [if_pos c12] at H
      have c12b0 := eq_true c12
      have c12b1 : decide (x9_3 ≤ (a0.size : Int)) = true := zQ c12
      clear c12
      by_cases c13 : (a0.extract (a1 : Int).toNat (x9_3 : Int).toNat).toList = ([] : List UInt8)
      ·
       rw [if_pos c13] at H
       have c13b0 : ((a0.extract (a1 : Int).toNat (x9_3 : Int).toNat).toList == ([] : List UInt8)) = true := zG c13
       have c13b1 : ((a0.extract (a1 : Int).toNat (x9_3 : Int).toNat).toList != ([] : List UInt8)) = false := zH c13
       clear c13
       simp only [Option.some.injEq, Prod.mk.injEq] at H
       obtain ⟨rfl, rfl, rfl⟩ := H
       go_wp2
       go_ret3
       exact ⟨_, zw, by first | exact Kd.R_nil _ _ _ _ _ | exact Kd.N_nil _ _ _ _ _ | exact Kd.V_nil _ _ _ _ _ | exact Kd.Q_nil _ _ _ _ _ | exact Kd.S_nil _ _ _ _ _, zb, zf⟩
      ·
       rw [if_neg c13] at H
       have c13b0 : ((a0.extract (a1 : Int).toNat (x9_3 : Int).toNat).toList == ([] : List UInt8)) = false := zE c13
       have c13b1 : ((a0.extract (a1 : Int).toNat (x9_3 : Int).toNat).toList != ([] : List UInt8)) = true := zF c13
       replace H := zB H
       obtain ⟨t102, A140, H⟩ := H
       try dsimp only at H
       have A14 := zM A140
       clear A140
       by_cases c15 : t102 = 0
       ·
        rw [if_pos c15] at H
        have c15b0 : (t102 == 0) = true := zG c15
        have c15b1 : (t102 != 0) = false := zH c15
        clear c15
        simp only [Option.some.injEq, Prod.mk.injEq] at H
        obtain ⟨rfl, rfl, rfl⟩ := H
        go_wp2_with (first | ((with_reducible refine gate_callee (f := 48) rfl ?_); refine goesL_ (some 38) rfl rfl Tryz.func48 (by kernel_rfl) rfl #[.string (a0.extract (a1 : Int).toNat (x9_3 : Int).toNat)] rfl zl ?_; (with_reducible refine (aumbryref03_Kind.calls kj3 (a0.extract (a1 : Int).toNat (x9_3 : Int).toNat) t102 _ A14.out).mono ?_); rintro e w' ⟨rfl, ⟨nd, rfl⟩⟩; refine ⟨_, rfl, ?_⟩))
        go_ret3
        exact ⟨_, zw, by first | exact Kd.R_nil _ _ _ _ _ | exact Kd.N_nil _ _ _ _ _ | exact Kd.V_nil _ _ _ _ _ | exact Kd.Q_nil _ _ _ _ _ | exact Kd.S_nil _ _ _ _ _, zb, zf⟩
       ·
        rw [if_neg c15] at H
        have c15b0 : (t102 == 0) = false := zE c15
        have c15b1 : (t102 != 0) = true := zF c15
        by_cases c16 : (l2.length : Int) = 64
        ·
         rw [if_pos c16] at H
         have c16b0 : ((l2.length : Int) == 64) = true := zG c16
         have c16b1 : ((l2.length : Int) != 64) = false := zH c16
         clear c16
         simp only [Option.some.injEq, Prod.mk.injEq] at H
         obtain ⟨rfl, rfl, rfl⟩ := H
         go_wp2_with (first | ((with_reducible refine gate_callee (f := 48) rfl ?_); refine goesL_ (some 38) rfl rfl Tryz.func48 (by kernel_rfl) rfl #[.string (a0.extract (a1 : Int).toNat (x9_3 : Int).toNat)] rfl zl ?_; (with_reducible refine (aumbryref03_Kind.calls kj3 (a0.extract (a1 : Int).toNat (x9_3 : Int).toNat) t102 _ A14.out).mono ?_); rintro e w' ⟨rfl, ⟨nd, rfl⟩⟩; refine ⟨_, rfl, ?_⟩; obtain ⟨Ao17, co17, eo17⟩ := Kd.R_slice HO_2.out; subst eo17))
         go_ret3
         exact ⟨_, zw, by first | exact Kd.R_nil _ _ _ _ _ | exact Kd.N_nil _ _ _ _ _ | exact Kd.V_nil _ _ _ _ _ | exact Kd.Q_nil _ _ _ _ _ | exact Kd.S_nil _ _ _ _ _, zb, zf⟩
        ·
         rw [if_neg c16] at H
         have c16b0 : ((l2.length : Int) == 64) = false := zE c16
         have c16b1 : ((l2.length : Int) != 64) = true := zF c16
         by_cases c18 : l2.length < 5864062014805
         ·
          rw [if_pos c18] at H
          have LMc18 := zM c18
          clear c18
          obtain ⟨y103, hy103⟩ : ∃ y_ : List (S48), y_ = (l2 ++ [(⟨a0.extract (a1 : Int).toNat (x9_3 : Int).toNat, 0⟩ : S48)]) := ⟨_, rfl⟩
          replace H : (if x9_3 = (a0.size : Int) then (aumbryref04_Read.j2 kj3 a0 y103 x9_3 t102 (l2.length : Int) true) else (if 0 ≤ x9_3 then (if x9_3 < (a0.size : Int) then (aumbryref04_Read.j2 kj3 a0 y103 x9_3 t102 (l2.length : Int) ((bt a0 x9_3) != 40)) else (none)) else (none))) = some (r1, r2, r3) := by first | (rw [hy103]; with_reducible exact H) | (have H2_ := (Option.bind_some _ _).symm.trans H; rw [hy103]; with_reducible exact H2_) | (have H2_ := (Option.bind_some _ _).symm.trans H; with_reducible exact H2_) | with_reducible exact H | (rw [hy103]; exact H) | exact H
          have Ny103 := zM hy103
          clear hy103
          have HC19 := zM H
          clear H
          go_upto_region 14 with (first | ((with_reducible refine gate_callee (f := 48) rfl ?_); refine goesL_ (some 38) rfl rfl Tryz.func48 (by kernel_rfl) rfl #[.string (a0.extract (a1 : Int).toNat (x9_3 : Int).toNat)] rfl zl ?_; (with_reducible refine (aumbryref03_Kind.calls kj3 (a0.extract (a1 : Int).toNat (x9_3 : Int).toNat) t102 _ A14.out).mono ?_); rintro e w' ⟨rfl, ⟨nd, rfl⟩⟩; refine ⟨_, rfl, ?_⟩; obtain ⟨Ao20, co20, eo20⟩ := Kd.R_slice HO_2.out; subst eo20) | ((with_reducible refine gate_builtin (b := .append) (xs := #[.tmp 48, .tmp 51]) rfl ?_); at_builtin; refine Kd.R_append k48 (w0 := w0) w0.heap.size rfl (.tmp 48) (.tmp 51) 24 48 (.agg #[(.string ⟨#[]⟩), (.int .i64 0)]) 24 rfl Tryz.underlying24 info48 rfl (by decide) (by omega) (.slice Ao20 l2.length co20) l2 (⟨a0.extract (a1 : Int).toNat (x9_3 : Int).toNat, 0⟩ : S48) [.string (a0.extract (a1 : Int).toNat (x9_3 : Int).toNat), .int .i64 0] (fun k_ => (P2_ k_ ∨ w.heap.size ≤ k_)) (fun _ => False) rfl rfl ?aP (fun _ hk => hk.elim) ?aF ?aO ?aB ?aS ?aL ?_; (case aP => exact k48_mkM _ _ _ (⟨a0.extract (a1 : Int).toNat (x9_3 : Int).toNat, 0⟩ : S48)); (case aB => exact zb); (case aF => exact (fun k_ hk => (.inr (Nat.le_trans (by first | exact HK.out.1 | exact (show Kept w _ (fun k_ => P2_ k_) from zf).1) hk)))); (case aO => exact (zr HO_2.out)); (case aS => exact (below_size zb)); (case aL => have := LMc18.out; omega); intro v104 w21 ho hb hg hat; rw [← Ny103.out] at ho; replace HB := zM (hb); replace HK := zM (Kept.of_grown (S := (fun k_ => P2_ k_)) hg (zf) (fun k_ e_ => (HO_2.out.1 k_ e_))); have HO105 := zM (ho); clear HO_2; clear ho hb hg hat))
          (try simp only [Act.put, List.setIfInBounds_toArray, List.set_cons_zero, List.set_cons_succ])
          go_cut [62] (fun v62 wc => ∃ (kq : Nat) (x62_18 : Bool), v62 = .bool x62_18 ∧ Aside0 (aumbryref04_Read.j2 kq a0 y103 x9_3 t102 (l2.length : Int) x62_18 = some (r1, r2, r3)) ∧ Aside0 (kq ≤ kj3) ∧ Aside0 (Kd.R k48 48 wc w0.heap.size (fun k_ => (P2_ k_ ∨ w.heap.size ≤ k_)) v104 y103) ∧ Aside0 (Kept w wc (fun k_ => P2_ k_)) ∧ Aside0 (Below w0.heap.size w0 wc))
          case first =>
           have H := HC19.out
           clear HC19
           by_cases c22 : x9_3 = (a0.size : Int)
           ·
            rw [if_pos c22] at H
            have c22b0 : (x9_3 == (a0.size : Int)) = true := zG c22
            have c22b1 : (x9_3 != (a0.size : Int)) = false := zH c22
            clear c22
            (first | rw [c22b0] | (simp only [i64_w, i32_w]; rw [c22b0]) | skip)
            have H' := zM H
            clear H
            go_wp2
            go_meet
            case rel => exact ⟨_, (true), zy, H', ⟨by have := HJ3.out; first | omega | exact Nat.le_refl _⟩, ⟨zr HO105.out⟩, ⟨zf⟩, ⟨zb⟩⟩
           ·
            rw [if_neg c22] at H
            have c22b0 : (x9_3 == (a0.size : Int)) = false := zE c22
            have c22b1 : (x9_3 != (a0.size : Int)) = true := zF c22
            (first | rw [c22b0] | (simp only [i64_w, i32_w]; rw [c22b0]) | skip)
            by_cases c23 : 0 ≤ x9_3
            ·
             rw [if_pos c23] at H
             have c23b0 : decide (0 ≤ x9_3) = true := zQ c23
             clear c23
             by_cases c24 : x9_3 < (a0.size : Int)
             ·
              rw [if_pos c24] at H
              have c24b0 : decide (x9_3 < (a0.size : Int)) = true := zQ c24
              clear c24
              have H' := zM H
              clear H
              have p25 : 0 ≤ (x9_3 : Int) := zT zv
              have q25 : x9_3 < (a0.size : Int) := zT zv
              have hx25 := bt_at a0 x9_3
              replace p25 := eq_true p25
              replace q25 := eq_true q25
              go_wp2
              go_meet
              case rel => exact ⟨_, (((bt a0 x9_3) != 40)), zy, H', ⟨by have := HJ3.out; first | omega | exact Nat.le_refl _⟩, ⟨zr HO105.out⟩, ⟨zf⟩, ⟨zb⟩⟩
             ·
              rw [if_neg c24] at H
              exact absurd H (by simp)
            ·
             rw [if_neg c23] at H
             exact absurd H (by simp)
          case rest =>
           clear HC19
           try clear c1
           try clear c2
           try clear p2
           try clear q2
           try clear hx2
           try clear c4
           try clear c5
           try clear c5b0
           try clear c6
           try clear c6b0
           try clear p6
           try clear c7
           try clear p7
           try clear q7
           try clear hx7
           try clear c9
           try clear c10
           try clear c10b0
           try clear c10b1
           try clear c11
           try clear c11b0
           try clear c11b1
           try clear c12
           try clear c12b0
           try clear c12b1
           try clear c13
           try clear c13b0
           try clear c13b1
           try clear c15
           try clear c15b0
           try clear c15b1
           try clear c16
           try clear c16b0
           try clear c16b1
           try clear c18
           try clear c22
           try clear c22b0
           try clear c22b1
           try clear c23
           try clear c23b0
           try clear c24
           try clear c24b0
           try clear p25
           try clear q25
           try clear hx25
           try clear p2
           try clear p25
           try clear p6
           try clear p7
           try clear q25
           try clear q7
           obtain ⟨kq, x62_18, rfl, HA, HJ18, HO_2, HK, HB⟩ := hcut
           cases kq with
           | zero => exact absurd HA.out (by simp [aumbryref04_Read.j2])
           | succ kj18 =>
            have H := HA.out
            clear HA
            simp only [aumbryref04_Read.j2] at H
            by_cases c26 : x62_18 = true
            ·
             subst c26
             rw [if_pos rfl] at H
             simp only [Option.some.injEq, Prod.mk.injEq] at H
             obtain ⟨rfl, rfl, rfl⟩ := H
             go_wp2
             go_ret3
             exact ⟨_, zw, zr HO_2.out, zb, zf⟩
            ·
             replace c26 := zI c26
             subst c26
             rw [if_neg (show ¬ (false = true) by decide)] at H
             by_cases c27 : t102 = 2
             ·
              rw [if_pos c27] at H
              have c27b0 : (t102 == 2) = true := zG c27
              have c27b1 : (t102 != 2) = false := zH c27
              clear c27
              simp only [Option.some.injEq, Prod.mk.injEq] at H
              obtain ⟨rfl, rfl, rfl⟩ := H
              go_wp2
              go_ret3
              exact ⟨_, zw, by first | exact Kd.R_nil _ _ _ _ _ | exact Kd.N_nil _ _ _ _ _ | exact Kd.V_nil _ _ _ _ _ | exact Kd.Q_nil _ _ _ _ _ | exact Kd.S_nil _ _ _ _ _, zb, zf⟩
             ·
              rw [if_neg c27] at H
              have c27b0 : (t102 == 2) = false := zE c27
              have c27b1 : (t102 != 2) = true := zF c27
              have H' := zM H
              clear H
              go_wp2
              go_loopg [2, 9, 13] kj18 (fun kq v2 v9 v13 w' => ∃ (x2_3 : List (S48)) (x9_3 : Int) (x13_3 : Int), v9 = .int .i64 x9_3 ∧ v13 = .int .i64 x13_3 ∧ Aside0 (aumbryref04_Read.l1 kq a0 x2_3 x9_3 (l2.length : Int) x13_3 = some (r1, r2, r3)) ∧ Aside0 (kq ≤ kj18) ∧ Aside0 (Kd.R k48 48 w' w0.heap.size (fun k_ => (P2_ k_ ∨ w.heap.size ≤ k_)) v2 x2_3) ∧ Aside0 (Kept w w' (fun k_ => P2_ k_)) ∧ Aside0 (Below w0.heap.size w0 w'))
              case atStart => exact ⟨(y103), (x9_3), (1), zy, zy, H', ⟨Nat.le_refl _⟩, ⟨zr HO_2.out⟩, ⟨zf⟩, ⟨zb⟩⟩
              case round =>
               clear H'
               try clear c1
               try clear c2
               try clear p2
               try clear q2
               try clear hx2
               try clear c4
               try clear c5
               try clear c5b0
               try clear c6
               try clear c6b0
               try clear p6
               try clear c7
               try clear p7
               try clear q7
               try clear hx7
               try clear c9
               try clear c10
               try clear c10b0
               try clear c10b1
               try clear c11
               try clear c11b0
               try clear c11b1
               try clear c12
               try clear c12b0
               try clear c12b1
               try clear c13
               try clear c13b0
               try clear c13b1
               try clear c15
               try clear c15b0
               try clear c15b1
               try clear c16
               try clear c16b0
               try clear c16b1
               try clear c18
               try clear c22
               try clear c22b0
               try clear c22b1
               try clear c23
               try clear c23b0
               try clear c24
               try clear c24b0
               try clear p25
               try clear q25
               try clear hx25
               try clear c26
               try clear c27
               try clear c27b0
               try clear c27b1
               try clear p2
               try clear p25
               try clear p6
               try clear p7
               try clear q2
               try clear q25
               try clear q7
               obtain ⟨x2_3, x9_3, x13_3, rfl, rfl, HA, HK3, HO_2, HK, HB⟩ := hrel
               cases gk with
               | zero => exact absurd HA.out (by simp [aumbryref04_Read.l1])
               | succ k3 =>
                have H := HA.out
                clear HA
                simp only [aumbryref04_Read.l1] at H
                replace H := zB H
                obtain ⟨⟨t106, t109, t110⟩, A280, H⟩ := H
                try dsimp only at H
                have A28 := zM A280
                clear A280
                by_cases c29 : t110 = 0
                ·
                 rw [if_pos c29] at H
                 have c29b0 : (t110 == 0) = true := zG c29
                 have c29b1 : (t110 != 0) = false := zH c29
                 clear c29
                 by_cases c30 : 0 ≤ (l2.length : Int)
                 ·
                  rw [if_pos c30] at H
                  have c30b0 : decide (0 ≤ (l2.length : Int)) = true := zQ c30
                  have c30b1 : decide (0 ≤ l2.length) = true := zQ (by omega)
                  clear c30
                  by_cases c31 : (l2.length : Int) < (t106.length : Int)
                  ·
                   rw [if_pos c31] at H
                   have c31b0 : decide ((l2.length : Int) < (t106.length : Int)) = true := zQ c31
                   have c31b1 : decide (l2.length < t106.length) = true := zQ (Int.ofNat_lt.mp c31)
                   clear c31
                   obtain ⟨y111, hy111⟩ : ∃ y_ : List (S48), y_ = (t106.set ((l2.length : Int) : Int).toNat (⟨(rd_T48 t106 (l2.length : Int)).f0, x13_3⟩ : S48)) := ⟨_, rfl⟩
                   replace H : (if t109 < (a0.size : Int) then (if 0 ≤ t109 then (aumbryref04_Read.j4 k3 a0 y111 t109 (l2.length : Int) x13_3 ((bt a0 t109) == 41)) else (none)) else (aumbryref04_Read.j4 k3 a0 y111 t109 (l2.length : Int) x13_3 false)) = some (r1, r2, r3) := by first | (rw [hy111]; with_reducible exact H) | (have H2_ := (Option.bind_some _ _).symm.trans H; rw [hy111]; with_reducible exact H2_) | (have H2_ := (Option.bind_some _ _).symm.trans H; with_reducible exact H2_) | with_reducible exact H | (rw [hy111]; exact H) | exact H
                   have Ny111 := zM hy111
                   clear hy111
                   have HC33 := zM H
                   clear H
                   obtain ⟨Ao34, co34, eo34⟩ := Kd.R_slice HO_2.out
                   subst eo34
                   go_upto_region 26 with (first | ((with_reducible refine gate_callee (f := 79) rfl ?_); refine goesL_ (some 75) rfl rfl Tryz.func79 (by kernel_rfl) rfl #[.string a0, .int .i64 (wrap64 (x9_3 + 1)), .slice Ao34 x2_3.length co34] rfl zl ?_; (with_reducible refine (ih k3 (by have := HJ3.out; have := HJ18.out; have := HK3.out; omega) a0 (wrap64 (x9_3 + 1)) (fun k_ => some k_ = (.slice Ao34 x2_3.length co34 : Value).ownBlock) (.slice Ao34 x2_3.length co34) x2_3 t106 t109 t110 w0 _ ?side1 ?side2 A28.out).mono ?_); (case side1 => exact zb); (case side2 => exact Kd.R_tight rfl HO_2.out); rintro e w35 ⟨v107, rfl, ho0, hb, hkp⟩; refine ⟨_, rfl, ?_⟩; have HO108 := zM (Kd.R_mono (ok' := fun k_ => (P2_ k_ ∨ w.heap.size ≤ k_)) ho0 (fun k_ hk_ => Or.elim hk_ (fun hs_ => (HO_2.out.1 k_ (hs_).symm)) (fun hn_ => (.inr (Nat.le_trans (by first | exact HK.out.1 | exact (show Kept w _ (fun k_ => P2_ k_) from zf).1) hn_))))); replace HK := zM (Kept.then_ (S := (fun k_ => P2_ k_)) (zf) hkp (fun k_ hs_ => (fun e_ => (HO_2.out.1 k_ e_.symm)) hs_)); replace HB := zM (hb); clear HO_2; (try clear hb); (try clear hkp); (try clear ho0); have p32 : 0 ≤ ((l2.length : Int) : Int) := zT zv; have q32 : ((l2.length : Int) : Int) < ((t106.length : Int) : Int) := zT zv; obtain ⟨go32, co32, eo32, gb32, gl32, cl32, HG32⟩ := Kd.R_form HO108.out (by omega); (first | cases eo32 | (injection eo32 with ea_ en_ ec_; (first | subst ea_ | (injection ea_ with ea_; subst ea_)); subst ec_; clear en_)); have GB32 := zM gb32; have GG32 := zM HG32; clear gb32 gl32 HG32; have HMgo32 := zM (show (P2_ go32 ∨ w.heap.size ≤ go32) from (HO108.out.1 _ rfl)); obtain ⟨ce32, hcl32, hM32, hcc32, hfr32⟩ := Kd.R_elem HO108.out z48 ((l2.length : Int) : Int) p32 q32; obtain rfl := k48_openM hM32; have hx32_0 : w35.cell? ⟨go32, ((l2.length : Int) : Int).toNat * 2, none⟩ = some (.string ((rd_T48 t106 (l2.length : Int)).f0)) := hcc32 0 _ rfl; have hx32_1 : w35.cell? ⟨go32, ((l2.length : Int) : Int).toNat * 2 + 1, none⟩ = some (.int .i64 ((rd_T48 t106 (l2.length : Int)).f1)) := hcc32 1 _ rfl; have hf32_0 : w35.frozen? ⟨go32, ((l2.length : Int) : Int).toNat * 2, none⟩ = false := hfr32 0; have hf32_1 : w35.frozen? ⟨go32, ((l2.length : Int) : Int).toNat * 2 + 1, none⟩ = false := hfr32 1; clear hcl32 hcc32 hfr32 hM32; replace p32 := eq_true p32; replace q32 := eq_true q32; have HX36 := zM (show Kd.R k48 48 w35 w0.heap.size (fun k_ => (P2_ k_ ∨ w.heap.size ≤ k_)) (.slice (some ⟨go32, 0, none⟩) t106.length co32) t106 from (zr HO108.out)); obtain ⟨ce36, hcl36, hM36, hcc36, hfr36⟩ := Kd.R_elem HX36.out z48 ((l2.length : Int) : Int) (zT zv) (by have h_ : ((l2.length : Int) : Int) < ((t106.length : Int) : Int) := zT zv; first | exact h_ | (have e_ := (Kd.R_reads' HO108.out).1; omega) | simpa using h_); obtain rfl := k48_openM hM36; have HP36 := Kd.R_seg HX36.out ((l2.length : Int) : Int) (zT zv) (by have h_ : ((l2.length : Int) : Int) < ((t106.length : Int) : Int) := zT zv; first | exact h_ | (have e_ := (Kd.R_reads' HO108.out).1; omega) | simpa using h_) (seg := [.int .i64 x13_3]) (j := 1) hcl36 hcc36 (show 2 ≤ 2 from by decide) (x' := (⟨(rd_T48 t106 (l2.length : Int)).f0, x13_3⟩ : S48)) (k48_mkM _ _ _ (⟨(rd_T48 t106 (l2.length : Int)).f0, x13_3⟩ : S48) ) (fun _ hk => hk); have hx36_1 := hcc36 1 _ rfl; (try simp only [show (k48).sz = 2 from rfl, Nat.mul_one, Nat.add_zero] at hx36_1); have hf36_1 := hfr36 1; (try simp only [show (k48).sz = 2 from rfl, Nat.mul_one, Nat.add_zero] at hf36_1); (try simp only [Int.toNat_natCast] at hf32_0); (try simp only [Int.toNat_natCast] at hf32_1); (try simp only [Int.toNat_natCast] at hf36_1); (try simp only [Int.toNat_natCast] at hx32_0); (try simp only [Int.toNat_natCast] at hx32_1); (try simp only [Int.toNat_natCast] at hx36_1); clear hcl36 hcc36 hfr36 hM36) | ((with_reducible refine gate_store (t := 3) (p := 88) rfl ?_); refine store_event (t := 3) (p := 88) (v := ?vo_w37) (w1 := (w35.setCell ⟨go32, ((l2.length : Int) : Int).toNat * 2 + 1, none⟩ (.int .i64 x13_3))) ?hg ?ho ?hn ?hr ?_; (case ho => rfl); (case hg => rfl); (case hn => rfl); (case hr => first | (go_simp; done) | (go_simp; rfl)); intro w37 hw; have hg : w35.grownBy w37 (some go32) := (by rw [hw]; exact HP36.2); have hp_ : Kd.R k48 48 w37 w0.heap.size (fun k_ => (P2_ k_ ∨ w.heap.size ≤ k_)) (.slice (some ⟨go32, 0, none⟩) t106.length co32) y111 := (by rw [hw, Ny111.out]; exact HP36.1); clear HP36; replace HB := zM ((by rw [hw]; exact below_set (HB.out) GB32.out : Below w0.heap.size w0 w37)); replace HK := zM (Kept.of_grown (S := (fun k_ => P2_ k_)) hg (zf) (fun k_ e_ => (HO108.out.1 k_ e_))); replace HO108 := zM (hp_); clear hg hw hp_))
                   (try simp only [Act.put, List.setIfInBounds_toArray, List.set_cons_zero, List.set_cons_succ])
                   go_cut [99] (fun v99 wc => ∃ (kq : Nat) (x99_32 : Bool), v99 = .bool x99_32 ∧ Aside0 (aumbryref04_Read.j4 kq a0 y111 t109 (l2.length : Int) x13_3 x99_32 = some (r1, r2, r3)) ∧ Aside0 (kq ≤ k3) ∧ Aside0 (Kd.R k48 48 wc w0.heap.size (fun k_ => (P2_ k_ ∨ w.heap.size ≤ k_)) (.slice (some ⟨go32, 0, none⟩) t106.length co32) y111) ∧ Aside0 (Kept w wc (fun k_ => P2_ k_)) ∧ Aside0 (Below w0.heap.size w0 wc))
                   case first =>
                    have H := HC33.out
                    clear HC33
                    by_cases c38 : t109 < (a0.size : Int)
                    ·
                     rw [if_pos c38] at H
                     have c38b0 : decide (t109 < (a0.size : Int)) = true := zQ c38
                     clear c38
                     (first | rw [c38b0] | (simp only [i64_w, i32_w]; rw [c38b0]) | skip)
                     by_cases c39 : 0 ≤ t109
                     ·
                      rw [if_pos c39] at H
                      have c39b0 : decide (0 ≤ t109) = true := zQ c39
                      clear c39
                      have H' := zM H
                      clear H
                      have p40 : 0 ≤ (t109 : Int) := zT zv
                      have q40 : t109 < (a0.size : Int) := zT zv
                      have hx40 := bt_at a0 t109
                      replace p40 := eq_true p40
                      replace q40 := eq_true q40
                      go_wp2
                      go_meet
                      case rel => exact ⟨_, (((bt a0 t109) == 41)), zy, H', ⟨by have := HJ3.out; have := HJ18.out; have := HK3.out; first | omega | exact Nat.le_refl _⟩, ⟨zr HO108.out⟩, ⟨zf⟩, ⟨zb⟩⟩
                     ·
                      rw [if_neg c39] at H
                      exact absurd H (by simp)
                    ·
                     rw [if_neg c38] at H
                     have c38b0 : decide (t109 < (a0.size : Int)) = false := zR c38
                     clear c38
                     (first | rw [c38b0] | (simp only [i64_w, i32_w]; rw [c38b0]) | skip)
                     have H' := zM H
                     clear H
                     go_wp2
                     go_meet
                     case rel => exact ⟨_, (false), zy, H', ⟨by have := HJ3.out; have := HJ18.out; have := HK3.out; first | omega | exact Nat.le_refl _⟩, ⟨zr HO108.out⟩, ⟨zf⟩, ⟨zb⟩⟩
                   case rest =>
                    clear HC33
                    try clear c1
                    try clear c2
                    try clear p2
                    try clear q2
                    try clear hx2
                    try clear c3
                    try clear p3
                    try clear q3
                    try clear hx3
                    try clear hf3
                    try clear c4
                    try clear p4
                    try clear q4
                    try clear hx4
                    try clear c5
                    try clear c5b0
                    try clear c6
                    try clear c6b0
                    try clear p6
                    try clear c7
                    try clear p7
                    try clear q7
                    try clear hx7
                    try clear c9
                    try clear c10
                    try clear c10b0
                    try clear c10b1
                    try clear c11
                    try clear c11b0
                    try clear c11b1
                    try clear c12
                    try clear c12b0
                    try clear c12b1
                    try clear c13
                    try clear c13b0
                    try clear c13b1
                    try clear c15
                    try clear c15b0
                    try clear c15b1
                    try clear c16
                    try clear c16b0
                    try clear c16b1
                    try clear c18
                    try clear c22
                    try clear c22b0
                    try clear c22b1
                    try clear c23
                    try clear c23b0
                    try clear c24
                    try clear c24b0
                    try clear p25
                    try clear q25
                    try clear hx25
                    try clear c26
                    try clear c27
                    try clear c27b0
                    try clear c27b1
                    try clear c29
                    try clear c29b0
                    try clear c29b1
                    try clear c30
                    try clear c30b0
                    try clear c30b1
                    try clear c31
                    try clear c31b0
                    try clear c31b1
                    try clear c32
                    try clear p32
                    try clear q32
                    try clear hx32
                    try clear hf32
                    try clear c36
                    try clear hx36
                    try clear hf36
                    try clear c38
                    try clear c38b0
                    try clear c39
                    try clear c39b0
                    try clear p40
                    try clear q40
                    try clear hx40
                    try clear hx32_0
                    try clear hx32_1
                    try clear hx36_1
                    try clear p2
                    try clear p25
                    try clear p32
                    try clear p40
                    try clear p6
                    try clear p7
                    try clear q2
                    try clear q25
                    try clear q32
                    try clear q40
                    try clear q7
                    obtain ⟨kq, x99_32, rfl, HA, HJ32, HO_2, HK, HB⟩ := hcut
                    have hl2_32 := (Kd.R_reads' HO_2.out).1
                    rw [hl2_32] at HO_2
                    (try simp only [hl2_32])
                    cases kq with
                    | zero => exact absurd HA.out (by simp [aumbryref04_Read.j4])
                    | succ kj32 =>
                     have H := HA.out
                     clear HA
                     simp only [aumbryref04_Read.j4] at H
                     by_cases c41 : x99_32 = true
                     ·
                      subst c41
                      rw [if_pos rfl] at H
                      simp only [Option.some.injEq, Prod.mk.injEq] at H
                      obtain ⟨rfl, rfl, rfl⟩ := H
                      go_wp2
                      go_ret3
                      exact ⟨_, zw, zr HO_2.out, zb, zf⟩
                     ·
                      replace c41 := zI c41
                      subst c41
                      rw [if_neg (show ¬ (false = true) by decide)] at H
                      have HC42 := zM H
                      clear H
                      go_upto_region 28 with (fail)
                      go_cut [112] (fun v112 wc => ∃ (kq : Nat) (x112_41 : Bool), v112 = .bool x112_41 ∧ Aside0 (aumbryref04_Read.j5 kq a0 y111 t109 (l2.length : Int) x13_3 x112_41 = some (r1, r2, r3)) ∧ Aside0 (kq ≤ kj32) ∧ Aside0 (Kd.R k48 48 wc w0.heap.size (fun k_ => (P2_ k_ ∨ w.heap.size ≤ k_)) (.slice (some ⟨go32, 0, none⟩) y111.length co32) y111) ∧ Aside0 (Kept w wc (fun k_ => P2_ k_)) ∧ Aside0 (Below w0.heap.size w0 wc))
                      case first =>
                       have H := HC42.out
                       clear HC42
                       by_cases c43 : t109 = (a0.size : Int)
                       ·
                        rw [if_pos c43] at H
                        have c43b0 : (t109 == (a0.size : Int)) = true := zG c43
                        have c43b1 : (t109 != (a0.size : Int)) = false := zH c43
                        clear c43
                        (first | rw [c43b0] | (simp only [i64_w, i32_w]; rw [c43b0]) | skip)
                        have H' := zM H
                        clear H
                        go_wp2
                        go_meet
                        case rel => exact ⟨_, (true), zy, H', ⟨by have := HJ3.out; have := HJ18.out; have := HK3.out; have := HJ32.out; first | omega | exact Nat.le_refl _⟩, ⟨by (try simp only [hl2_32]); (with_reducible repeat (first | apply Kd.R_alloc | apply Kd.R_drewN | apply Kd.R_drew)); exact HO_2.out⟩, ⟨zf⟩, ⟨zb⟩⟩
                       ·
                        rw [if_neg c43] at H
                        have c43b0 : (t109 == (a0.size : Int)) = false := zE c43
                        have c43b1 : (t109 != (a0.size : Int)) = true := zF c43
                        (first | rw [c43b0] | (simp only [i64_w, i32_w]; rw [c43b0]) | skip)
                        by_cases c44 : 0 ≤ t109
                        ·
                         rw [if_pos c44] at H
                         have c44b0 : decide (0 ≤ t109) = true := zQ c44
                         clear c44
                         by_cases c45 : t109 < (a0.size : Int)
                         ·
                          rw [if_pos c45] at H
                          have c45b0 : decide (t109 < (a0.size : Int)) = true := zQ c45
                          clear c45
                          have H' := zM H
                          clear H
                          have p46 : 0 ≤ (t109 : Int) := zT zv
                          have q46 : t109 < (a0.size : Int) := zT zv
                          have hx46 := bt_at a0 t109
                          replace p46 := eq_true p46
                          replace q46 := eq_true q46
                          go_wp2
                          go_meet
                          case rel => exact ⟨_, (((bt a0 t109) != 44)), zy, H', ⟨by have := HJ3.out; have := HJ18.out; have := HK3.out; have := HJ32.out; first | omega | exact Nat.le_refl _⟩, ⟨by (try simp only [hl2_32]); (with_reducible repeat (first | apply Kd.R_alloc | apply Kd.R_drewN | apply Kd.R_drew)); exact HO_2.out⟩, ⟨zf⟩, ⟨zb⟩⟩
                         ·
                          rw [if_neg c45] at H
                          exact absurd H (by simp)
                        ·
                         rw [if_neg c44] at H
                         exact absurd H (by simp)
                      case rest =>
                       clear HC42
                       try clear c1
                       try clear c2
                       try clear p2
                       try clear q2
                       try clear hx2
                       try clear c3
                       try clear p3
                       try clear q3
                       try clear hx3
                       try clear hf3
                       try clear c4
                       try clear p4
                       try clear q4
                       try clear hx4
                       try clear c5
                       try clear c5b0
                       try clear c6
                       try clear c6b0
                       try clear p6
                       try clear c7
                       try clear p7
                       try clear q7
                       try clear hx7
                       try clear c9
                       try clear c10
                       try clear c10b0
                       try clear c10b1
                       try clear c11
                       try clear c11b0
                       try clear c11b1
                       try clear c12
                       try clear c12b0
                       try clear c12b1
                       try clear c13
                       try clear c13b0
                       try clear c13b1
                       try clear c15
                       try clear c15b0
                       try clear c15b1
                       try clear c16
                       try clear c16b0
                       try clear c16b1
                       try clear c18
                       try clear c22
                       try clear c22b0
                       try clear c22b1
                       try clear c23
                       try clear c23b0
                       try clear c24
                       try clear c24b0
                       try clear p25
                       try clear q25
                       try clear hx25
                       try clear c26
                       try clear c27
                       try clear c27b0
                       try clear c27b1
                       try clear c29
                       try clear c29b0
                       try clear c29b1
                       try clear c30
                       try clear c30b0
                       try clear c30b1
                       try clear c31
                       try clear c31b0
                       try clear c31b1
                       try clear c32
                       try clear p32
                       try clear q32
                       try clear hx32
                       try clear hf32
                       try clear c36
                       try clear hx36
                       try clear hf36
                       try clear c38
                       try clear c38b0
                       try clear c39
                       try clear c39b0
                       try clear p40
                       try clear q40
                       try clear hx40
                       try clear c41
                       try clear c43
                       try clear c43b0
                       try clear c43b1
                       try clear c44
                       try clear c44b0
                       try clear c45
                       try clear c45b0
                       try clear p46
                       try clear q46
                       try clear hx46
                       try clear hx32_0
                       try clear hx32_1
                       try clear hx36_1
                       try clear p2
                       try clear p25
                       try clear p3
                       try clear p32
                       try clear p4
                       try clear p40
                       try clear p46
                       try clear p6
                       try clear p7
                       try clear q2
                       try clear q25
                       try clear q3
                       try clear q32
                       try clear q4
                       try clear q40
                       try clear q46
                       try clear q7
                       obtain ⟨kq, x112_41, rfl, HA, HJ41, HO_2, HK, HB⟩ := hcut
                       cases kq with
                       | zero => exact absurd HA.out (by simp [aumbryref04_Read.j5])
                       | succ kj41 =>
                        have H := HA.out
                        clear HA
                        simp only [aumbryref04_Read.j5] at H
                        by_cases c47 : x112_41 = true
                        ·
                         subst c47
                         rw [if_pos rfl] at H
                         simp only [Option.some.injEq, Prod.mk.injEq] at H
                         obtain ⟨rfl, rfl, rfl⟩ := H
                         go_wp2
                         go_ret3
                         exact ⟨_, zw, by first | exact Kd.R_nil _ _ _ _ _ | exact Kd.N_nil _ _ _ _ _ | exact Kd.V_nil _ _ _ _ _ | exact Kd.Q_nil _ _ _ _ _ | exact Kd.S_nil _ _ _ _ _, zb, zf⟩
                        ·
                         replace c47 := zI c47
                         subst c47
                         rw [if_neg (show ¬ (false = true) by decide)] at H
                         by_cases c48 : x13_3 = 4
                         ·
                          rw [if_pos c48] at H
                          have c48b0 : (x13_3 == 4) = true := zG c48
                          have c48b1 : (x13_3 != 4) = false := zH c48
                          clear c48
                          simp only [Option.some.injEq, Prod.mk.injEq] at H
                          obtain ⟨rfl, rfl, rfl⟩ := H
                          go_wp2
                          go_ret3
                          exact ⟨_, zw, by first | exact Kd.R_nil _ _ _ _ _ | exact Kd.N_nil _ _ _ _ _ | exact Kd.V_nil _ _ _ _ _ | exact Kd.Q_nil _ _ _ _ _ | exact Kd.S_nil _ _ _ _ _, zb, zf⟩
                         ·
                          rw [if_neg c48] at H
                          have c48b0 : (x13_3 == 4) = false := zE c48
                          have c48b1 : (x13_3 != 4) = true := zF c48
                          have H' := zM H
                          clear H
                          go_wp2
                          (try simp only [← hl2_32])
                          go_roundg kj41
                          case measure => have := HJ3.out; have := HJ18.out; have := HK3.out; have := HJ32.out; have := HJ41.out; omega
                          case rel => exact ⟨(y111), (t109), (wrap64 (x13_3 + 1)), zy, zy, H', ⟨by have := HJ3.out; have := HJ18.out; have := HK3.out; have := HJ32.out; have := HJ41.out; omega⟩, ⟨by (try simp only [hl2_32]); (with_reducible repeat (first | apply Kd.R_alloc | apply Kd.R_drewN | apply Kd.R_drew)); exact HO_2.out⟩, ⟨zf⟩, ⟨zb⟩⟩
                  ·
                   rw [if_neg c31] at H
                   exact absurd H (by simp)
                 ·
                  rw [if_neg c30] at H
                  exact absurd H (by simp)
                ·
                 rw [if_neg c29] at H
                 have c29b0 : (t110 == 0) = false := zE c29
                 have c29b1 : (t110 != 0) = true := zF c29
                 simp only [Option.some.injEq, Prod.mk.injEq] at H
                 obtain ⟨rfl, rfl, rfl⟩ := H
                 obtain ⟨Ao49, co49, eo49⟩ := Kd.R_slice HO_2.out
                 subst eo49
                 go_wp2_with (first | ((with_reducible refine gate_callee (f := 79) rfl ?_); refine goesL_ (some 75) rfl rfl Tryz.func79 (by kernel_rfl) rfl #[.string a0, .int .i64 (wrap64 (x9_3 + 1)), .slice Ao49 x2_3.length co49] rfl zl ?_; (with_reducible refine (ih k3 (by have := HJ3.out; have := HJ18.out; have := HK3.out; omega) a0 (wrap64 (x9_3 + 1)) (fun k_ => some k_ = (.slice Ao49 x2_3.length co49 : Value).ownBlock) (.slice Ao49 x2_3.length co49) x2_3 t106 t109 t110 w0 _ ?side1 ?side2 A28.out).mono ?_); (case side1 => exact zb); (case side2 => exact Kd.R_tight rfl HO_2.out); rintro e w50 ⟨v107, rfl, ho0, hb, hkp⟩; refine ⟨_, rfl, ?_⟩; have HO108 := zM (Kd.R_mono (ok' := fun k_ => (P2_ k_ ∨ w.heap.size ≤ k_)) ho0 (fun k_ hk_ => Or.elim hk_ (fun hs_ => (HO_2.out.1 k_ (hs_).symm)) (fun hn_ => (.inr (Nat.le_trans (by first | exact HK.out.1 | exact (show Kept w _ (fun k_ => P2_ k_) from zf).1) hn_))))); replace HK := zM (Kept.then_ (S := (fun k_ => P2_ k_)) (zf) hkp (fun k_ hs_ => (fun e_ => (HO_2.out.1 k_ e_.symm)) hs_)); replace HB := zM (hb); clear HO_2; (try clear hb); (try clear hkp); (try clear ho0)))
                 go_ret3
                 exact ⟨_, zw, by first | exact Kd.R_nil _ _ _ _ _ | exact Kd.N_nil _ _ _ _ _ | exact Kd.V_nil _ _ _ _ _ | exact Kd.Q_nil _ _ _ _ _ | exact Kd.S_nil _ _ _ _ _, zb, zf⟩
         ·
          rw [if_neg c18] at H
          exact absurd H (by simp)
     ·
      rw [if_neg c12] at H
      exact absurd H (by simp)
    ·
     rw [if_neg c11] at H
     exact absurd H (by simp)
   ·
    rw [if_neg c10] at H
    exact absurd H (by simp)


-- ==== PF51

def aumbryref04_Parse.j0 : Nat → List (S48) → Int → Int → Bool → Option ((List (S48)) × Int × Int)
 | 0, _, _, _, _ => none
 | k + 1, x5, x6, x7, x24 => if x24 = true then (some (([] : List (S48)), x6, 3)) else (if x7 = 0 then (some (x5, 0, 0)) else (some (([] : List (S48)), x6, x7)))
def aumbryref04_Parse.f (k : Nat) (a0 : ByteArray) : Option ((List (S48)) × Int × Int) := if (a0.size : Int) > 1024 then (some (([] : List (S48)), 0, 2)) else ((aumbryref04_Read.f k a0 0 ([] : List (S48))).bind fun bt101 => (if bt101.2.2 = 0 then (aumbryref04_Parse.j0 k bt101.1 bt101.2.1 bt101.2.2 (decide (bt101.2.1 < (a0.size : Int)))) else (aumbryref04_Parse.j0 k bt101.1 bt101.2.1 bt101.2.2 false)))
theorem aumbryref04_Parse.mono_l : ∀ k, (∀ y0 y1 y2 y3, LeO (aumbryref04_Parse.j0 k y0 y1 y2 y3) (aumbryref04_Parse.j0 (k + 1) y0 y1 y2 y3))
 | 0 => fun _ _ _ _ r h => by simp [aumbryref04_Parse.j0] at h
 | k + 1 => by
  have ih0 := aumbryref04_Parse.mono_l k
  ·
   intro y0 y1 y2 y3
   unfold aumbryref04_Parse.j0
   repeat' first
   | (with_reducible exact ih0 _ _ _ _)
   | (with_reducible exact aumbryref04_Read.mono _ _ _ _)
   | (with_reducible exact LeO.refl _)
   | (with_reducible exact LeO.none _)
   | (with_reducible refine LeO.ite ?_ ?_)
   | (with_reducible refine LeO.bind ?_ (fun _ => ?_))
theorem aumbryref04_Parse.mono : ∀ a0 k, LeO (aumbryref04_Parse.f k a0) (aumbryref04_Parse.f (k + 1) a0) := by
 intro a0 k
 have ih0 := aumbryref04_Parse.mono_l k
 unfold aumbryref04_Parse.f
 repeat' first
  | (with_reducible exact ih0 _ _ _ _)
  | (with_reducible exact aumbryref04_Read.mono _ _ _ _)
  | (with_reducible exact LeO.refl _)
  | (with_reducible exact LeO.none _)
  | (with_reducible refine LeO.ite ?_ ?_)
  | (with_reducible refine LeO.bind ?_ (fun _ => ?_))
theorem aumbryref04_Parse.calls (k : Nat) (a0 : ByteArray) (r1 : List (S48)) (r2 : Int) (r3 : Int) (w : World) (h : aumbryref04_Parse.f k a0 = some (r1, r2, r3)) :
 Calls Tryz.prog 51 #[.string a0] w fun e w' => ∃ v0_ : Value, e = .returned (.tuple #[v0_, .int .i64 r2, .int .i64 r3]) ∧ Kd.R k48 48 w' w.heap.size (fun _ => True) v0_ r1 ∧ Below w.heap.size w w' := by
 have HB := zM (Below.refl w.heap.size w)
 have H : (if (a0.size : Int) > 1024 then (some (([] : List (S48)), 0, 2)) else ((aumbryref04_Read.f k a0 0 ([] : List (S48))).bind fun bt101 => (if bt101.2.2 = 0 then (aumbryref04_Parse.j0 k bt101.1 bt101.2.1 bt101.2.2 (decide (bt101.2.1 < (a0.size : Int)))) else (aumbryref04_Parse.j0 k bt101.1 bt101.2.1 bt101.2.2 false)))) = some (r1, r2, r3) := h
 clear h
 by_cases c2 : (a0.size : Int) > 1024
 ·
  rw [if_pos c2] at H
  have c2b0 : decide (1024 < (a0.size : Int)) = true := zQ c2
  have c2b1 : decide (1024 < a0.size) = true := zQ (by omega)
  clear c2
  simp only [Option.some.injEq, Prod.mk.injEq] at H
  obtain ⟨rfl, rfl, rfl⟩ := H
  go_enter Tryz.func51, Tryz.ntmps51
  go_wp2
  go_ret3
  exact ⟨_, zw, by first | exact Kd.R_nil _ _ _ _ _ | exact Kd.N_nil _ _ _ _ _ | exact Kd.V_nil _ _ _ _ _ | exact Kd.Q_nil _ _ _ _ _ | exact Kd.S_nil _ _ _ _ _, zb⟩
 ·
  rw [if_neg c2] at H
  have c2b0 : decide (1024 < (a0.size : Int)) = false := zR c2
  have c2b1 : decide (1024 < a0.size) = false := zR (by omega)
  clear c2
  replace H := zB H
  obtain ⟨⟨t101, t104, t105⟩, A30, H⟩ := H
  try dsimp only at H
  have A3 := zM A30
  clear A30
  have HC4 := zM H
  clear H
  go_enter Tryz.func51, Tryz.ntmps51
  go_upto_region 4 with (first | ((with_reducible refine gate_callee (f := 79) rfl ?_); refine goesL_ (some 13) rfl rfl Tryz.func79 (by kernel_rfl) rfl #[.string a0, .int .i64 0, .slice none 0 0] rfl zl ?_; (refine (aumbryref04_Read.calls k a0 0 (fun k_ => some k_ = (.slice none 0 0 : Value).ownBlock) (.slice none 0 0) ([] : List (S48)) t101 t104 t105 w _ ?side1 ?side2 A3.out).mono ?_); (case side1 => exact zb); (case side2 => exact Kd.R_nil _ _ _ _ _); rintro e w5 ⟨v102, rfl, ho0, hb, hkp⟩; refine ⟨_, rfl, ?_⟩; have HO103 := zM (Kd.R_mono (ok' := fun k_ => True) ho0 (fun k_ hk_ => trivial)); replace HB := zM (hb); (try clear hb); (try clear hkp); (try clear ho0)))
  (try simp only [Act.put, List.setIfInBounds_toArray, List.set_cons_zero, List.set_cons_succ])
  go_cut [24] (fun v24 wc => ∃ (kq : Nat) (x24_3 : Bool), v24 = .bool x24_3 ∧ Aside0 (aumbryref04_Parse.j0 kq t101 t104 t105 x24_3 = some (r1, r2, r3)) ∧ Aside0 (kq ≤ k) ∧ Aside0 (Kd.R k48 48 wc w.heap.size (fun _ => True) v102 t101) ∧ Aside0 (Below w.heap.size w wc))
  case first =>
   have H := HC4.out
   clear HC4
   by_cases c6 : t105 = 0
   ·
    rw [if_pos c6] at H
    have c6b0 : (t105 == 0) = true := zG c6
    have c6b1 : (t105 != 0) = false := zH c6
    clear c6
    (first | rw [c6b0] | (simp only [i64_w, i32_w]; rw [c6b0]) | skip)
    have H' := zM H
    clear H
    go_wp2
    go_meet
    case rel => exact ⟨_, (decide (t104 < (a0.size : Int))), zy, H', ⟨by first | omega | exact Nat.le_refl _⟩, ⟨zr HO103.out⟩, ⟨zb⟩⟩
   ·
    rw [if_neg c6] at H
    have c6b0 : (t105 == 0) = false := zE c6
    have c6b1 : (t105 != 0) = true := zF c6
    (first | rw [c6b0] | (simp only [i64_w, i32_w]; rw [c6b0]) | skip)
    have H' := zM H
    clear H
    go_wp2
    go_meet
    case rel => exact ⟨_, (false), zy, H', ⟨by first | omega | exact Nat.le_refl _⟩, ⟨zr HO103.out⟩, ⟨zb⟩⟩
  case rest =>
   clear HC4
   try clear c2
   try clear c2b0
   try clear c2b1
   try clear p2
   try clear c5
   try clear c6
   try clear c6b0
   try clear c6b1
   obtain ⟨kq, x24_3, rfl, HA, HJ3, HO_5, HB⟩ := hcut
   cases kq with
   | zero => exact absurd HA.out (by simp [aumbryref04_Parse.j0])
   | succ kj3 =>
    have H := HA.out
    clear HA
    simp only [aumbryref04_Parse.j0] at H
    by_cases c7 : x24_3 = true
    ·
     subst c7
     rw [if_pos rfl] at H
     simp only [Option.some.injEq, Prod.mk.injEq] at H
     obtain ⟨rfl, rfl, rfl⟩ := H
     go_wp2
     go_ret3
     exact ⟨_, zw, by first | exact Kd.R_nil _ _ _ _ _ | exact Kd.N_nil _ _ _ _ _ | exact Kd.V_nil _ _ _ _ _ | exact Kd.Q_nil _ _ _ _ _ | exact Kd.S_nil _ _ _ _ _, zb⟩
    ·
     replace c7 := zI c7
     subst c7
     rw [if_neg (show ¬ (false = true) by decide)] at H
     by_cases c8 : t105 = 0
     ·
      rw [if_pos c8] at H
      have c8b0 : (t105 == 0) = true := zG c8
      have c8b1 : (t105 != 0) = false := zH c8
      clear c8
      simp only [Option.some.injEq, Prod.mk.injEq] at H
      obtain ⟨rfl, rfl, rfl⟩ := H
      go_wp2
      go_ret3
      exact ⟨_, zw, zr HO_5.out, zb⟩
     ·
      rw [if_neg c8] at H
      have c8b0 : (t105 == 0) = false := zE c8
      have c8b1 : (t105 != 0) = true := zF c8
      simp only [Option.some.injEq, Prod.mk.injEq] at H
      obtain ⟨rfl, rfl, rfl⟩ := H
      go_wp2
      go_ret3
      exact ⟨_, zw, by first | exact Kd.R_nil _ _ _ _ _ | exact Kd.N_nil _ _ _ _ _ | exact Kd.V_nil _ _ _ _ _ | exact Kd.Q_nil _ _ _ _ _ | exact Kd.S_nil _ _ _ _ _, zb⟩


-- ==== PF81

def aumbryref03_Has.l0 : Nat → List ByteArray → ByteArray → Int → Int → Option (Bool)
 | 0, _, _, _, _ => none
 | k + 1, x0, x1, x7, x8 => if x8 < x7 then (if 0 ≤ x8 then (if x8 < (x0.length : Int) then (if (rdOf ByteArray.empty x0 x8).toList = x1.toList then (some true) else (aumbryref03_Has.l0 k x0 x1 x7 (wrap64 (x8 + 1)))) else (none)) else (none)) else (some false)
def aumbryref03_Has.f (k : Nat) (l0 : List ByteArray) (a1 : ByteArray) : Option (Bool) := aumbryref03_Has.l0 k l0 a1 (l0.length : Int) 0
theorem aumbryref03_Has.mono_l : ∀ k, (∀ y0 y1 y2 y3, LeO (aumbryref03_Has.l0 k y0 y1 y2 y3) (aumbryref03_Has.l0 (k + 1) y0 y1 y2 y3))
 | 0 => fun _ _ _ _ r h => by simp [aumbryref03_Has.l0] at h
 | k + 1 => by
  have ih0 := aumbryref03_Has.mono_l k
  ·
   intro y0 y1 y2 y3
   unfold aumbryref03_Has.l0
   repeat' first
   | (with_reducible exact ih0 _ _ _ _)
   | (with_reducible exact LeO.refl _)
   | (with_reducible exact LeO.none _)
   | (with_reducible refine LeO.ite ?_ ?_)
   | (with_reducible refine LeO.bind ?_ (fun _ => ?_))
theorem aumbryref03_Has.mono : ∀ a0 a1 k, LeO (aumbryref03_Has.f k a0 a1) (aumbryref03_Has.f (k + 1) a0 a1) := by
 intro a0 a1 k
 have ih0 := aumbryref03_Has.mono_l k
 unfold aumbryref03_Has.f
 repeat' first
  | (with_reducible exact ih0 _ _ _ _)
  | (with_reducible exact LeO.refl _)
  | (with_reducible exact LeO.none _)
  | (with_reducible refine LeO.ite ?_ ?_)
  | (with_reducible refine LeO.bind ?_ (fun _ => ?_))
theorem aumbryref03_Has.calls (k : Nat) (A0 : Option Addr) (c0 : Nat) (l0 : List ByteArray) (a1 : ByteArray) (r : Bool) (w : World) (hr0 : Kd.C Kd.string w A0 l0.length l0) (hc0 : l0.length ≤ c0) (h : aumbryref03_Has.f k l0 a1 = some r) :
 Calls Tryz.prog 81 #[.slice A0 l0.length c0, .string a1] w fun e w' => e = .returned (.bool r) ∧ Drawn0 w w' := by
 have HR0 := zM hr0
 have HC0 := zM hc0
 clear hr0 hc0
 have H : (aumbryref03_Has.l0 k l0 a1 (l0.length : Int) 0) = some r := h
 clear h
 have H' := zM H
 clear H
 go_enter Tryz.func81, Tryz.ntmps81
 go_wp2
 go_loopg [8] k (fun kq v8 w' => ∃ (x8_1 : Int), v8 = .int .i64 x8_1 ∧ Aside0 (aumbryref03_Has.l0 kq l0 a1 (l0.length : Int) x8_1 = some r) ∧ Aside0 (kq ≤ k) ∧ Drawn0 w w')
 case atStart => exact ⟨(0), zy, H', ⟨Nat.le_refl _⟩, zd⟩
 case round =>
  clear H'
  try clear p2
  obtain ⟨x8_1, rfl, HA, HK1, ⟨m1, rfl⟩⟩ := hrel
  cases gk with
  | zero => exact absurd HA.out (by simp [aumbryref03_Has.l0])
  | succ k1 =>
   have H := HA.out
   clear HA
   simp only [aumbryref03_Has.l0] at H
   by_cases c3 : x8_1 < (l0.length : Int)
   ·
    rw [if_pos c3] at H
    have c3b0 : decide (x8_1 < (l0.length : Int)) = true := zQ c3
    clear c3
    by_cases c4 : 0 ≤ x8_1
    ·
     rw [if_pos c4] at H
     have c4b0 : decide (0 ≤ x8_1) = true := zQ c4
     clear c4
     by_cases c5 : x8_1 < (l0.length : Int)
     ·
      rw [if_pos c5] at H
      have c5b0 : decide (x8_1 < (l0.length : Int)) = true := zQ c5
      clear c5
      by_cases c6 : (rdOf ByteArray.empty l0 x8_1).toList = a1.toList
      ·
       rw [if_pos c6] at H
       have c6b0 : ((rdOf ByteArray.empty l0 x8_1).toList == a1.toList) = true := zG c6
       have c6b1 : ((rdOf ByteArray.empty l0 x8_1).toList != a1.toList) = false := zH c6
       clear c6
       obtain rfl := zS H
       have p101 : 0 ≤ (x8_1 : Int) := zT zv
       have q101 : x8_1 < (l0.length : Int) := zT zv
       obtain ⟨ad101, e101, hx101_0⟩ := Kd.at_string HR0.out x8_1 p101 q101
       cases e101
       replace p101 := eq_true p101
       replace q101 := eq_true q101
       go_wp2
       go_ret
       exact ⟨zy, zd⟩
      ·
       rw [if_neg c6] at H
       have c6b0 : ((rdOf ByteArray.empty l0 x8_1).toList == a1.toList) = false := zE c6
       have c6b1 : ((rdOf ByteArray.empty l0 x8_1).toList != a1.toList) = true := zF c6
       have H' := zM H
       clear H
       have p101 : 0 ≤ (x8_1 : Int) := zT zv
       have q101 : x8_1 < (l0.length : Int) := zT zv
       obtain ⟨ad101, e101, hx101_0⟩ := Kd.at_string HR0.out x8_1 p101 q101
       cases e101
       replace p101 := eq_true p101
       replace q101 := eq_true q101
       go_wp2
       go_roundg k1
       case measure => have := HK1.out; omega
       case rel => exact ⟨(wrap64 (x8_1 + 1)), zy, H', ⟨by have := HK1.out; omega⟩, zd⟩
     ·
      rw [if_neg c5] at H
      exact absurd H (by simp)
    ·
     rw [if_neg c4] at H
     exact absurd H (by simp)
   ·
    rw [if_neg c3] at H
    have c3b0 : decide (x8_1 < (l0.length : Int)) = false := zR c3
    clear c3
    obtain rfl := zS H
    go_wp2
    go_ret
    exact ⟨zy, zd⟩

end Go.Proofs.YtmlddeogmckgmaaGreatDoor.P
