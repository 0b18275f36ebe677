/- RewriteSlices: the law answers true at every input that the given row speaks of. Conditions: those of the given row, none besides. (Part 2 of 5; written by programs of this session, which drive the kit's print, and by hand.) -/
import Derived.Deep.RegionLaw
import Derived.RegionTactic
import Derived.ChangeAlike
import Derived.BigRegion
import Derived.IntWalk
import Derived.Outline
import Derived.Deep.RegionHeld3
import Derived.Deep.DeepCutAuto
import Derived.Shelf.Spec.SlicesInsert
import Derived.Shelf.Spec.SlicesInsertGrow
import Derived.Maps.OwnSet
import Derived.Maps.OwnOps
import Derived.Test.YtdlkhpfgkghhmaaZRewriteSlices0
set_option maxHeartbeats 8000000
set_option maxRecDepth 100000
set_option linter.unusedVariables false
set_option linter.unusedSimpArgs false
-- ==== PF38
namespace Go.Proofs.Ytdlkhpfgkghhmaa.P
open Go.RowKit Go.Proofs.YtdlkhpfgkghhmaaW.PrintWords Go.Proofs.YtdlkhpfgkghhmaaW.PrintLast Go.Proofs.YtdlkhpfgkghhmaaW.PrintMore
attribute [local go_sem] max2_int min2_int max_two min_two max_three min_three max_four min_four

def aumbryref04_SameAll.l0 : Nat → List (List (S54)) → List (List (S54)) → Int → Int → Option (Bool)
 | 0, _, _, _, _ => none
 | k + 1, x0, x1, x12, x13 => if x13 < x12 then (if 0 ≤ x13 then (if x13 < (x0.length : Int) then (if x13 < (x1.length : Int) then ((aumbryref04_Same.f k (rd_L3 x0 x13) (rd_L3 x1 x13)).bind fun t103 => (if t103 = true then (aumbryref04_SameAll.l0 k x0 x1 x12 (wrap64 (x13 + 1))) else (some false))) else (none)) else (none)) else (none)) else (some true)
def aumbryref04_SameAll.f (k : Nat) (l0 : List (List (S54))) (l1 : List (List (S54))) : Option (Bool) := if (l0.length : Int) = (l1.length : Int) then (aumbryref04_SameAll.l0 k l0 l1 (l0.length : Int) 0) else (some false)
theorem aumbryref04_SameAll.calls (k : Nat) (A0 : Option Addr) (c0 : Nat) (l0 : List (List (S54))) (A1 : Option Addr) (c1 : Nat) (l1 : List (List (S54))) (r : Bool) (w : World) (hr0 : Kd.C (Kd.slice 54 k54) w A0 l0.length l0) (hc0 : l0.length ≤ c0) (hr1 : Kd.C (Kd.slice 54 k54) w A1 l1.length l1) (hc1 : l1.length ≤ c1) (h : aumbryref04_SameAll.f k l0 l1 = some r) :
 Calls Try.prog 38 #[.slice A0 l0.length c0, .slice A1 l1.length c1] w fun e w' => e = .returned (.bool r) ∧ Drawn0 w w' := by
 have HR0 := zM hr0
 have HC0 := zM hc0
 clear hr0 hc0
 have HR1 := zM hr1
 have HC1 := zM hc1
 clear hr1 hc1
 have H : (if (l0.length : Int) = (l1.length : Int) then (aumbryref04_SameAll.l0 k l0 l1 (l0.length : Int) 0) else (some false)) = some r := h
 clear h
 by_cases c3 : (l0.length : Int) = (l1.length : Int)
 ·
  rw [if_pos c3] at H
  have c3b0 : ((l0.length : Int) == (l1.length : Int)) = true := zG c3
  have c3b1 : ((l0.length : Int) != (l1.length : Int)) = false := zH c3
  have c3b2 : (l0.length == l1.length) = true := by first | simpa using c3 | (simp at c3 ⊢; omega)
  clear c3
  have H' := zM H
  clear H
  go_enter Try.func38, Try.ntmps38
  go_wp2
  repeat (go_quiet (fail); try go_wp2)
  go_loopg [13] k (fun kq v13 w' => ∃ (x13_1 : Int), v13 = .int .i64 x13_1 ∧ Aside0 (aumbryref04_SameAll.l0 kq l0 l1 (l0.length : Int) x13_1 = some r) ∧ Aside0 (kq ≤ k) ∧ Drawn0 w w')
  case atStart => exact ⟨(0), zy, H', ⟨Nat.le_refl _⟩, zd⟩
  case round =>
   clear H'
   try clear c1
   try clear p2
   try clear c3
   try clear c3b0
   try clear c3b1
   try clear c3b2
   obtain ⟨x13_1, rfl, HA, HK1, ⟨m1, rfl⟩⟩ := hrel
   cases gk with
   | zero => exact absurd HA.out (by simp [aumbryref04_SameAll.l0])
   | succ k1 =>
    have H := HA.out
    clear HA
    simp only [aumbryref04_SameAll.l0] at H
    by_cases c4 : x13_1 < (l0.length : Int)
    ·
     rw [if_pos c4] at H
     have c4b0 : decide (x13_1 < (l0.length : Int)) = true := zQ c4
     clear c4
     by_cases c5 : 0 ≤ x13_1
     ·
      rw [if_pos c5] at H
      have c5b0 : decide (0 ≤ x13_1) = true := zQ c5
      clear c5
      by_cases c6 : x13_1 < (l0.length : Int)
      ·
       rw [if_pos c6] at H
       have c6b0 : decide (x13_1 < (l0.length : Int)) = true := zQ c6
       clear c6
       by_cases c7 : x13_1 < (l1.length : Int)
       ·
        rw [if_pos c7] at H
        have c7b0 : decide (x13_1 < (l1.length : Int)) = true := zQ c7
        clear c7
        replace H := zB H
        obtain ⟨t103, A80, H⟩ := H
        try dsimp only at H
        have A8 := zM A80
        clear A80
        by_cases c9 : t103 = true
        ·
         subst c9
         rw [if_pos rfl] at H
         have H' := zM H
         clear H
         have p101 : 0 ≤ (x13_1 : Int) := zT zv
         have q101 : x13_1 < (l0.length : Int) := zT zv
         obtain ⟨ad101, A101_0, c101_0, e101, hx101_0, hl101_0, hi101_0⟩ := at_L3 HR0.out x13_1 p101 q101
         cases e101
         have HR101_0 := zM hi101_0
         have HC101_0 := zM hl101_0
         clear hi101_0 hl101_0
         replace p101 := eq_true p101
         replace q101 := eq_true q101
         have p102 : 0 ≤ (x13_1 : Int) := zT zv
         have q102 : x13_1 < (l1.length : Int) := zT zv
         obtain ⟨ad102, A102_0, c102_0, e102, hx102_0, hl102_0, hi102_0⟩ := at_L3 HR1.out x13_1 p102 q102
         cases e102
         have HR102_0 := zM hi102_0
         have HC102_0 := zM hl102_0
         clear hi102_0 hl102_0
         replace p102 := eq_true p102
         replace q102 := eq_true q102
         go_wp2
         repeat (go_quiet (first | (go_at_call 27; (with_reducible refine (aumbryref04_Same.calls k1 _ _ (rd_L3 l0 x13_1) _ _ (rd_L3 l1 x13_1) true _ ?side1 ?side2 ?side3 ?side4 A8.out).mono ?_); (case side1 => exact Kd.C_below HR101_0.out zg); (case side2 => exact HC101_0.out); (case side3 => exact Kd.C_below HR102_0.out zg); (case side4 => exact HC102_0.out); rintro e w' ⟨rfl, ⟨nd, rfl⟩⟩; (try first | exact ⟨rfl, _, World.drewN_drewN _ _ _⟩ | exact ⟨rfl, _, Eq.trans (World.drewN_drewN _ _ _) (congrArg (World.drewN _) (Nat.add_assoc _ _ _))⟩))); try go_wp2)
         go_roundg k1
         case measure => have := HK1.out; omega
         case rel => exact ⟨(wrap64 (x13_1 + 1)), zy, H', ⟨by have := HK1.out; omega⟩, zd⟩
        ·
         replace c9 := zI c9
         subst c9
         rw [if_neg (show ¬ (false = true) by decide)] at H
         obtain rfl := zS H
         have p101 : 0 ≤ (x13_1 : Int) := zT zv
         have q101 : x13_1 < (l0.length : Int) := zT zv
         obtain ⟨ad101, A101_0, c101_0, e101, hx101_0, hl101_0, hi101_0⟩ := at_L3 HR0.out x13_1 p101 q101
         cases e101
         have HR101_0 := zM hi101_0
         have HC101_0 := zM hl101_0
         clear hi101_0 hl101_0
         replace p101 := eq_true p101
         replace q101 := eq_true q101
         have p102 : 0 ≤ (x13_1 : Int) := zT zv
         have q102 : x13_1 < (l1.length : Int) := zT zv
         obtain ⟨ad102, A102_0, c102_0, e102, hx102_0, hl102_0, hi102_0⟩ := at_L3 HR1.out x13_1 p102 q102
         cases e102
         have HR102_0 := zM hi102_0
         have HC102_0 := zM hl102_0
         clear hi102_0 hl102_0
         replace p102 := eq_true p102
         replace q102 := eq_true q102
         go_wp2
         repeat (go_quiet (first | (go_at_call 27; (with_reducible refine (aumbryref04_Same.calls k1 _ _ (rd_L3 l0 x13_1) _ _ (rd_L3 l1 x13_1) false _ ?side1 ?side2 ?side3 ?side4 A8.out).mono ?_); (case side1 => exact Kd.C_below HR101_0.out zg); (case side2 => exact HC101_0.out); (case side3 => exact Kd.C_below HR102_0.out zg); (case side4 => exact HC102_0.out); rintro e w' ⟨rfl, ⟨nd, rfl⟩⟩; (try first | exact ⟨rfl, _, World.drewN_drewN _ _ _⟩ | exact ⟨rfl, _, Eq.trans (World.drewN_drewN _ _ _) (congrArg (World.drewN _) (Nat.add_assoc _ _ _))⟩))); try go_wp2)
         go_ret
         exact ⟨zy, zd⟩
       ·
        rw [if_neg c7] at H
        exact absurd H (by simp)
      ·
       rw [if_neg c6] at H
       exact absurd H (by simp)
     ·
      rw [if_neg c5] at H
      exact absurd H (by simp)
    ·
     rw [if_neg c4] at H
     have c4b0 : decide (x13_1 < (l0.length : Int)) = false := zR c4
     clear c4
     obtain rfl := zS H
     go_wp2
     repeat (go_quiet (fail); try go_wp2)
     go_ret
     exact ⟨zy, zd⟩
 ·
  rw [if_neg c3] at H
  have c3b0 : ((l0.length : Int) == (l1.length : Int)) = false := zE c3
  have c3b1 : ((l0.length : Int) != (l1.length : Int)) = true := zF c3
  have c3b2 : (l0.length == l1.length) = false := by first | simpa using c3 | (simp at c3 ⊢; omega)
  obtain rfl := zS H
  go_enter Try.func38, Try.ntmps38
  go_wp2
  repeat (go_quiet (fail); try go_wp2)
  go_ret
  exact ⟨zy, zd⟩


-- ==== PF69

abbrev CkC := S54
structure IsRu (W : World) (g : Nat) (id : Int) (A1 : Option Addr) (c1 : Nat) (l : List CkC) (A2 : Option Addr) (c2 : Nat) (r : List CkC) : Prop where
 blk : W.heap[g]? = some (.cells #[.int .i64 id, .slice A1 l.length c1, .slice A2 r.length c2] 73 (0, 0))
 hl : Kd.C k54 W A1 l.length l
 hl' : l.length ≤ c1
 hr : Kd.C k54 W A2 r.length r
 hr' : r.length ≤ c2
theorem IsRu.below {W W' : World} {g c1 c2 : Nat} {id : Int} {A1 A2 : Option Addr} {l r : List CkC} (h : IsRu W g id A1 c1 l A2 c2 r) (hb : Below W.heap.size W W') : IsRu W' g id A1 c1 l A2 c2 r :=
 ⟨(hb.block g (blk_lt h.blk)).trans h.blk, Kd.C_below h.hl hb, h.hl', Kd.C_below h.hr hb, h.hr'⟩
theorem when_calls (b : Bool) (e : Int) (w : World) : Calls Try.prog 83 #[.bool b, .int .i64 e] w fun x w' => x = .returned (.int .i64 (if b = true then e else 0)) ∧ w' = w := by
 cases b
 ·
  go_enter Try.func83, Try.ntmps83
  go_wp2
  go_ret
  exact ⟨rfl, rfl⟩
 ·
  go_enter Try.func83, Try.ntmps83
  go_wp2
  go_ret
  exact ⟨rfl, rfl⟩
theorem ck1_calls {W : World} {g c1 c2 : Nat} {id : Int} {A1 A2 : Option Addr} {l r : List CkC} (h : IsRu W g id A1 c1 l A2 c2 r) :
 Calls Try.prog 82 #[.pointer (some ⟨g, 0, none⟩)] W fun x w' => x = .returned (.int .i64 (if id < 0 then 1 else if id > 65535 then 1 else 0)) ∧ Below W.heap.size W w' := by
 have hc0 : W.cell? ⟨g, 0, none⟩ = some (.int .i64 id) := (zX h.blk 0).trans rfl
 clear h
 by_cases h1 : id < 0
 ·
  have d1 : decide (id < 0) = true := zQ h1
  rw [if_pos h1]
  clear h1
  go_enter Try.func82, Try.ntmps82
  go_wp2_with (first | (go_at_call 83; (with_reducible refine (when_calls _ _ _).mono ?_); rintro e w1 ⟨rfl, rfl⟩))
  repeat (go_quiet (first | (go_at_call 83; (with_reducible refine (when_calls _ _ _).mono ?_); rintro e w1 ⟨rfl, rfl⟩)); try go_wp2_with (first | (go_at_call 83; (with_reducible refine (when_calls _ _ _).mono ?_); rintro e w1 ⟨rfl, rfl⟩)))
  all_goals (go_ret; exact ⟨by first | rfl | (simp; done) | (simp [*]; done) | (simp [*]; omega), by repeat (first | exact Below.refl _ _ | apply zN | apply zD)⟩)
 ·
  have d1 : decide (id < 0) = false := zR h1
  rw [if_neg h1]
  by_cases h2 : id > 65535
  ·
   have d2 : decide (65535 < id) = true := zQ h2
   rw [if_pos h2]
   clear h1 h2
   go_enter Try.func82, Try.ntmps82
   go_wp2_with (first | (go_at_call 83; (with_reducible refine (when_calls _ _ _).mono ?_); rintro e w1 ⟨rfl, rfl⟩))
   repeat (go_quiet (first | (go_at_call 83; (with_reducible refine (when_calls _ _ _).mono ?_); rintro e w1 ⟨rfl, rfl⟩)); try go_wp2_with (first | (go_at_call 83; (with_reducible refine (when_calls _ _ _).mono ?_); rintro e w1 ⟨rfl, rfl⟩)))
   all_goals (go_ret; exact ⟨by first | rfl | (simp; done) | (simp [*]; done) | (simp [*]; omega), by repeat (first | exact Below.refl _ _ | apply zN | apply zD)⟩)
  ·
   have d2 : decide (65535 < id) = false := zR h2
   rw [if_neg h2]
   clear h1 h2
   go_enter Try.func82, Try.ntmps82
   go_wp2_with (first | (go_at_call 83; (with_reducible refine (when_calls _ _ _).mono ?_); rintro e w1 ⟨rfl, rfl⟩))
   repeat (go_quiet (first | (go_at_call 83; (with_reducible refine (when_calls _ _ _).mono ?_); rintro e w1 ⟨rfl, rfl⟩)); try go_wp2_with (first | (go_at_call 83; (with_reducible refine (when_calls _ _ _).mono ?_); rintro e w1 ⟨rfl, rfl⟩)))
   all_goals (go_ret; exact ⟨by first | rfl | (simp; done) | (simp [*]; done) | (simp [*]; omega), by repeat (first | exact Below.refl _ _ | apply zN | apply zD)⟩)
theorem ck2_calls {W : World} {g c1 c2 k : Nat} {id e : Int} {A1 A2 : Option Addr} {l r : List CkC} (h : IsRu W g id A1 c1 l A2 c2 r) (he : term_Check.f k l = some e) :
 Calls Try.prog 84 #[.pointer (some ⟨g, 0, none⟩)] W fun x w' => x = .returned (.int .i64 e) ∧ Below W.heap.size W w' := by
 have hc0 : W.cell? ⟨g, 1, none⟩ = some (.slice A1 l.length c1) := (zX h.blk 1).trans rfl
 have C1 := term_Check.calls k A1 c1 l e W h.hl h.hl' he
 clear h he
 go_enter Try.func84, Try.ntmps84
 go_wp2_with (go_at_call 30; (with_reducible refine C1.mono ?_); rintro e w1 ⟨rfl, hb⟩; have HB := zM hb; clear hb)
 go_ret
 exact ⟨rfl, HB.out⟩
theorem ck3_calls {W : World} {g c1 c2 k : Nat} {id e : Int} {A1 A2 : Option Addr} {l r : List CkC} (h : IsRu W g id A1 c1 l A2 c2 r) (he : term_Check.f k r = some e) :
 Calls Try.prog 85 #[.pointer (some ⟨g, 0, none⟩)] W fun x w' => x = .returned (.int .i64 e) ∧ Below W.heap.size W w' := by
 have hc0 : W.cell? ⟨g, 2, none⟩ = some (.slice A2 r.length c2) := (zX h.blk 2).trans rfl
 have C1 := term_Check.calls k A2 c2 r e W h.hr h.hr' he
 clear h he
 go_enter Try.func85, Try.ntmps85
 go_wp2_with (go_at_call 30; (with_reducible refine C1.mono ?_); rintro e w1 ⟨rfl, hb⟩; have HB := zM hb; clear hb)
 go_ret
 exact ⟨rfl, HB.out⟩
theorem ck4_calls {W : World} {g c1 c2 : Nat} {id : Int} {A1 A2 : Option Addr} {l r : List CkC} (h : IsRu W g id A1 c1 l A2 c2 r) :
 Calls Try.prog 86 #[.pointer (some ⟨g, 0, none⟩)] W fun x w' => x = .returned (.int .i64 (if l.length > 8 then 6 else if r.length > 8 then 6 else 0)) ∧ Below W.heap.size W w' := by
 have hc1 : W.cell? ⟨g, 1, none⟩ = some (.slice A1 l.length c1) := (zX h.blk 1).trans rfl
 have hc2 : W.cell? ⟨g, 2, none⟩ = some (.slice A2 r.length c2) := (zX h.blk 2).trans rfl
 clear h
 by_cases hq : 8 < l.length ∨ 8 < r.length
 ·
  have HQ := zM hq
  have he : (if l.length > 8 then (6 : Int) else if r.length > 8 then 6 else 0) = 6 := by
   by_cases h1 : l.length > 8
   ·
    rw [if_pos h1]
   ·
    rw [if_neg h1, if_pos (by omega)]
  rw [he]
  clear he hq
  go_enter Try.func86, Try.ntmps86
  go_wp2_with (first | (go_at_call 83; (with_reducible refine (when_calls _ _ _).mono ?_); rintro e w1 ⟨rfl, rfl⟩))
  repeat (go_quiet (first | (go_at_call 83; (with_reducible refine (when_calls _ _ _).mono ?_); rintro e w1 ⟨rfl, rfl⟩)); try go_wp2_with (first | (go_at_call 83; (with_reducible refine (when_calls _ _ _).mono ?_); rintro e w1 ⟨rfl, rfl⟩)))
  all_goals (go_ret; exact ⟨by first | rfl | (simp; done) | (simp [*]; done) | (exfalso; have := HQ.out; omega), by repeat (first | exact Below.refl _ _ | apply zN | apply zD)⟩)
 ·
  have HQ := zM hq
  have he : (if l.length > 8 then (6 : Int) else if r.length > 8 then 6 else 0) = 0 := by
   rw [if_neg (by omega), if_neg (by omega)]
  rw [he]
  clear he hq
  go_enter Try.func86, Try.ntmps86
  go_wp2_with (first | (go_at_call 83; (with_reducible refine (when_calls _ _ _).mono ?_); rintro e w1 ⟨rfl, rfl⟩))
  repeat (go_quiet (first | (go_at_call 83; (with_reducible refine (when_calls _ _ _).mono ?_); rintro e w1 ⟨rfl, rfl⟩)); try go_wp2_with (first | (go_at_call 83; (with_reducible refine (when_calls _ _ _).mono ?_); rintro e w1 ⟨rfl, rfl⟩)))
  all_goals (go_ret; exact ⟨by first | rfl | (simp; done) | (simp [*]; done) | (exfalso; have := HQ.out; omega), by repeat (first | exact Below.refl _ _ | apply zN | apply zD)⟩)
theorem ck5_calls {W : World} {g c1 c2 k : Nat} {id e : Int} {A1 A2 : Option Addr} {l r : List CkC} (h : IsRu W g id A1 c1 l A2 c2 r) (hp : 0 < l.length) (he : name_Kind.f k (rd_T54 l 0).f0 = some e) :
 Calls Try.prog 87 #[.pointer (some ⟨g, 0, none⟩)] W fun x w' => x = .returned (.int .i64 (if e = 2 then 20 else 0)) ∧ Below W.heap.size W w' := by
 have hc1 : W.cell? ⟨g, 1, none⟩ = some (.slice A1 l.length c1) := (zX h.blk 1).trans rfl
 obtain ⟨ad101, e101, hx101_0, hx101_1⟩ := at_T54 h.hl 0 (by omega) (by omega)
 cases e101
 have C1 := fun W => name_Kind.calls k _ e W he
 clear h he
 have qi101 : (0 < l.length) = True := eq_true hp
 have c3b1 : decide (0 < l.length) = true := zQ hp
 clear hp
 (try rw [show ((0 : Int)).toNat = 0 from rfl] at hx101_0)
 (try rw [show 0 * 2 = 0 from rfl] at hx101_0)
 (try rw [Addr.add_zero'] at hx101_0)
 clear hx101_1
 by_cases h2 : e = 2
 ·
  have d2 : (e == 2) = true := zG h2
  rw [if_pos h2]
  clear h2
  go_enter Try.func87, Try.ntmps87
  go_wp2_with (first | (go_at_call 43; (with_reducible refine (C1 _).mono ?_); rintro e w1 ⟨rfl, ⟨nd, rfl⟩⟩) | (go_at_call 83; (with_reducible refine (when_calls _ _ _).mono ?_); rintro e w1 ⟨rfl, rfl⟩))
  repeat (go_quiet (first | (go_at_call 43; (with_reducible refine (C1 _).mono ?_); rintro e w1 ⟨rfl, ⟨nd, rfl⟩⟩) | (go_at_call 83; (with_reducible refine (when_calls _ _ _).mono ?_); rintro e w1 ⟨rfl, rfl⟩)); try go_wp2_with (first | (go_at_call 43; (with_reducible refine (C1 _).mono ?_); rintro e w1 ⟨rfl, ⟨nd, rfl⟩⟩) | (go_at_call 83; (with_reducible refine (when_calls _ _ _).mono ?_); rintro e w1 ⟨rfl, rfl⟩)))
  all_goals (go_ret; exact ⟨by first | rfl | (simp; done) | (simp [*]; done) | (simp [*]; omega), by repeat (first | exact Below.refl _ _ | apply zN | apply zD)⟩)
 ·
  have d2 : (e == 2) = false := zE h2
  rw [if_neg h2]
  clear h2
  go_enter Try.func87, Try.ntmps87
  go_wp2_with (first | (go_at_call 43; (with_reducible refine (C1 _).mono ?_); rintro e w1 ⟨rfl, ⟨nd, rfl⟩⟩) | (go_at_call 83; (with_reducible refine (when_calls _ _ _).mono ?_); rintro e w1 ⟨rfl, rfl⟩))
  repeat (go_quiet (first | (go_at_call 43; (with_reducible refine (C1 _).mono ?_); rintro e w1 ⟨rfl, ⟨nd, rfl⟩⟩) | (go_at_call 83; (with_reducible refine (when_calls _ _ _).mono ?_); rintro e w1 ⟨rfl, rfl⟩)); try go_wp2_with (first | (go_at_call 43; (with_reducible refine (C1 _).mono ?_); rintro e w1 ⟨rfl, ⟨nd, rfl⟩⟩) | (go_at_call 83; (with_reducible refine (when_calls _ _ _).mono ?_); rintro e w1 ⟨rfl, rfl⟩)))
  all_goals (go_ret; exact ⟨by first | rfl | (simp; done) | (simp [*]; done) | (simp [*]; omega), by repeat (first | exact Below.refl _ _ | apply zN | apply zD)⟩)
def strF (k : Nat) (vl : List ByteArray) : List ByteArray → Option Bool
 | [] => some false
 | v :: u => (slices_Contains_string_string.f k vl v).bind fun b => if b = true then strF k vl u else some true
structure IsVl (W : World) (p : Nat) (A : Option Addr) (c : Nat) (vl : List ByteArray) : Prop where
 blk : W.heap[p]? = some (.cells #[.slice A vl.length c] 26 (0, 0))
 hl : Kd.C Kd.string W A vl.length vl
 hc : vl.length ≤ c
theorem IsVl.below {W W' : World} {p c : Nat} {A : Option Addr} {vl : List ByteArray} (h : IsVl W p A c vl) (hb : Below W.heap.size W W') : IsVl W' p A c vl :=
 ⟨(hb.block p (blk_lt h.blk)).trans h.blk, Kd.C_below h.hl hb, h.hc⟩
theorem st1_calls {W : World} {p c k : Nat} {A : Option Addr} {vl : List ByteArray} {v : ByteArray} {b : Bool} (h : IsVl W p A c vl) (hf : slices_Contains_string_string.f k vl v = some b) :
 Calls Try.prog 97 #[.string v, .pointer (some ⟨p, 0, none⟩)] W fun x w' => x = .returned (.bool (!b)) ∧ Below W.heap.size W w' := by
 have hc0 : W.cell? ⟨p, 0, none⟩ = some (.slice A vl.length c) := (zX h.blk 0).trans rfl
 have C1 := slices_Contains_string_string.calls k A c vl v b W h.hl h.hc hf
 clear h hf
 go_enter Try.func97, Try.ntmps97
 go_wp2_with (first | (go_at_call 80; (with_reducible refine C1.mono ?_); rintro e w1 ⟨rfl, hb⟩; have HB := zM hb.below; clear hb))
 go_ret
 exact ⟨rfl, HB.out⟩
theorem ifn_calls {w : World} {p c k cr : Nat} {A Ar : Option Addr} {vl vr : List ByteArray} {b : Bool} (h : IsVl w p A c vl) (hr : Kd.C Kd.string w Ar vr.length vr) (hf : strF k vl vr = some b) :
 Calls Try.prog 105 #[.slice Ar vr.length cr, .func (.func 97) #[] #[.pointer (some ⟨p, 0, none⟩)]] w fun x w' => (∃ j : Int, x = .returned (.int .i64 j) ∧ decide (0 ≤ j) = b) ∧ Below w.heap.size w w' := by
 have HV := zM h
 have HR := zM hr
 have HF := zM hf
 have HM := zM (show (vr.length : Int) ≤ 9223372036854775807 by have := hr.2.1; omega)
 clear h hr hf
 have HB := zM (Below.refl w.heap.size w)
 go_enter Try.func105, Try.ntmps105
 go_wp2
 go_loopg [8] vr.length (fun kq v8 w' => ∃ x : Int, v8 = .int .i64 x ∧ Aside0 (0 ≤ x ∧ x + kq = (vr.length : Int)) ∧ Aside0 (strF k vl (vr.drop x.toNat) = some b) ∧ Aside0 (Below w.heap.size w w'))
 case atStart => exact ⟨0, rfl, ⟨by omega⟩, HF, HB⟩
 case round =>
  clear HF HB
  obtain ⟨x, rfl, HI, HF, HB⟩ := hrel
  cases gk with
  | succ k1 =>
   have hi : 0 ≤ x ∧ x < (vr.length : Int) := by have := HI.out; omega
   have hb0 : decide (x < (vr.length : Int)) = true := zQ hi.2
   have hb2 : decide (0 ≤ x) = true := zQ hi.1
   have hd : vr.drop x.toNat = rdOf ByteArray.empty vr x :: vr.drop (x.toNat + 1) := by
    rw [List.drop_eq_getElem_cons (by omega)]
    congr 1
    unfold rdOf
    rw [List.getD_eq_getElem?_getD, List.getElem?_eq_getElem (by omega)]
    rfl
   obtain ⟨ad, rfl, hx⟩ := Kd.at_string HR.out x hi.1 hi.2
   replace hx := (HB.out.cell (World.block_lt_of_cell? w _ hx)).trans hx
   have hf := HF.out
   rw [hd] at hf
   unfold strF at hf
   obtain ⟨b1, hb1, hf⟩ := zB hf
   have HX := zM hi
   have S1 := fun (W : World) (hW : Below w.heap.size w W) => st1_calls (HV.out.below hW) hb1
   have hp := eq_true hi.1
   have hq := eq_true hi.2
   cases b1 with
   | true =>
    rw [if_pos rfl] at hf
    have HF2 := zM hf
    clear hf hd hi hb1
    go_wp2_with (first | (go_at_call 97; (with_reducible refine (S1 _ ?side1).mono ?_); (case side1 => exact zb); rintro e w1 ⟨rfl, hb⟩; replace HB := zM (below_step zb hb); clear hb))
    go_roundg k1
    case measure => have := HI.out; omega
    case rel => exact ⟨x + 1, by have e_ : wrap64 (x + 1) = x + 1 := (by have := HX.out; have := HM.out; unfold wrap64; omega); first | rfl | rw [e_] | (simp [e_]; done), ⟨by have := HI.out; omega⟩, ⟨by rw [show (x + 1).toNat = x.toNat + 1 by have := HX.out; omega]; exact HF2.out⟩, ⟨by repeat (first | exact HB.out | apply zA | apply zN | apply zD)⟩⟩
   | false =>
    rw [if_neg (by simp)] at hf
    obtain rfl := zS hf
    clear hf hd hi hb1
    go_wp2_with (first | (go_at_call 97; (with_reducible refine (S1 _ ?side1).mono ?_); (case side1 => exact zb); rintro e w1 ⟨rfl, hb⟩; replace HB := zM (below_step zb hb); clear hb))
    go_ret
    exact ⟨⟨x, rfl, zQ HX.out.1⟩, by repeat (first | exact HB.out | apply zA | apply zN | apply zD)⟩
  | zero =>
   have hb0 : decide (x < (vr.length : Int)) = false := zR (by have := HI.out; omega)
   have hf := HF.out
   rw [List.drop_eq_nil_of_le (by have := HI.out; omega)] at hf
   obtain rfl := zS hf
   clear hf
   go_wp2
   go_ret
   exact ⟨⟨-1, rfl, rfl⟩, HB.out⟩
theorem cfn_calls {w : World} {p c k cr : Nat} {A Ar : Option Addr} {vl vr : List ByteArray} {b : Bool} (h : IsVl w p A c vl) (hr : Kd.C Kd.string w Ar vr.length vr) (hf : strF k vl vr = some b) :
 Calls Try.prog 96 #[.slice Ar vr.length cr, .func (.func 97) #[] #[.pointer (some ⟨p, 0, none⟩)]] w fun x w' => x = .returned (.bool b) ∧ Below w.heap.size w w' := by
 have C1 := ifn_calls (cr := cr) h hr hf
 clear h hr hf
 go_enter Try.func96, Try.ntmps96
 go_wp2_with (first | (go_at_call 105; (with_reducible refine C1.mono ?_); rintro e w1 ⟨⟨j, rfl, hj⟩, hb⟩; have HB := zM hb; clear hb))
 go_ret
 exact ⟨zy, HB.out⟩
theorem str_calls {w : World} {c1 c2 k : Nat} {id q1 q2 : Int} {A1 A2 : Option Addr} {l r : List CkC} {vl vr : List ByteArray} {b : Bool} (hl : Kd.C k54 w A1 l.length l) (hl' : l.length ≤ c1) (hr : Kd.C k54 w A2 r.length r) (hr' : r.length ≤ c2)
 (h1 : term_Vars.f k l = some (vl, q1)) (h2 : term_Vars.f k r = some (vr, q2)) (hf : strF k vl vr = some b) :
 Calls Try.prog 89 #[.agg #[.int .i64 id, .slice A1 l.length c1, .slice A2 r.length c2]] w fun x w' => x = .returned (.bool b) ∧ Below w.heap.size w w' := by
 have HL := zM hl
 have HR := zM hr
 have V1 := fun (W : World) (hW : Below w.heap.size w W) => term_Vars.calls k A1 c1 l vl q1 W (Kd.C_below hl hW) hl' h1
 have V2 := fun (W : World) (hW : Below w.heap.size w W) => term_Vars.calls k A2 c2 r vr q2 W (Kd.C_below hr hW) hr' h2
 clear hl hr h1 h2
 have HF := zM hf
 clear hf
 have hmf : ∀ (fn : Fn) (first cap : Array Value) (w : World), (Instr.makeFunc fn first cap).run Try.prog w = .ok (.func fn first cap) w := fun _ _ _ _ => rfl
 have HB := zM (Below.refl w.heap.size w)
 go_enter Try.func89, Try.ntmps89
 go_wp2_with (first | (go_at_call 62; (with_reducible refine (V1 _ ?side1).mono ?_); (case side1 => exact zb); rintro e w1 ⟨v1, rfl, hR, hb⟩; obtain ⟨Av, cv, rfl⟩ := Kd.R_slice hR; have HRV := zM (Kd.R_reads' hR).2; have hz : w.heap.size + 1 ≤ w1.heap.size := (by have h_ := hb.size; simp at h_; omega); have hzc : w1.cell? ⟨w.heap.size, 2, none⟩ = some (.slice A2 r.length c2) := (hb.cell (p := ⟨w.heap.size, 2, none⟩) (by simp)).trans ((cell_of_row _ _ 2 _ _ (0, 0) (heap_alloc_new w _)).trans rfl); replace HB := zM (below_step zb hb); clear hR hb; have HZ := zM hz; have hlt : w.heap.size < w1.heap.size := hz; clear hz) | (go_at_call 62; (with_reducible refine (V2 _ ?side2).mono ?_); (case side2 => exact (by repeat (first | exact HB.out | apply zA | apply zN | apply zD | (refine below_set ?_ (by have := HZ.out; omega))))); rintro e w2 ⟨v2, rfl, hR, hb⟩; obtain ⟨Ar, cr, rfl⟩ := Kd.R_slice hR; have hbx := heap_alloc_new w1 (.cells #[.slice Av vl.length cv] 26); have HIV := zM (IsVl.below (vl := vl) (c := cv) (A := Av) ⟨hbx, Kd.C_below HRV.out.2 (zA (Below.refl _ _) _), HRV.out.1⟩ hb); have HCR := zM (Kd.R_reads' hR).2.2; replace HB := zM (below_step (by repeat (first | exact HB.out | apply zA | apply zN | apply zD | (refine below_set ?_ (by have := HZ.out; omega)))) hb); clear hR hb hbx) | (go_at_call 96; (with_reducible refine (cfn_calls HIV.out HCR.out HF.out).mono ?_); rintro e w3 ⟨rfl, hb⟩; replace HB := zM (below_step HB.out hb); clear hb))
 go_ret
 exact ⟨rfl, HB.out⟩
def fst6 (e1 e2 e3 e4 e5 e6 : Int) : Int := if e1 ≠ 0 then e1 else if e2 ≠ 0 then e2 else if e3 ≠ 0 then e3 else if e4 ≠ 0 then e4 else if e5 ≠ 0 then e5 else e6
abbrev Asks (w : World) (f : Nat) (p : Value) (e : Int) : Prop := ∀ W, Below w.heap.size w W → Calls Try.prog f #[p] W fun x w' => x = .returned (.int .i64 e) ∧ Below W.heap.size W w'
def fnV (f : Nat) (p : Value) : Value := .func (.func f) #[] #[p]
theorem first_calls {w : World} {s : Nat} {p : Value} {e1 e2 e3 e4 e5 e6 : Int}
 (hs : w.heap[s]? = some (.cells #[fnV 82 p, fnV 84 p, fnV 85 p, fnV 86 p, fnV 87 p, fnV 88 p] 134 (0, 0)))
 (h1 : Asks w 82 p e1) (h2 : e1 = 0 → Asks w 84 p e2) (h3 : e1 = 0 → e2 = 0 → Asks w 85 p e3)
 (h4 : e1 = 0 → e2 = 0 → e3 = 0 → Asks w 86 p e4) (h5 : e1 = 0 → e2 = 0 → e3 = 0 → e4 = 0 → Asks w 87 p e5) (h6 : e1 = 0 → e2 = 0 → e3 = 0 → e4 = 0 → e5 = 0 → Asks w 88 p e6) :
 Calls Try.prog 81 #[.slice (some ⟨s, 0, none⟩) 6 6] w fun x w' => x = .returned (.int .i64 (fst6 e1 e2 e3 e4 e5 e6)) ∧ Below w.heap.size w w' := by
 have hc0_0 : w.cell? ⟨s, 0, none⟩ = some (.func (.func 82) #[] #[p]) := (zX hs 0).trans rfl
 have hc0_1 : w.cell? ⟨s, 1, none⟩ = some (.func (.func 84) #[] #[p]) := (zX hs 1).trans rfl
 have hc0_2 : w.cell? ⟨s, 2, none⟩ = some (.func (.func 85) #[] #[p]) := (zX hs 2).trans rfl
 have hc0_3 : w.cell? ⟨s, 3, none⟩ = some (.func (.func 86) #[] #[p]) := (zX hs 3).trans rfl
 have hc0_4 : w.cell? ⟨s, 4, none⟩ = some (.func (.func 87) #[] #[p]) := (zX hs 4).trans rfl
 have hc0_5 : w.cell? ⟨s, 5, none⟩ = some (.func (.func 88) #[] #[p]) := (zX hs 5).trans rfl
 have HB := zM (Below.refl w.heap.size w)
 clear hs
 have HC0 := zM hc0_0
 have HC1 := zM hc0_1
 have HC2 := zM hc0_2
 have HC3 := zM hc0_3
 have HC4 := zM hc0_4
 have HC5 := zM hc0_5
 clear hc0_0 hc0_1 hc0_2 hc0_3 hc0_4 hc0_5
 have a1 := h1
 by_cases c1 : e1 = 0
 case neg =>
  have d1 : (e1 != 0) = true := zF c1
  have hf : fst6 e1 e2 e3 e4 e5 e6 = e1 := by
   unfold fst6
   simp [c1]
  rw [hf]
  clear hf c1 h1 h2 h3 h4 h5 h6
  have hc_0 := HC0.out
  go_enter Try.func81, Try.ntmps81
  go_wp2
  refine wp_loop_rounds 1 ?_
  rw [rounds_succ]
  go_wp2_with (first | (go_at_call 82; (with_reducible refine (a1 _ ?side1).mono ?_); (case side1 => exact zb); rintro e w1 ⟨rfl, hb⟩; replace HB := zM (below_step zb hb); clear hb; have hc_1 := pw_cell_below HB.out HC1.out))
  go_ret
  exact ⟨zy, HB.out⟩
 case pos =>
 subst c1
 have a2 := h2 rfl
 by_cases c2 : e2 = 0
 case neg =>
  have d2 : (e2 != 0) = true := zF c2
  have hf : fst6 0 e2 e3 e4 e5 e6 = e2 := by
   unfold fst6
   simp [c2]
  rw [hf]
  clear hf c2 h1 h2 h3 h4 h5 h6
  have hc_0 := HC0.out
  go_enter Try.func81, Try.ntmps81
  go_wp2
  refine wp_loop_rounds 2 ?_
  rw [rounds_succ]
  go_wp2_with (first | (go_at_call 82; (with_reducible refine (a1 _ ?side1).mono ?_); (case side1 => exact zb); rintro e w1 ⟨rfl, hb⟩; replace HB := zM (below_step zb hb); clear hb; have hc_1 := pw_cell_below HB.out HC1.out))
  rw [rounds_succ]
  go_wp2_with (first | (go_at_call 84; (with_reducible refine (a2 _ ?side2).mono ?_); (case side2 => exact zb); rintro e w2 ⟨rfl, hb⟩; replace HB := zM (below_step zb hb); clear hb; have hc_2 := pw_cell_below HB.out HC2.out))
  go_ret
  exact ⟨zy, HB.out⟩
 case pos =>
 subst c2
 have a3 := h3 rfl rfl
 by_cases c3 : e3 = 0
 case neg =>
  have d3 : (e3 != 0) = true := zF c3
  have hf : fst6 0 0 e3 e4 e5 e6 = e3 := by
   unfold fst6
   simp [c3]
  rw [hf]
  clear hf c3 h1 h2 h3 h4 h5 h6
  have hc_0 := HC0.out
  go_enter Try.func81, Try.ntmps81
  go_wp2
  refine wp_loop_rounds 3 ?_
  rw [rounds_succ]
  go_wp2_with (first | (go_at_call 82; (with_reducible refine (a1 _ ?side1).mono ?_); (case side1 => exact zb); rintro e w1 ⟨rfl, hb⟩; replace HB := zM (below_step zb hb); clear hb; have hc_1 := pw_cell_below HB.out HC1.out))
  rw [rounds_succ]
  go_wp2_with (first | (go_at_call 84; (with_reducible refine (a2 _ ?side2).mono ?_); (case side2 => exact zb); rintro e w2 ⟨rfl, hb⟩; replace HB := zM (below_step zb hb); clear hb; have hc_2 := pw_cell_below HB.out HC2.out))
  rw [rounds_succ]
  go_wp2_with (first | (go_at_call 85; (with_reducible refine (a3 _ ?side3).mono ?_); (case side3 => exact zb); rintro e w3 ⟨rfl, hb⟩; replace HB := zM (below_step zb hb); clear hb; have hc_3 := pw_cell_below HB.out HC3.out))
  go_ret
  exact ⟨zy, HB.out⟩
 case pos =>
 subst c3
 have a4 := h4 rfl rfl rfl
 by_cases c4 : e4 = 0
 case neg =>
  have d4 : (e4 != 0) = true := zF c4
  have hf : fst6 0 0 0 e4 e5 e6 = e4 := by
   unfold fst6
   simp [c4]
  rw [hf]
  clear hf c4 h1 h2 h3 h4 h5 h6
  have hc_0 := HC0.out
  go_enter Try.func81, Try.ntmps81
  go_wp2
  refine wp_loop_rounds 4 ?_
  rw [rounds_succ]
  go_wp2_with (first | (go_at_call 82; (with_reducible refine (a1 _ ?side1).mono ?_); (case side1 => exact zb); rintro e w1 ⟨rfl, hb⟩; replace HB := zM (below_step zb hb); clear hb; have hc_1 := pw_cell_below HB.out HC1.out))
  rw [rounds_succ]
  go_wp2_with (first | (go_at_call 84; (with_reducible refine (a2 _ ?side2).mono ?_); (case side2 => exact zb); rintro e w2 ⟨rfl, hb⟩; replace HB := zM (below_step zb hb); clear hb; have hc_2 := pw_cell_below HB.out HC2.out))
  rw [rounds_succ]
  go_wp2_with (first | (go_at_call 85; (with_reducible refine (a3 _ ?side3).mono ?_); (case side3 => exact zb); rintro e w3 ⟨rfl, hb⟩; replace HB := zM (below_step zb hb); clear hb; have hc_3 := pw_cell_below HB.out HC3.out))
  rw [rounds_succ]
  go_wp2_with (first | (go_at_call 86; (with_reducible refine (a4 _ ?side4).mono ?_); (case side4 => exact zb); rintro e w4 ⟨rfl, hb⟩; replace HB := zM (below_step zb hb); clear hb; have hc_4 := pw_cell_below HB.out HC4.out))
  go_ret
  exact ⟨zy, HB.out⟩
 case pos =>
 subst c4
 have a5 := h5 rfl rfl rfl rfl
 by_cases c5 : e5 = 0
 case neg =>
  have d5 : (e5 != 0) = true := zF c5
  have hf : fst6 0 0 0 0 e5 e6 = e5 := by
   unfold fst6
   simp [c5]
  rw [hf]
  clear hf c5 h1 h2 h3 h4 h5 h6
  have hc_0 := HC0.out
  go_enter Try.func81, Try.ntmps81
  go_wp2
  refine wp_loop_rounds 5 ?_
  rw [rounds_succ]
  go_wp2_with (first | (go_at_call 82; (with_reducible refine (a1 _ ?side1).mono ?_); (case side1 => exact zb); rintro e w1 ⟨rfl, hb⟩; replace HB := zM (below_step zb hb); clear hb; have hc_1 := pw_cell_below HB.out HC1.out))
  rw [rounds_succ]
  go_wp2_with (first | (go_at_call 84; (with_reducible refine (a2 _ ?side2).mono ?_); (case side2 => exact zb); rintro e w2 ⟨rfl, hb⟩; replace HB := zM (below_step zb hb); clear hb; have hc_2 := pw_cell_below HB.out HC2.out))
  rw [rounds_succ]
  go_wp2_with (first | (go_at_call 85; (with_reducible refine (a3 _ ?side3).mono ?_); (case side3 => exact zb); rintro e w3 ⟨rfl, hb⟩; replace HB := zM (below_step zb hb); clear hb; have hc_3 := pw_cell_below HB.out HC3.out))
  rw [rounds_succ]
  go_wp2_with (first | (go_at_call 86; (with_reducible refine (a4 _ ?side4).mono ?_); (case side4 => exact zb); rintro e w4 ⟨rfl, hb⟩; replace HB := zM (below_step zb hb); clear hb; have hc_4 := pw_cell_below HB.out HC4.out))
  rw [rounds_succ]
  go_wp2_with (first | (go_at_call 87; (with_reducible refine (a5 _ ?side5).mono ?_); (case side5 => exact zb); rintro e w5 ⟨rfl, hb⟩; replace HB := zM (below_step zb hb); clear hb; have hc_5 := pw_cell_below HB.out HC5.out))
  go_ret
  exact ⟨zy, HB.out⟩
 case pos =>
 subst c5
 have a6 := h6 rfl rfl rfl rfl rfl
 by_cases c6 : e6 = 0
 case neg =>
  have d6 : (e6 != 0) = true := zF c6
  have hf : fst6 0 0 0 0 0 e6 = e6 := by
   unfold fst6
   simp [c6]
  rw [hf]
  clear hf c6 h1 h2 h3 h4 h5 h6
  have hc_0 := HC0.out
  go_enter Try.func81, Try.ntmps81
  go_wp2
  refine wp_loop_rounds 6 ?_
  rw [rounds_succ]
  go_wp2_with (first | (go_at_call 82; (with_reducible refine (a1 _ ?side1).mono ?_); (case side1 => exact zb); rintro e w1 ⟨rfl, hb⟩; replace HB := zM (below_step zb hb); clear hb; have hc_1 := pw_cell_below HB.out HC1.out))
  rw [rounds_succ]
  go_wp2_with (first | (go_at_call 84; (with_reducible refine (a2 _ ?side2).mono ?_); (case side2 => exact zb); rintro e w2 ⟨rfl, hb⟩; replace HB := zM (below_step zb hb); clear hb; have hc_2 := pw_cell_below HB.out HC2.out))
  rw [rounds_succ]
  go_wp2_with (first | (go_at_call 85; (with_reducible refine (a3 _ ?side3).mono ?_); (case side3 => exact zb); rintro e w3 ⟨rfl, hb⟩; replace HB := zM (below_step zb hb); clear hb; have hc_3 := pw_cell_below HB.out HC3.out))
  rw [rounds_succ]
  go_wp2_with (first | (go_at_call 86; (with_reducible refine (a4 _ ?side4).mono ?_); (case side4 => exact zb); rintro e w4 ⟨rfl, hb⟩; replace HB := zM (below_step zb hb); clear hb; have hc_4 := pw_cell_below HB.out HC4.out))
  rw [rounds_succ]
  go_wp2_with (first | (go_at_call 87; (with_reducible refine (a5 _ ?side5).mono ?_); (case side5 => exact zb); rintro e w5 ⟨rfl, hb⟩; replace HB := zM (below_step zb hb); clear hb; have hc_5 := pw_cell_below HB.out HC5.out))
  rw [rounds_succ]
  go_wp2_with (first | (go_at_call 88; (with_reducible refine (a6 _ ?side6).mono ?_); (case side6 => exact zb); rintro e w6 ⟨rfl, hb⟩; replace HB := zM (below_step zb hb); clear hb))
  go_ret
  exact ⟨zy, HB.out⟩
 case pos =>
 subst c6
 have hf : fst6 0 0 0 0 0 0 = 0 := rfl
 rw [hf]
 clear hf h1 h2 h3 h4 h5 h6
 have hc_0 := HC0.out
 go_enter Try.func81, Try.ntmps81
 go_wp2
 refine wp_loop_rounds 7 ?_
 rw [rounds_succ]
 go_wp2_with (first | (go_at_call 82; (with_reducible refine (a1 _ ?side1).mono ?_); (case side1 => exact zb); rintro e w1 ⟨rfl, hb⟩; replace HB := zM (below_step zb hb); clear hb; have hc_1 := pw_cell_below HB.out HC1.out))
 rw [rounds_succ]
 go_wp2_with (first | (go_at_call 84; (with_reducible refine (a2 _ ?side2).mono ?_); (case side2 => exact zb); rintro e w2 ⟨rfl, hb⟩; replace HB := zM (below_step zb hb); clear hb; have hc_2 := pw_cell_below HB.out HC2.out))
 rw [rounds_succ]
 go_wp2_with (first | (go_at_call 85; (with_reducible refine (a3 _ ?side3).mono ?_); (case side3 => exact zb); rintro e w3 ⟨rfl, hb⟩; replace HB := zM (below_step zb hb); clear hb; have hc_3 := pw_cell_below HB.out HC3.out))
 rw [rounds_succ]
 go_wp2_with (first | (go_at_call 86; (with_reducible refine (a4 _ ?side4).mono ?_); (case side4 => exact zb); rintro e w4 ⟨rfl, hb⟩; replace HB := zM (below_step zb hb); clear hb; have hc_4 := pw_cell_below HB.out HC4.out))
 rw [rounds_succ]
 go_wp2_with (first | (go_at_call 87; (with_reducible refine (a5 _ ?side5).mono ?_); (case side5 => exact zb); rintro e w5 ⟨rfl, hb⟩; replace HB := zM (below_step zb hb); clear hb; have hc_5 := pw_cell_below HB.out HC5.out))
 rw [rounds_succ]
 go_wp2_with (first | (go_at_call 88; (with_reducible refine (a6 _ ?side6).mono ?_); (case side6 => exact zb); rintro e w6 ⟨rfl, hb⟩; replace HB := zM (below_step zb hb); clear hb))
 rw [rounds_succ]
 go_wp2
 go_ret
 exact ⟨zy, HB.out⟩
theorem ck6_calls {W : World} {g c1 c2 k : Nat} {id q1 q2 : Int} {A1 A2 : Option Addr} {l r : List CkC} {vl vr : List ByteArray} {b : Bool} (h : IsRu W g id A1 c1 l A2 c2 r)
 (h1 : term_Vars.f k l = some (vl, q1)) (h2 : term_Vars.f k r = some (vr, q2)) (hf : strF k vl vr = some b) :
 Calls Try.prog 88 #[.pointer (some ⟨g, 0, none⟩)] W fun x w' => x = .returned (.int .i64 (if b = true then 7 else 0)) ∧ Below W.heap.size W w' := by
 have hc0 : W.cell? ⟨g, 0, none⟩ = some (.int .i64 id) := (zX h.blk 0).trans rfl
 have hc1 : W.cell? ⟨g, 1, none⟩ = some (.slice A1 l.length c1) := (zX h.blk 1).trans rfl
 have hc2 : W.cell? ⟨g, 2, none⟩ = some (.slice A2 r.length c2) := (zX h.blk 2).trans rfl
 have S1 := str_calls (id := id) h.hl h.hl' h.hr h.hr' h1 h2 hf
 clear h h1 h2 hf
 cases b
 ·
  go_enter Try.func88, Try.ntmps88
  go_wp2_with (first | (go_at_call 89; (with_reducible refine S1.mono ?_); rintro e w1 ⟨rfl, hb⟩; have HB := zM hb; clear hb) | (go_at_call 83; (with_reducible refine (when_calls _ _ _).mono ?_); rintro e w2 ⟨rfl, rfl⟩))
  go_ret
  exact ⟨zy, HB.out⟩
 ·
  go_enter Try.func88, Try.ntmps88
  go_wp2_with (first | (go_at_call 89; (with_reducible refine S1.mono ?_); rintro e w1 ⟨rfl, hb⟩; have HB := zM hb; clear hb) | (go_at_call 83; (with_reducible refine (when_calls _ _ _).mono ?_); rintro e w2 ⟨rfl, rfl⟩))
  go_ret
  exact ⟨zy, HB.out⟩
def rchF (k : Nat) (id : Int) (l r : List CkC) : Option Int :=
 if id < 0 then some 1 else if id > 65535 then some 1 else
 (term_Check.f k l).bind fun e2 => if e2 = 0 then ((term_Check.f k r).bind fun e3 => if e3 = 0 then (
  if l.length > 8 then some 6 else if r.length > 8 then some 6 else if 0 < l.length then (
   (name_Kind.f k (rd_T54 l 0).f0).bind fun kd => if kd = 2 then some 20 else
    (term_Vars.f k l).bind fun a => (term_Vars.f k r).bind fun b => (strF k a.1 b.1).bind fun s => some (if s = true then 7 else 0)) else none) else some e3) else some e2
theorem fst6_1 {e1 e2 e3 e4 e5 e6 : Int} (h : e1 ≠ 0) : fst6 e1 e2 e3 e4 e5 e6 = e1 := if_pos h
theorem fst6_2 {e2 e3 e4 e5 e6 : Int} (h : e2 ≠ 0) : fst6 0 e2 e3 e4 e5 e6 = e2 := by unfold fst6; simp [h]
theorem fst6_3 {e3 e4 e5 e6 : Int} (h : e3 ≠ 0) : fst6 0 0 e3 e4 e5 e6 = e3 := by unfold fst6; simp [h]
theorem fst6_4 {e4 e5 e6 : Int} (h : e4 ≠ 0) : fst6 0 0 0 e4 e5 e6 = e4 := by unfold fst6; simp [h]
theorem fst6_5 {e5 e6 : Int} (h : e5 ≠ 0) : fst6 0 0 0 0 e5 e6 = e5 := by unfold fst6; simp [h]
theorem rch_split {k : Nat} {id e : Int} {l r : List CkC} (h : rchF k id l r = some e) : ∃ e2 e3 kd e6 : Int, fst6 (if id < 0 then 1 else if id > 65535 then 1 else 0) e2 e3 (if l.length > 8 then 6 else if r.length > 8 then 6 else 0) (if kd = 2 then 20 else 0) e6 = e ∧
 ((if id < 0 then (1 : Int) else if id > 65535 then 1 else 0) = 0 → term_Check.f k l = some e2) ∧ ((if id < 0 then (1 : Int) else if id > 65535 then 1 else 0) = 0 → e2 = 0 → term_Check.f k r = some e3) ∧
 ((if id < 0 then (1 : Int) else if id > 65535 then 1 else 0) = 0 → e2 = 0 → e3 = 0 → (if l.length > 8 then (6 : Int) else if r.length > 8 then 6 else 0) = 0 → 0 < l.length ∧ name_Kind.f k (rd_T54 l 0).f0 = some kd) ∧
 ((if id < 0 then (1 : Int) else if id > 65535 then 1 else 0) = 0 → e2 = 0 → e3 = 0 → (if l.length > 8 then (6 : Int) else if r.length > 8 then 6 else 0) = 0 → (if kd = 2 then (20 : Int) else 0) = 0 → ∃ vl q1 vr q2 b, term_Vars.f k l = some (vl, q1) ∧ term_Vars.f k r = some (vr, q2) ∧ strF k vl vr = some b ∧ e6 = if b = true then 7 else 0) := by
 unfold rchF at h
 by_cases c1 : id < 0
 ·
  rw [if_pos c1] at h
  injection h with h
  subst h
  simp only [if_pos c1]
  exact ⟨0, 0, 0, 0, fst6_1 (by decide), (fun h => absurd h (by decide)), (fun h => absurd h (by decide)), (fun h => absurd h (by decide)), (fun h => absurd h (by decide))⟩
 ·
  rw [if_neg c1] at h
  simp only [if_neg c1]
  by_cases c2 : id > 65535
  ·
   rw [if_pos c2] at h
   injection h with h
   subst h
   simp only [if_pos c2]
   exact ⟨0, 0, 0, 0, fst6_1 (by decide), (fun h => absurd h (by decide)), (fun h => absurd h (by decide)), (fun h => absurd h (by decide)), (fun h => absurd h (by decide))⟩
  ·
   rw [if_neg c2] at h
   simp only [if_neg c2]
   obtain ⟨e2, h2, h⟩ := zB h
   by_cases d2 : e2 = 0
   ·
    subst d2
    rw [if_pos rfl] at h
    obtain ⟨e3, h3, h⟩ := zB h
    by_cases d3 : e3 = 0
    ·
     subst d3
     rw [if_pos rfl] at h
     by_cases d4 : l.length > 8
     ·
      rw [if_pos d4] at h
      injection h with h
      subst h
      simp only [if_pos d4]
      exact ⟨0, 0, 0, 0, fst6_4 (by decide), fun _ => h2, fun _ _ => h3, (fun _ _ _ h => absurd h (by decide)), (fun _ _ _ h => absurd h (by decide))⟩
     ·
      rw [if_neg d4] at h
      simp only [if_neg d4]
      by_cases d5 : r.length > 8
      ·
       rw [if_pos d5] at h
       injection h with h
       subst h
       simp only [if_pos d5]
       exact ⟨0, 0, 0, 0, fst6_4 (by decide), fun _ => h2, fun _ _ => h3, (fun _ _ _ h => absurd h (by decide)), (fun _ _ _ h => absurd h (by decide))⟩
      ·
       rw [if_neg d5] at h
       simp only [if_neg d5]
       by_cases d6 : 0 < l.length
       ·
        rw [if_pos d6] at h
        obtain ⟨kd, hk, h⟩ := zB h
        by_cases d7 : kd = 2
        ·
         rw [if_pos d7] at h
         injection h with h
         subst h
         refine ⟨0, 0, kd, 0, ?_, fun _ => h2, fun _ _ => h3, fun _ _ _ _ => ⟨d6, hk⟩, fun _ _ _ _ h => ?_⟩
         ·
          rw [if_pos d7]; exact fst6_5 (by decide)
         ·
          rw [if_pos d7] at h; cases h
        ·
         rw [if_neg d7] at h
         obtain ⟨⟨vl, q1⟩, a1, h⟩ := zB h
         obtain ⟨⟨vr, q2⟩, a2, h⟩ := zB h
         obtain ⟨b, a3, h⟩ := zB h
         injection h with h
         subst h
         refine ⟨0, 0, kd, _, ?_, fun _ => h2, fun _ _ => h3, fun _ _ _ _ => ⟨d6, hk⟩, fun _ _ _ _ _ => ⟨vl, q1, vr, q2, b, a1, a2, a3, rfl⟩⟩
         rw [if_neg d7]
         rfl
       ·
        rw [if_neg d6] at h
        cases h
    ·
     rw [if_neg d3] at h
     injection h with h
     subst h
     exact ⟨0, e3, 0, 0, fst6_3 d3, fun _ => h2, fun _ _ => h3, fun _ _ h => absurd h d3, fun _ _ h => absurd h d3⟩
   ·
    rw [if_neg d2] at h
    injection h with h
    subst h
    exact ⟨e2, 0, 0, 0, fst6_2 d2, fun _ => h2, fun _ h => absurd h d2, fun _ h => absurd h d2, fun _ h => absurd h d2⟩
def ruBox (w : World) (id : Int) (A1 : Option Addr) (c1 : Nat) (l : List CkC) (A2 : Option Addr) (c2 : Nat) (r : List CkC) : World := w.alloc (.cells #[.int .i64 id, .slice A1 l.length c1, .slice A2 r.length c2] 73)
def ruP (w : World) : Value := .pointer (some ⟨w.heap.size, 0, none⟩)
theorem rch_calls (k : Nat) (id : Int) (A1 : Option Addr) (c1 : Nat) (l : List CkC) (A2 : Option Addr) (c2 : Nat) (r : List CkC) (e : Int) (w : World) (hl : Kd.C k54 w A1 l.length l) (hl' : l.length ≤ c1) (hr : Kd.C k54 w A2 r.length r) (hr' : r.length ≤ c2) (h : rchF k id l r = some e) :
 Calls Try.prog 69 #[.agg #[.int .i64 id, .slice A1 l.length c1, .slice A2 r.length c2]] w fun x w' => x = .returned (.int .i64 e) ∧ Below w.heap.size w w' := by
 obtain ⟨e2, e3, kd, e6, hfst, g2, g3, g5, g6⟩ := rch_split h
 clear h
 have hb1 : Below w.heap.size w (ruBox w id A1 c1 l A2 c2 r) := zA (Below.refl _ _) _
 have hI : IsRu (ruBox w id A1 c1 l A2 c2 r) w.heap.size id A1 c1 l A2 c2 r := ⟨heap_alloc_new w _, Kd.C_below hl hb1, hl', Kd.C_below hr hb1, hr'⟩
 have hsz : (ruBox w id A1 c1 l A2 c2 r).heap.size = w.heap.size + 1 := by simp [ruBox]
 have FC := fun (row : Obj) (hrow : row = .cells #[fnV 82 (ruP w), fnV 84 (ruP w), fnV 85 (ruP w), fnV 86 (ruP w), fnV 87 (ruP w), fnV 88 (ruP w)] 134 (0, 0)) =>
  (show Calls Try.prog 81 #[.slice (some ⟨w.heap.size + 1, 0, none⟩) 6 6] ((ruBox w id A1 c1 l A2 c2 r).alloc row) (fun x w' => x = .returned (.int .i64 e) ∧ Below w.heap.size w w') from by
   have hI2 : IsRu ((ruBox w id A1 c1 l A2 c2 r).alloc row) w.heap.size id A1 c1 l A2 c2 r := hI.below (zA (Below.refl _ _) _)
   have hs := heap_alloc_new (ruBox w id A1 c1 l A2 c2 r) row
   rw [hsz] at hs
   rw [hrow] at hs hI2 ⊢
   have := first_calls (p := ruP w) hs (fun W hW => ck1_calls (hI2.below hW)) (fun a => fun W hW => ck2_calls (hI2.below hW) (g2 a)) (fun a b => fun W hW => ck3_calls (hI2.below hW) (g3 a b)) (fun a b c => fun W hW => ck4_calls (hI2.below hW)) (fun a b c d => fun W hW => ck5_calls (hI2.below hW) (g5 a b c d).1 (g5 a b c d).2)
    (e6 := e6) (fun a b c d f => fun W hW => by
     obtain ⟨vl, q1, vr, q2, b', a1, a2, a3, a4⟩ := g6 a b c d f
     rw [a4]
     exact ck6_calls (hI2.below hW) a1 a2 a3)
   rw [hfst] at this
   exact this.mono fun x w' hx => ⟨hx.1, below_step (zA hb1 _) hx.2⟩)
 clear hI hsz hb1 g2 g3 g5 g6 hfst hl hr
 have FD := FC _ rfl
 clear FC
 unfold ruBox ruP fnV at FD
 have hmf : ∀ (fn : Fn) (first cap : Array Value) (w : World), (Instr.makeFunc fn first cap).run Try.prog w = .ok (.func fn first cap) w := fun _ _ _ _ => rfl
 go_enter Try.func69, Try.ntmps69
 go_wp2_with (first | (go_at_call 81; (with_reducible refine FD.mono ?_); rintro e w1 ⟨rfl, hb⟩; have HB := zM hb; clear hb))
 go_ret
 exact ⟨rfl, HB.out⟩
theorem strF_mono (vl : List ByteArray) (k : Nat) : ∀ vr, LeO (strF k vl vr) (strF (k + 1) vl vr)
 | [] => LeO.refl _
 | v :: u => by
  unfold strF
  exact LeO.bind (slices_Contains_string_string.mono _ _ _) fun b => LeO.ite (strF_mono vl k u) (LeO.refl _)
def rule_Check.f (k : Nat) (a0_0 : Int) (l0_1 : List (S54)) (l0_2 : List (S54)) : Option Int := rchF k a0_0 l0_1 l0_2
theorem rule_Check.mono : ∀ a0 a1 a2 k, LeO (rule_Check.f k a0 a1 a2) (rule_Check.f (k + 1) a0 a1 a2) := by
 intro a0 a1 a2 k
 unfold rule_Check.f rchF
 refine LeO.ite (LeO.refl _) (LeO.ite (LeO.refl _) (LeO.bind (term_Check.mono _ _) fun _ => LeO.ite (LeO.bind (term_Check.mono _ _) fun _ => LeO.ite (LeO.ite (LeO.refl _) (LeO.ite (LeO.refl _) (LeO.ite (LeO.bind (name_Kind.mono _ _) fun _ => LeO.ite (LeO.refl _) (LeO.bind (term_Vars.mono _ _) fun _ => LeO.bind (term_Vars.mono _ _) fun _ => LeO.bind (strF_mono _ _ _) fun _ => LeO.refl _)) (LeO.refl _)))) (LeO.refl _)) (LeO.refl _)))
theorem rule_Check.calls (k : Nat) (a0_0 : Int) (A0_1 : Option Addr) (c0_1 : Nat) (l0_1 : List (S54)) (A0_2 : Option Addr) (c0_2 : Nat) (l0_2 : List (S54)) (r : Int) (w : World) (hr0_1 : Kd.C k54 w A0_1 l0_1.length l0_1) (hc0_1 : l0_1.length ≤ c0_1) (hr0_2 : Kd.C k54 w A0_2 l0_2.length l0_2) (hc0_2 : l0_2.length ≤ c0_2) (h : rule_Check.f k a0_0 l0_1 l0_2 = some r) :
 Calls Try.prog 69 #[.agg #[.int .i64 a0_0, .slice A0_1 l0_1.length c0_1, .slice A0_2 l0_2.length c0_2]] w fun e w' => e = .returned (.int .i64 r) ∧ Below w.heap.size w w' := rch_calls k a0_0 A0_1 c0_1 l0_1 A0_2 c0_2 l0_2 r w hr0_1 hc0_1 hr0_2 hc0_2 h



-- ==== PF46

mutual
def rewrite_together.l0 : Nat → List (S73) → List (S73) → Int → Int → Option (Int)
 | 0, _, _, _, _ => none
 | k + 1, x0, x7, x8, x9 => if x9 < x8 then (if 0 ≤ x9 then (if x9 < (x7.length : Int) then ((rule_Check.f k ((rd_T73 x7 x9).f0) ((rd_T73 x7 x9).f1) ((rd_T73 x7 x9).f2)).bind fun t103 => (if t103 = 0 then (rewrite_together.l0 k x0 x7 x8 (wrap64 (x9 + 1))) else (some t103))) else (none)) else (none)) else (rewrite_together.l1 k x0 1)
def rewrite_together.l1 : Nat → List (S73) → Int → Option (Int)
 | 0, _, _ => none
 | k + 1, x0, x6 => if x6 < (x0.length : Int) then (if 0 ≤ (wrap64 (x6 - 1)) then (if (wrap64 (x6 - 1)) < (x0.length : Int) then (if 0 ≤ x6 then (if ((rd_T73 x0 (wrap64 (x6 - 1))).f0) ≥ ((rd_T73 x0 x6).f0) then (some 19) else (rewrite_together.l1 k x0 (wrap64 (x6 + 1)))) else (none)) else (none)) else (none)) else (some 0)
end
def rewrite_together.f (k : Nat) (l0 : List (S73)) : Option (Int) := rewrite_together.l0 k l0 l0 (l0.length : Int) 0
theorem rewrite_together.mono_l : ∀ k, (∀ y0 y1 y2 y3, LeO (rewrite_together.l0 k y0 y1 y2 y3) (rewrite_together.l0 (k + 1) y0 y1 y2 y3)) ∧ (∀ y0 y1, LeO (rewrite_together.l1 k y0 y1) (rewrite_together.l1 (k + 1) y0 y1))
 | 0 => ⟨fun _ _ _ _ r h => by simp [rewrite_together.l0] at h, fun _ _ r h => by simp [rewrite_together.l1] at h⟩
 | k + 1 => by
  obtain ⟨ih0, ih1⟩ := rewrite_together.mono_l k
  refine ⟨?_, ?_⟩
  ·
   intro y0 y1 y2 y3
   unfold rewrite_together.l0
   repeat' first
   | (with_reducible exact ih0 _ _ _ _)
   | (with_reducible exact ih1 _ _)
   | (with_reducible exact rule_Check.mono _ _ _ _)
   | (with_reducible exact LeO.refl _)
   | (with_reducible exact LeO.none _)
   | (with_reducible refine LeO.ite ?_ ?_)
   | (with_reducible refine LeO.bind ?_ (fun _ => ?_))
  ·
   intro y0 y1
   unfold rewrite_together.l1
   repeat' first
   | (with_reducible exact ih0 _ _ _ _)
   | (with_reducible exact ih1 _ _)
   | (with_reducible exact rule_Check.mono _ _ _ _)
   | (with_reducible exact LeO.refl _)
   | (with_reducible exact LeO.none _)
   | (with_reducible refine LeO.ite ?_ ?_)
   | (with_reducible refine LeO.bind ?_ (fun _ => ?_))
theorem rewrite_together.mono : ∀ a0 k, LeO (rewrite_together.f k a0) (rewrite_together.f (k + 1) a0) := by
 intro a0 k
 obtain ⟨ih0, ih1⟩ := rewrite_together.mono_l k
 unfold rewrite_together.f
 repeat' first
  | (with_reducible exact ih0 _ _ _ _)
  | (with_reducible exact ih1 _ _)
  | (with_reducible exact rule_Check.mono _ _ _ _)
  | (with_reducible exact LeO.refl _)
  | (with_reducible exact LeO.none _)
  | (with_reducible refine LeO.ite ?_ ?_)
  | (with_reducible refine LeO.bind ?_ (fun _ => ?_))
theorem rewrite_together.calls (k : Nat) (A0 : Option Addr) (c0 : Nat) (l0 : List (S73)) (r : Int) (w : World) (hr0 : Kd.C k73 w A0 l0.length l0) (hc0 : l0.length ≤ c0) (h : rewrite_together.f k l0 = some r) :
 Calls Try.prog 46 #[.slice A0 l0.length c0] w fun e w' => e = .returned (.int .i64 r) ∧ Below w.heap.size w w' := by
 have hu73 := Try.underlying73
 have HR0 := zM hr0
 have HC0 := zM hc0
 clear hr0 hc0
 have HB := zM (Below.refl w.heap.size w)
 have H : (rewrite_together.l0 k l0 l0 (l0.length : Int) 0) = some r := h
 clear h
 have H' := zM H
 clear H
 go_enter Try.func46, Try.ntmps46
 go_wp2
 repeat (go_quiet (fail); try go_wp2)
 go_loopg [9] k (fun kq v9 w' => ∃ (x9_1 : Int), v9 = .int .i64 x9_1 ∧ Aside0 (rewrite_together.l0 kq l0 l0 (l0.length : Int) x9_1 = some r) ∧ Aside0 (kq ≤ k) ∧ Aside0 (Below w.heap.size w w'))
 case atStart => exact ⟨(0), zy, H', ⟨Nat.le_refl _⟩, ⟨zb⟩⟩
 case round =>
  clear H'
  obtain ⟨x9_1, rfl, HA, HK1, HB⟩ := hrel
  cases gk with
  | zero => exact absurd HA.out (by simp [rewrite_together.l0])
  | succ k1 =>
   have H := HA.out
   clear HA
   simp only [rewrite_together.l0] at H
   by_cases c2 : x9_1 < (l0.length : Int)
   ·
    rw [if_pos c2] at H
    have c2b0 : decide (x9_1 < (l0.length : Int)) = true := zQ c2
    clear c2
    by_cases c3 : 0 ≤ x9_1
    ·
     rw [if_pos c3] at H
     have c3b0 : decide (0 ≤ x9_1) = true := zQ c3
     clear c3
     by_cases c4 : x9_1 < (l0.length : Int)
     ·
      rw [if_pos c4] at H
      have c4b0 : decide (x9_1 < (l0.length : Int)) = true := zQ c4
      clear c4
      replace H := zB H
      obtain ⟨t103, A50, H⟩ := H
      try dsimp only at H
      have A5 := zM A50
      clear A50
      by_cases c6 : t103 = 0
      ·
       rw [if_pos c6] at H
       have c6b0 : (t103 == 0) = true := zG c6
       have c6b1 : (t103 != 0) = false := zH c6
       clear c6
       have H' := zM H
       clear H
       have p101 : 0 ≤ (x9_1 : Int) := zT zv
       have q101 : x9_1 < (l0.length : Int) := zT zv
       obtain ⟨ad101, A101_1, c101_1, A101_2, c101_2, e101, hx101_0, hx101_1, hx101_2, hl101_1, hi101_1, hl101_2, hi101_2⟩ := at_T73 HR0.out x9_1 p101 q101
       cases e101
       replace hx101_0 := (HB.out.cell (World.block_lt_of_cell? w _ hx101_0)).trans hx101_0
       replace hx101_1 := (HB.out.cell (World.block_lt_of_cell? w _ hx101_1)).trans hx101_1
       replace hx101_2 := (HB.out.cell (World.block_lt_of_cell? w _ hx101_2)).trans hx101_2
       have HR101_1 := zM hi101_1
       have HC101_1 := zM hl101_1
       clear hi101_1 hl101_1
       have HR101_2 := zM hi101_2
       have HC101_2 := zM hl101_2
       clear hi101_2 hl101_2
       replace p101 := eq_true p101
       replace q101 := eq_true q101
       go_wp2_with (first | ((with_reducible refine gate_dst (N := 4) rfl ?_); refine box_event ?hg (N := 4) ?hd (cs := #[.int .i64 0, .slice none 0 0, .slice none 0 0]) (t := 73) ?hr ?_; (case hd => rfl); (case hg => rfl); (case hr => first | (go_simp; done) | (go_simp; rfl)); intro gb102 hg w7 hbox hb; have BK102 := zM (hbox); have GW102 := zM (zh hg : w.heap.size ≤ gb102); have GE102 := zM (zh hg : w.heap.size ≤ gb102); replace HB := zM (below_step zb hb); clear hb hbox hg; have hcz8_0 : w7.cell? ⟨gb102, 0, none⟩ = some (.int .i64 0) := (zX BK102.out 0).trans rfl; have hcz8_1 : w7.cell? ⟨gb102, 1, none⟩ = some (.slice none 0 0) := (zX BK102.out 1).trans rfl; have hcz8_2 : w7.cell? ⟨gb102, 2, none⟩ = some (.slice none 0 0) := (zX BK102.out 2).trans rfl; have hfz8_0 := zY BK102.out 0; have hfz8_1 := zY BK102.out 1; have hfz8_2 := zY BK102.out 2) | (go_at_call 69; (with_reducible refine (rule_Check.calls k1 ((rd_T73 l0 x9_1).f0) _ _ ((rd_T73 l0 x9_1).f1) _ _ ((rd_T73 l0 x9_1).f2) t103 _ ?side1 ?side2 ?side3 ?side4 A5.out).mono ?_); (case side1 => exact Kd.C_below HR101_1.out zb); (case side2 => exact HC101_1.out); (case side3 => exact Kd.C_below HR101_2.out zb); (case side4 => exact HC101_2.out); rintro e w9 ⟨rfl, hb⟩; replace BK102 := zM (blk_below (g := gb102) (o := .cells #[.int .i64 ((rd_T73 l0 x9_1).f0), .slice A101_1 ((rd_T73 l0 x9_1).f1).length c101_1, .slice A101_2 ((rd_T73 l0 x9_1).f2).length c101_2] 73 (0, 0)) (by refine zk ?_; refine blk_put (cs := #[.int .i64 ((rd_T73 l0 x9_1).f0), .slice A101_1 ((rd_T73 l0 x9_1).f1).length c101_1, .slice none 0 0]) ?_ 2 _ rfl; refine zk ?_; refine blk_put (cs := #[.int .i64 ((rd_T73 l0 x9_1).f0), .slice none 0 0, .slice none 0 0]) ?_ 1 _ rfl; refine zk ?_; refine blk_put (cs := #[.int .i64 0, .slice none 0 0, .slice none 0 0]) ?_ 0 _ rfl; refine zk ?_; exact BK102.out) hb); replace HB := zM (below_step zb hb); (try clear hb)))
       go_roundg k1
       case measure => have := HK1.out; omega
       case rel => exact ⟨(wrap64 (x9_1 + 1)), zy, H', ⟨by have := HK1.out; omega⟩, ⟨zb⟩⟩
      ·
       rw [if_neg c6] at H
       have c6b0 : (t103 == 0) = false := zE c6
       have c6b1 : (t103 != 0) = true := zF c6
       obtain rfl := zS H
       have p101 : 0 ≤ (x9_1 : Int) := zT zv
       have q101 : x9_1 < (l0.length : Int) := zT zv
       obtain ⟨ad101, A101_1, c101_1, A101_2, c101_2, e101, hx101_0, hx101_1, hx101_2, hl101_1, hi101_1, hl101_2, hi101_2⟩ := at_T73 HR0.out x9_1 p101 q101
       cases e101
       replace hx101_0 := (HB.out.cell (World.block_lt_of_cell? w _ hx101_0)).trans hx101_0
       replace hx101_1 := (HB.out.cell (World.block_lt_of_cell? w _ hx101_1)).trans hx101_1
       replace hx101_2 := (HB.out.cell (World.block_lt_of_cell? w _ hx101_2)).trans hx101_2
       have HR101_1 := zM hi101_1
       have HC101_1 := zM hl101_1
       clear hi101_1 hl101_1
       have HR101_2 := zM hi101_2
       have HC101_2 := zM hl101_2
       clear hi101_2 hl101_2
       replace p101 := eq_true p101
       replace q101 := eq_true q101
       go_wp2_with (first | ((with_reducible refine gate_dst (N := 4) rfl ?_); refine box_event ?hg (N := 4) ?hd (cs := #[.int .i64 0, .slice none 0 0, .slice none 0 0]) (t := 73) ?hr ?_; (case hd => rfl); (case hg => rfl); (case hr => first | (go_simp; done) | (go_simp; rfl)); intro gb102 hg w10 hbox hb; have BK102 := zM (hbox); have GW102 := zM (zh hg : w.heap.size ≤ gb102); have GE102 := zM (zh hg : w.heap.size ≤ gb102); replace HB := zM (below_step zb hb); clear hb hbox hg; have hcz11_0 : w10.cell? ⟨gb102, 0, none⟩ = some (.int .i64 0) := (zX BK102.out 0).trans rfl; have hcz11_1 : w10.cell? ⟨gb102, 1, none⟩ = some (.slice none 0 0) := (zX BK102.out 1).trans rfl; have hcz11_2 : w10.cell? ⟨gb102, 2, none⟩ = some (.slice none 0 0) := (zX BK102.out 2).trans rfl; have hfz11_0 := zY BK102.out 0; have hfz11_1 := zY BK102.out 1; have hfz11_2 := zY BK102.out 2) | (go_at_call 69; (with_reducible refine (rule_Check.calls k1 ((rd_T73 l0 x9_1).f0) _ _ ((rd_T73 l0 x9_1).f1) _ _ ((rd_T73 l0 x9_1).f2) t103 _ ?side1 ?side2 ?side3 ?side4 A5.out).mono ?_); (case side1 => exact Kd.C_below HR101_1.out zb); (case side2 => exact HC101_1.out); (case side3 => exact Kd.C_below HR101_2.out zb); (case side4 => exact HC101_2.out); rintro e w12 ⟨rfl, hb⟩; replace BK102 := zM (blk_below (g := gb102) (o := .cells #[.int .i64 ((rd_T73 l0 x9_1).f0), .slice A101_1 ((rd_T73 l0 x9_1).f1).length c101_1, .slice A101_2 ((rd_T73 l0 x9_1).f2).length c101_2] 73 (0, 0)) (by refine zk ?_; refine blk_put (cs := #[.int .i64 ((rd_T73 l0 x9_1).f0), .slice A101_1 ((rd_T73 l0 x9_1).f1).length c101_1, .slice none 0 0]) ?_ 2 _ rfl; refine zk ?_; refine blk_put (cs := #[.int .i64 ((rd_T73 l0 x9_1).f0), .slice none 0 0, .slice none 0 0]) ?_ 1 _ rfl; refine zk ?_; refine blk_put (cs := #[.int .i64 0, .slice none 0 0, .slice none 0 0]) ?_ 0 _ rfl; refine zk ?_; exact BK102.out) hb); replace HB := zM (below_step zb hb); (try clear hb)))
       go_ret
       exact ⟨zw, zb⟩
     ·
      rw [if_neg c4] at H
      exact absurd H (by simp)
    ·
     rw [if_neg c3] at H
     exact absurd H (by simp)
   ·
    rw [if_neg c2] at H
    have c2b0 : decide (x9_1 < (l0.length : Int)) = false := zR c2
    clear c2
    have H' := zM H
    clear H
    go_wp2
    repeat (go_quiet (fail); try go_wp2)
    go_loopg [6] k1 (fun kq v6 w' => ∃ (x6_2 : Int), v6 = .int .i64 x6_2 ∧ Aside0 (rewrite_together.l1 kq l0 x6_2 = some r) ∧ Aside0 (kq ≤ k1) ∧ Aside0 (Below w.heap.size w w'))
    case atStart => exact ⟨(1), zy, H', ⟨Nat.le_refl _⟩, ⟨zb⟩⟩
    case round =>
     clear H'
     try clear c1
     try clear p1
     try clear q1
     try clear hx1
     try clear c2
     try clear c2b0
     try clear p2
     try clear c3
     try clear c3b0
     try clear c4
     try clear c4b0
     try clear c6
     try clear c6b0
     try clear c6b1
     try clear p6
     try clear c10
     try clear p10
     try clear q10
     try clear hx10
     try clear hcz11_0
     try clear hcz11_1
     try clear hcz11_2
     try clear hcz8_0
     try clear hcz8_1
     try clear hcz8_2
     try clear hfz11_0
     try clear hfz11_1
     try clear hfz11_2
     try clear hfz8_0
     try clear hfz8_1
     try clear hfz8_2
     try clear hx101_0
     try clear hx101_1
     try clear hx101_2
     try clear p101
     try clear q101
     obtain ⟨x6_2, rfl, HA, HK2, HB⟩ := hrel
     cases gk with
     | zero => exact absurd HA.out (by simp [rewrite_together.l1])
     | succ k2 =>
      have H := HA.out
      clear HA
      simp only [rewrite_together.l1] at H
      by_cases c13 : x6_2 < (l0.length : Int)
      ·
       rw [if_pos c13] at H
       have c13b0 : decide (x6_2 < (l0.length : Int)) = true := zQ c13
       clear c13
       obtain ⟨ji14, hji14⟩ : ∃ j_ : Int, (wrap64 (x6_2 - 1)) = j_ := ⟨_, rfl⟩
       replace H : (if 0 ≤ (ji14) then (if (ji14) < (l0.length : Int) then (if 0 ≤ x6_2 then (if ((rd_T73 l0 (ji14)).f0) ≥ ((rd_T73 l0 x6_2).f0) then (some 19) else (rewrite_together.l1 k2 l0 (wrap64 (x6_2 + 1)))) else (none)) else (none)) else (none)) = some r := by first | (rw [hji14] at H; exact H) | (simp only [hji14] at H ⊢; exact H)
       have hji14w : (IntKind.i64.wrap (x6_2 - 1)) = ji14 := (i64_w _).trans hji14
       by_cases c15 : 0 ≤ (ji14)
       ·
        rw [if_pos c15] at H
        have c15b0 : decide (0 ≤ (ji14)) = true := zQ c15
        clear c15
        by_cases c16 : (ji14) < (l0.length : Int)
        ·
         rw [if_pos c16] at H
         have c16b0 : decide ((ji14) < (l0.length : Int)) = true := zQ c16
         clear c16
         by_cases c17 : 0 ≤ x6_2
         ·
          rw [if_pos c17] at H
          have c17b0 : decide (0 ≤ x6_2) = true := zQ c17
          clear c17
          by_cases c18 : ((rd_T73 l0 (ji14)).f0) ≥ ((rd_T73 l0 x6_2).f0)
          ·
           rw [if_pos c18] at H
           have c18b0 : decide (((rd_T73 l0 x6_2).f0) ≤ ((rd_T73 l0 (ji14)).f0)) = true := zQ c18
           clear c18
           obtain rfl := zS H
           have p104 : 0 ≤ ((ji14) : Int) := zT zv
           have q104 : (ji14) < (l0.length : Int) := zT zv
           obtain ⟨ad104, A104_1, c104_1, A104_2, c104_2, e104, hx104_0, hx104_1, hx104_2, hl104_1, hi104_1, hl104_2, hi104_2⟩ := at_T73 HR0.out (ji14) p104 q104
           cases e104
           replace hx104_0 := (HB.out.cell (World.block_lt_of_cell? w _ hx104_0)).trans hx104_0
           replace hx104_1 := (HB.out.cell (World.block_lt_of_cell? w _ hx104_1)).trans hx104_1
           replace hx104_2 := (HB.out.cell (World.block_lt_of_cell? w _ hx104_2)).trans hx104_2
           have HR104_1 := zM hi104_1
           have HC104_1 := zM hl104_1
           clear hi104_1 hl104_1
           have HR104_2 := zM hi104_2
           have HC104_2 := zM hl104_2
           clear hi104_2 hl104_2
           replace p104 := eq_true p104
           replace q104 := eq_true q104
           have p105 : 0 ≤ (x6_2 : Int) := zT zv
           have q105 : x6_2 < (l0.length : Int) := zT zv
           obtain ⟨ad105, A105_1, c105_1, A105_2, c105_2, e105, hx105_0, hx105_1, hx105_2, hl105_1, hi105_1, hl105_2, hi105_2⟩ := at_T73 HR0.out x6_2 p105 q105
           obtain rfl : ad104 = ad105 := (by injection e105)
           replace hx105_0 := (HB.out.cell (World.block_lt_of_cell? w _ hx105_0)).trans hx105_0
           replace hx105_1 := (HB.out.cell (World.block_lt_of_cell? w _ hx105_1)).trans hx105_1
           replace hx105_2 := (HB.out.cell (World.block_lt_of_cell? w _ hx105_2)).trans hx105_2
           have HR105_1 := zM hi105_1
           have HC105_1 := zM hl105_1
           clear hi105_1 hl105_1
           have HR105_2 := zM hi105_2
           have HC105_2 := zM hl105_2
           clear hi105_2 hl105_2
           replace p105 := eq_true p105
           replace q105 := eq_true q105
           go_wp2
           repeat (go_quiet (fail); try go_wp2)
           go_ret
           exact ⟨by first | rfl | (simp [errW_none, errW_some] <;> rfl) | (simp only [← hji14]; first | rfl | (simp [errW_none, errW_some] <;> rfl)) | (simp [*, errW_none, errW_some] <;> rfl), zb⟩
          ·
           rw [if_neg c18] at H
           have c18b0 : decide (((rd_T73 l0 x6_2).f0) ≤ ((rd_T73 l0 (ji14)).f0)) = false := zR c18
           clear c18
           have H' := zM H
           clear H
           have p104 : 0 ≤ ((ji14) : Int) := zT zv
           have q104 : (ji14) < (l0.length : Int) := zT zv
           obtain ⟨ad104, A104_1, c104_1, A104_2, c104_2, e104, hx104_0, hx104_1, hx104_2, hl104_1, hi104_1, hl104_2, hi104_2⟩ := at_T73 HR0.out (ji14) p104 q104
           cases e104
           replace hx104_0 := (HB.out.cell (World.block_lt_of_cell? w _ hx104_0)).trans hx104_0
           replace hx104_1 := (HB.out.cell (World.block_lt_of_cell? w _ hx104_1)).trans hx104_1
           replace hx104_2 := (HB.out.cell (World.block_lt_of_cell? w _ hx104_2)).trans hx104_2
           have HR104_1 := zM hi104_1
           have HC104_1 := zM hl104_1
           clear hi104_1 hl104_1
           have HR104_2 := zM hi104_2
           have HC104_2 := zM hl104_2
           clear hi104_2 hl104_2
           replace p104 := eq_true p104
           replace q104 := eq_true q104
           have p105 : 0 ≤ (x6_2 : Int) := zT zv
           have q105 : x6_2 < (l0.length : Int) := zT zv
           obtain ⟨ad105, A105_1, c105_1, A105_2, c105_2, e105, hx105_0, hx105_1, hx105_2, hl105_1, hi105_1, hl105_2, hi105_2⟩ := at_T73 HR0.out x6_2 p105 q105
           obtain rfl : ad104 = ad105 := (by injection e105)
           replace hx105_0 := (HB.out.cell (World.block_lt_of_cell? w _ hx105_0)).trans hx105_0
           replace hx105_1 := (HB.out.cell (World.block_lt_of_cell? w _ hx105_1)).trans hx105_1
           replace hx105_2 := (HB.out.cell (World.block_lt_of_cell? w _ hx105_2)).trans hx105_2
           have HR105_1 := zM hi105_1
           have HC105_1 := zM hl105_1
           clear hi105_1 hl105_1
           have HR105_2 := zM hi105_2
           have HC105_2 := zM hl105_2
           clear hi105_2 hl105_2
           replace p105 := eq_true p105
           replace q105 := eq_true q105
           go_wp2
           repeat (go_quiet (fail); try go_wp2)
           go_roundg k2
           case measure => have := HK1.out; have := HK2.out; omega
           case rel => exact ⟨(wrap64 (x6_2 + 1)), zy, H', ⟨by have := HK1.out; have := HK2.out; omega⟩, ⟨zb⟩⟩
         ·
          rw [if_neg c17] at H
          exact absurd H (by simp)
        ·
         rw [if_neg c16] at H
         exact absurd H (by simp)
       ·
        rw [if_neg c15] at H
        exact absurd H (by simp)
      ·
       rw [if_neg c13] at H
       have c13b0 : decide (x6_2 < (l0.length : Int)) = false := zR c13
       clear c13
       obtain rfl := zS H
       go_wp2
       repeat (go_quiet (fail); try go_wp2)
       go_ret
       exact ⟨zw, zb⟩


-- ==== PF47

mutual
def rewrite_clone.l0 : Nat → List (S70) → Int → Int → List (S70) → List (List (S54)) → Int → List ByteArray → List (S70) → Int → List ByteArray → Option ((List (S70)) × (List (List (S54))) × Int × List ByteArray)
 | 0, _, _, _, _, _, _, _, _, _, _ => none
 | k + 1, x15, x16, x17, x102000, x102001, x102002, x102003, x107000, x107002, x107003 => if x17 < x16 then (if 0 ≤ x17 then (if x17 < (x15.length : Int) then ((api_Cell_71.f ((rd_T70 x15 x17).f2)).bind fun t109 => (if x107000.length < 2513169434916 then (rewrite_clone.l0 k x15 x16 (wrap64 (x17 + 1)) x102000 x102001 x102002 x102003 (x107000 ++ [(⟨(rd_T70 x15 x17).f0, (⟨(rd_T70 x15 x17).f1.f0, (rd_T70 x15 x17).f1.f1⟩ : S54), t109⟩ : S70)]) x107002 x107003) else (none))) else (none)) else (none)) else (rewrite_clone.l1 k x102001 (x102001.length : Int) 0 x107000 ([] : List (List (S54))) x107002 x107003)
def rewrite_clone.l1 : Nat → List (List (S54)) → Int → Int → List (S70) → List (List (S54)) → Int → List ByteArray → Option ((List (S70)) × (List (List (S54))) × Int × List ByteArray)
 | 0, _, _, _, _, _, _, _ => none
 | k + 1, x33, x34, x35, x107000, x107001, x107002, x107003 => if x35 < x34 then (if 0 ≤ x35 then (if x35 < (x33.length : Int) then ((api_Cell_71.f (rd_L3 x33 x35)).bind fun t116 => (if x107001.length < 5864062014805 then (rewrite_clone.l1 k x33 x34 (wrap64 (x35 + 1)) x107000 (x107001 ++ [t116]) x107002 x107003) else (none))) else (none)) else (none)) else (some (x107000, x107001, x107002, x107003))
end
def rewrite_clone.f (k : Nat) (l0_0 : List (S70)) (l0_1 : List (List (S54))) (a0_2 : Int) (l0_3 : List ByteArray) : Option ((List (S70)) × (List (List (S54))) × Int × List ByteArray) := (slices_Clone_string_string.f l0_3).bind fun t103 => (rewrite_clone.l0 k l0_0 (l0_0.length : Int) 0 l0_0 l0_1 a0_2 l0_3 ([] : List (S70)) a0_2 t103)
theorem rewrite_clone.mono_l : ∀ k, (∀ y0 y1 y2 y3 y4 y5 y6 y7 y8 y9, LeO (rewrite_clone.l0 k y0 y1 y2 y3 y4 y5 y6 y7 y8 y9) (rewrite_clone.l0 (k + 1) y0 y1 y2 y3 y4 y5 y6 y7 y8 y9)) ∧ (∀ y0 y1 y2 y3 y4 y5 y6, LeO (rewrite_clone.l1 k y0 y1 y2 y3 y4 y5 y6) (rewrite_clone.l1 (k + 1) y0 y1 y2 y3 y4 y5 y6))
 | 0 => ⟨fun _ _ _ _ _ _ _ _ _ _ r h => by simp [rewrite_clone.l0] at h, fun _ _ _ _ _ _ _ r h => by simp [rewrite_clone.l1] at h⟩
 | k + 1 => by
  obtain ⟨ih0, ih1⟩ := rewrite_clone.mono_l k
  refine ⟨?_, ?_⟩
  ·
   intro y0 y1 y2 y3 y4 y5 y6 y7 y8 y9
   unfold rewrite_clone.l0
   repeat' first
   | (with_reducible exact ih0 _ _ _ _ _ _ _ _ _ _)
   | (with_reducible exact ih1 _ _ _ _ _ _ _)
   | (with_reducible exact LeO.refl _)
   | (with_reducible exact LeO.none _)
   | (with_reducible refine LeO.ite ?_ ?_)
   | (with_reducible refine LeO.bind ?_ (fun _ => ?_))
  ·
   intro y0 y1 y2 y3 y4 y5 y6
   unfold rewrite_clone.l1
   repeat' first
   | (with_reducible exact ih0 _ _ _ _ _ _ _ _ _ _)
   | (with_reducible exact ih1 _ _ _ _ _ _ _)
   | (with_reducible exact LeO.refl _)
   | (with_reducible exact LeO.none _)
   | (with_reducible refine LeO.ite ?_ ?_)
   | (with_reducible refine LeO.bind ?_ (fun _ => ?_))
theorem rewrite_clone.mono : ∀ a0 a1 a2 a3 k, LeO (rewrite_clone.f k a0 a1 a2 a3) (rewrite_clone.f (k + 1) a0 a1 a2 a3) := by
 intro a0 a1 a2 a3 k
 obtain ⟨ih0, ih1⟩ := rewrite_clone.mono_l k
 unfold rewrite_clone.f
 repeat' first
  | (with_reducible exact ih0 _ _ _ _ _ _ _ _ _ _)
  | (with_reducible exact ih1 _ _ _ _ _ _ _)
  | (with_reducible exact LeO.refl _)
  | (with_reducible exact LeO.none _)
  | (with_reducible refine LeO.ite ?_ ?_)
  | (with_reducible refine LeO.bind ?_ (fun _ => ?_))
def rewrite_clone.T1 : Bool × List (List Nat × List Nat) := (true, [([], []), ([0], [0]), ([], []), ([2], [2]), ([3], [3]), ([1, 4], [1, 4]), ([], []), ([6, 5, 4, 0, 1, 2, 3, 4, 5, 6], [5, 6])])
def rewrite_clone.B1 : List Nat := [0, 1, 0, 4, 12, 31, 0, 127]
theorem rewrite_clone.tab1 : rtab .any (opsOf Try.f47 1) = rewrite_clone.T1 := by kernel_rfl
theorem rewrite_clone.bits1 : waitsOk rewrite_clone.T1.2 rewrite_clone.B1 = true := by kernel_rfl
def rewrite_clone.T11 : Bool × List (List Nat × List Nat) := (true, [([], []), ([0], [0]), ([], []), ([2], [2]), ([3], [3]), ([1, 4, 3], [1, 4]), ([0, 1, 2, 3, 4, 5], []), ([6, 5, 5, 0, 1, 2, 3, 4, 5], [5, 6])])
def rewrite_clone.B11 : List Nat := [0, 1, 0, 4, 12, 31, 63, 127]
theorem rewrite_clone.tab11 : rtab .any (opsOf Try.f47 11) = rewrite_clone.T11 := by kernel_rfl
theorem rewrite_clone.bits11 : waitsOk rewrite_clone.T11.2 rewrite_clone.B11 = true := by kernel_rfl
theorem rewrite_clone.calls (k : Nat) (A0_0 : Option Addr) (c0_0 : Nat) (l0_0 : List (S70)) (A0_1 : Option Addr) (c0_1 : Nat) (l0_1 : List (List (S54))) (a0_2 : Int) (A0_3 : Option Addr) (c0_3 : Nat) (l0_3 : List ByteArray) (r1 : List (S70)) (r2 : List (List (S54))) (r3 : Int) (r4 : List ByteArray) (w : World) (hr0_0 : Kd.C k70 w A0_0 l0_0.length l0_0) (hc0_0 : l0_0.length ≤ c0_0) (hr0_1 : Kd.C (Kd.slice 54 k54) w A0_1 l0_1.length l0_1) (hc0_1 : l0_1.length ≤ c0_1) (hr0_3 : Kd.C Kd.string w A0_3 l0_3.length l0_3) (hc0_3 : l0_3.length ≤ c0_3) (h : rewrite_clone.f k l0_0 l0_1 a0_2 l0_3 = some (r1, r2, r3, r4)) :
 Calls Try.prog 47 #[.agg #[.slice A0_0 l0_0.length c0_0, .slice A0_1 l0_1.length c0_1, .int .i64 a0_2, .slice A0_3 l0_3.length c0_3]] w fun e w' => ∃ v0_ v1_ v3_ : Value, e = .returned (.agg #[v0_, v1_, .int .i64 r3, v3_]) ∧ Kd.S k70 70 w' w.heap.size (fun _ => True) v0_ r1 ∧ Kd.S (Kd.slice 54 k54) 23 w' w.heap.size (fun _ => True) v1_ r2 ∧ Kd.R Kd.string 9 w' w.heap.size (fun _ => True) v3_ r4 ∧ Below w.heap.size w w' := by
 have hu28 := Try.underlying28
 have hu70 := Try.underlying70
 have HR0_0 := zM hr0_0
 have HC0_0 := zM hc0_0
 clear hr0_0 hc0_0
 have HR0_1 := zM hr0_1
 have HC0_1 := zM hc0_1
 clear hr0_1 hc0_1
 have HR0_3 := zM hr0_3
 have HC0_3 := zM hc0_3
 clear hr0_3 hc0_3
 have HB := zM (Below.refl w.heap.size w)
 have H : ((slices_Clone_string_string.f l0_3).bind fun t103 => (rewrite_clone.l0 k l0_0 (l0_0.length : Int) 0 l0_0 l0_1 a0_2 l0_3 ([] : List (S70)) a0_2 t103)) = some (r1, r2, r3, r4) := h
 clear h
 replace H := zB H
 obtain ⟨t103, A20, H⟩ := H
 try dsimp only at H
 have A2 := zM A20
 clear A20
 have H' := zM H
 clear H
 go_enter Try.func47, Try.ntmps47
 try go_wp2_with (first | ((with_reducible refine gate_dst (N := 1) rfl ?_); refine box_event ?hg (N := 1) ?hd (cs := #[.slice A0_0 l0_0.length c0_0, .slice A0_1 l0_1.length c0_1, .int .i64 a0_2, .slice A0_3 l0_3.length c0_3]) (t := 28) ?hr ?_; (case hd => rfl); (case hg => rfl); (case hr => first | (go_simp; done) | (go_simp; rfl)); intro gb101 hg w3 hbox hb; have BK101 := zM (hbox); have GW101 := zM (zh hg : w.heap.size ≤ gb101); have GE101 := zM (zh hg : w.heap.size ≤ gb101); replace HB := zM (below_step zb hb); clear hb hbox hg) | ((with_reducible refine gate_dst (N := 2) rfl ?_); refine box_event ?hg (N := 2) ?hd (cs := #[.slice none 0 0, .slice none 0 0, .int .i64 0, .slice none 0 0]) (t := 28) ?hr ?_; (case hd => rfl); (case hg => rfl); (case hr => first | (go_simp; done) | (go_simp; rfl)); intro gb102 hg w4 hbox hb; have BK102 := zM (hbox); have GW102 := zM (zh hg : w.heap.size ≤ gb102); have GE102 := zM (zh hg : w.heap.size ≤ gb102); replace HB := zM (below_step zb hb); have NB101_102 := zM ((by rw [hg]; exact Nat.ne_of_lt (blk_lt (zk BK101.out)) : gb101 ≠ gb102)); have NB102_101 := zM ((by rw [hg]; exact Nat.ne_of_gt (blk_lt (zk BK101.out)) : gb102 ≠ gb101)); replace BK101 := zM (blk_below (zk BK101.out) hb); clear hb hbox hg))
 have n0_ := zM (blk_drew BK101.out)
 have n1_ := zM (blk_drew BK102.out)
 have n2_ := zM (zD HB.out)
 clear BK101
 clear BK102
 clear HB
 have BK101 := n0_
 have BK102 := n1_
 have HB := n2_
 clear n0_ n1_ n2_
 refine start_ (n := 8) (S := fun w' => w'.cell? ⟨gb101, 0, none⟩ = some (.slice A0_0 l0_0.length c0_0) ∧ w'.cell? ⟨gb101, 1, none⟩ = some (.slice A0_1 l0_1.length c0_1) ∧ w'.cell? ⟨gb101, 2, none⟩ = some (.int .i64 a0_2) ∧ w'.cell? ⟨gb101, 3, none⟩ = some (.slice A0_3 l0_3.length c0_3)) (ds := []) #[false, false, false, false, false, false, false, false] (by kernel_rfl) rfl rfl ⟨(zX BK101.out 0).trans rfl, (zX BK101.out 1).trans rfl, (zX BK101.out 2).trans rfl, (zX BK101.out 3).trans rfl⟩ (fun hHeld => ?_); refine with_tabW rewrite_clone.tab1 rewrite_clone.bits1 (fun HT_ HW_ => ?_)
 generalize w4.drew = w5 at BK101 BK102 HB hHeld ⊢
 refine pure_ (i := 0) (N := some 8) (v := ?_) (a' := ?_) #[true, false, false, false, false, false, false, false] rfl rfl (any_of HT_.out (by kernel_rfl)) (fun _ _ _ h => h) (Or.inl ⟨by rfl, ?_⟩) ?_ ?_
 rotate_left
 ·
  intro w'
  go_simp
  with_reducible rfl
 rotate_left
 ·
  simp only [Act.put, zp1, zp2, zp3, i64_w, i32_w]
  rfl
 refine pure_ (i := 2) (N := some 10) (v := ?_) (a' := ?_) #[true, false, true, false, false, false, false, false] rfl rfl (any_of HT_.out (by kernel_rfl)) (fun _ _ _ h => h) (Or.inl ⟨by rfl, ?_⟩) ?_ ?_
 rotate_left
 ·
  intro w'
  go_simp
  with_reducible rfl
 rotate_left
 ·
  simp only [Act.put, zp1, zp2, zp3, i64_w, i32_w]
  rfl
 refine take_ (i := 1) (N := some 9) (v := ?_) (a' := ?_) #[true, true, true, false, false, false, false, false] rfl rfl (take_ofW HT_.out HW_.out (by kernel_rfl)) (fun _ _ _ h => h) (Or.inl ⟨by rfl, ?_⟩) hHeld ?_ ?_
 rotate_left
 ·
  rintro w' ⟨s0, s1, s2, s3⟩
  go_simp
  with_reducible rfl
 rotate_left
 ·
  simp only [Act.put, zp1, zp2, zp3, i64_w, i32_w]
  rfl
 refine take_ (i := 3) (N := some 11) (v := ?_) (a' := ?_) #[true, true, true, true, false, false, false, false] rfl rfl (take_ofW HT_.out HW_.out (by kernel_rfl)) (fun _ _ _ h => h) (Or.inl ⟨by rfl, ?_⟩) hHeld ?_ ?_
 rotate_left
 ·
  rintro w' ⟨s0, s1, s2, s3⟩
  go_simp
  with_reducible rfl
 rotate_left
 ·
  simp only [Act.put, zp1, zp2, zp3, i64_w, i32_w]
  rfl
 refine join_ (σ := Value × Nat) 1 #[true, true, true, true, true, true, true, false] (fun s_ => [(12, s_.1), (3, .pointer (some ⟨s_.2, 0, none⟩)), (13, .agg #[.slice none 0 0, .slice none 0 0, .int .i64 a0_2, s_.1])]) (fun s_ w' => (w'.cell? ⟨gb101, 0, none⟩ = some (.slice A0_0 l0_0.length c0_0) ∧ w'.cell? ⟨gb101, 1, none⟩ = some (.slice A0_1 l0_1.length c0_1) ∧ w'.cell? ⟨gb101, 2, none⟩ = some (.int .i64 a0_2) ∧ w'.cell? ⟨gb101, 3, none⟩ = some (.slice A0_3 l0_3.length c0_3)) ∧ (Kd.R Kd.string 9 w' w.heap.size (fun _ => True) s_.1 t103) ∧ (w'.heap[gb101]? = some (.cells #[.slice A0_0 l0_0.length c0_0, .slice A0_1 l0_1.length c0_1, .int .i64 a0_2, .slice A0_3 l0_3.length c0_3] 28 (0, 0))) ∧ (w'.heap[gb102]? = some (.cells #[.slice none 0 0, .slice none 0 0, .int .i64 0, .slice none 0 0] 28 (0, 0))) ∧ (w'.heap[s_.2]? = some (.cells #[.slice none 0 0, .slice none 0 0, .int .i64 0, .slice none 0 0] 28 (0, 0))) ∧ (w.heap.size ≤ s_.2) ∧ (w.heap.size ≤ s_.2) ∧ (gb101 ≠ s_.2) ∧ (s_.2 ≠ gb101) ∧ (gb102 ≠ s_.2) ∧ (s_.2 ≠ gb102) ∧ (Below w.heap.size w w')) ?_ ?_
 rotate_left
 ·
  intro hCont
  refine two_ (i := 4) (j := 6) (Ni := some 12) (Nj := some 3) #[true, true, true, true, true, false, false, false] #[true, true, true, true, false, false, true, false] rfl rfl rfl rfl (two_of HT_.out (by kernel_rfl)) (by decide) (by decide) (fun K hK => ?_) (fun K hK => ?_)
  ·
   skip
   refine goes_ Try.func70 (by kernel_rfl) rfl #[.slice A0_3 l0_3.length c0_3] (by rfl) rfl rfl zl ?_
   with_reducible refine (slices_Clone_string_string.calls _ _ l0_3 t103 _ ?side1 ?side2 A2.out).mono ?_
   (case side1 => exact Kd.C_below HR0_3.out zb)
   (case side2 => exact HC0_3.out)
   rintro e w6 ⟨v104, rfl, ho0, hb⟩
   refine ⟨_, rfl, ?_⟩
   have n0_ := zM (Kd.R_lower ho0 (below_size zb))
   have n1_ := zM (blk_below (zk BK101.out) hb)
   have n2_ := zM (blk_below (zk BK102.out) hb)
   have n3_ := zM (below_step zb hb)
   clear BK101
   clear BK102
   clear HB
   have HO105 := n0_
   have BK101 := n1_
   have BK102 := n2_
   have HB := n3_
   clear n0_ n1_ n2_ n3_
   (try clear hb)
   (try clear hb2)
   (try clear hk)
   (try clear hi)
   (try clear ho0)
   obtain ⟨Ao7, co7, eo7⟩ := Kd.R_slice HO105.out
   (first | subst eo7 | (injection eo7 with f1_ f2_ f3_; have f4_ := f1_.symm; have f5_ := f3_.symm; clear f1_ f2_ f3_; subst f4_; subst f5_))
   refine hK.out _ _ ⟨(zX BK101.out 0).trans rfl, (zX BK101.out 1).trans rfl, (zX BK101.out 2).trans rfl, (zX BK101.out 3).trans rfl⟩ (fun hHeld => ?_)
   clear hK K
   refine norm_ (a' := ?_) ?_ ?_
   rotate_left
   ·
    show Act.put _ (some 12) _ = _
    simp only [Act.put, zp1, zp2, zp3, i64_w, i32_w]
    rfl
   refine pure_ (i := 5) (N := some 13) (v := ?_) (a' := ?_) #[true, true, true, true, true, true, false, false] rfl rfl (any_of HT_.out (by kernel_rfl)) (fun _ _ _ h => h) (Or.inl ⟨by rfl, ?_⟩) ?_ ?_
   rotate_left
   ·
    intro w'
    go_simp
    with_reducible rfl
   rotate_left
   ·
    simp only [Act.put, zp1, zp2, zp3, i64_w, i32_w]
    rfl
   refine one_ (i := 6) (N := some 3) #[true, true, true, true, true, true, true, false] rfl rfl (one_of HT_.out (by kernel_rfl)) (by decide) (fun K hK => ?_)
   refine box_step ?hg (N := 3) ?hd (cs := #[.slice none 0 0, .slice none 0 0, .int .i64 0, .slice none 0 0]) (t := 28) ?hr ?_; (case hd => rfl); (case hg => rfl); (case hr => first | (go_simp; done) | (go_simp; rfl))
   intro gb106 hg w8 hbox hb
   have n0_ := zM (Kd.R_below (zr HO105.out) hb)
   have n1_ := zM (blk_below (zk BK101.out) hb)
   have n2_ := zM (blk_below (zk BK102.out) hb)
   have n3_ := zM (below_step zb hb)
   have n4_ := zM (hbox)
   have n5_ := zM (zh hg : w.heap.size ≤ gb106)
   have n6_ := zM (zh hg : w.heap.size ≤ gb106)
   have n7_ := zM ((by rw [hg]; exact Nat.ne_of_lt (blk_lt (zk BK101.out)) : gb101 ≠ gb106))
   have n8_ := zM ((by rw [hg]; exact Nat.ne_of_gt (blk_lt (zk BK101.out)) : gb106 ≠ gb101))
   have n9_ := zM ((by rw [hg]; exact Nat.ne_of_lt (blk_lt (zk BK102.out)) : gb102 ≠ gb106))
   have n10_ := zM ((by rw [hg]; exact Nat.ne_of_gt (blk_lt (zk BK102.out)) : gb106 ≠ gb102))
   clear HO105
   clear BK101
   clear BK102
   clear HB
   have HO105 := n0_
   have BK101 := n1_
   have BK102 := n2_
   have HB := n3_
   have BK106 := n4_
   have GW106 := n5_
   have GE106 := n6_
   have NB101_106 := n7_
   have NB106_101 := n8_
   have NB102_106 := n9_
   have NB106_102 := n10_
   clear n0_ n1_ n2_ n3_ n4_ n5_ n6_ n7_ n8_ n9_ n10_
   clear hb hbox hg
   refine hK.out _ _ ⟨(zX BK101.out 0).trans rfl, (zX BK101.out 1).trans rfl, (zX BK101.out 2).trans rfl, (zX BK101.out 3).trans rfl⟩ (fun hHeld => ?_)
   clear hK K
   refine norm_ (a' := ?_) ?_ ?_
   rotate_left
   ·
    show Act.put _ (some 3) _ = _
    simp only [Act.put, zp1, zp2, zp3, i64_w, i32_w]
    rfl
   exact norm_ (by simp only [putAll, Act.put, List.setIfInBounds_toArray, List.set_cons_zero, List.set_cons_succ]) (hCont (.slice Ao7 t103.length co7, gb106) _ ⟨hHeld, (zr HO105.out), (zk BK101.out), (zk BK102.out), (zk BK106.out), GW106.out, GE106.out, NB101_106.out, NB106_101.out, NB102_106.out, NB106_102.out, zb⟩)
  ·
   skip
   refine box_step ?hg (N := 3) ?hd (cs := #[.slice none 0 0, .slice none 0 0, .int .i64 0, .slice none 0 0]) (t := 28) ?hr ?_; (case hd => rfl); (case hg => rfl); (case hr => first | (go_simp; done) | (go_simp; rfl))
   intro gb106 hg w6 hbox hb
   have n0_ := zM (blk_below (zk BK101.out) hb)
   have n1_ := zM (blk_below (zk BK102.out) hb)
   have n2_ := zM (below_step zb hb)
   have n3_ := zM (hbox)
   have n4_ := zM (zh hg : w.heap.size ≤ gb106)
   have n5_ := zM (zh hg : w.heap.size ≤ gb106)
   have n6_ := zM ((by rw [hg]; exact Nat.ne_of_lt (blk_lt (zk BK101.out)) : gb101 ≠ gb106))
   have n7_ := zM ((by rw [hg]; exact Nat.ne_of_gt (blk_lt (zk BK101.out)) : gb106 ≠ gb101))
   have n8_ := zM ((by rw [hg]; exact Nat.ne_of_lt (blk_lt (zk BK102.out)) : gb102 ≠ gb106))
   have n9_ := zM ((by rw [hg]; exact Nat.ne_of_gt (blk_lt (zk BK102.out)) : gb106 ≠ gb102))
   clear BK101
   clear BK102
   clear HB
   have BK101 := n0_
   have BK102 := n1_
   have HB := n2_
   have BK106 := n3_
   have GW106 := n4_
   have GE106 := n5_
   have NB101_106 := n6_
   have NB106_101 := n7_
   have NB102_106 := n8_
   have NB106_102 := n9_
   clear n0_ n1_ n2_ n3_ n4_ n5_ n6_ n7_ n8_ n9_
   clear hb hbox hg
   refine hK.out _ _ ⟨(zX BK101.out 0).trans rfl, (zX BK101.out 1).trans rfl, (zX BK101.out 2).trans rfl, (zX BK101.out 3).trans rfl⟩ (fun hHeld => ?_)
   clear hK K
   refine norm_ (a' := ?_) ?_ ?_
   rotate_left
   ·
    show Act.put _ (some 3) _ = _
    simp only [Act.put, zp1, zp2, zp3, i64_w, i32_w]
    rfl
   refine one_ (i := 4) (N := some 12) #[true, true, true, true, true, false, true, false] rfl rfl (one_of HT_.out (by kernel_rfl)) (by decide) (fun K hK => ?_)
   refine goes_ Try.func70 (by kernel_rfl) rfl #[.slice A0_3 l0_3.length c0_3] (by rfl) rfl rfl zl ?_
   with_reducible refine (slices_Clone_string_string.calls _ _ l0_3 t103 _ ?side1 ?side2 A2.out).mono ?_
   (case side1 => exact Kd.C_below HR0_3.out zb)
   (case side2 => exact HC0_3.out)
   rintro e w7 ⟨v104, rfl, ho0, hb⟩
   refine ⟨_, rfl, ?_⟩
   have n0_ := zM (Kd.R_lower ho0 (below_size zb))
   have n1_ := zM (blk_below (zk BK101.out) hb)
   have n2_ := zM (blk_below (zk BK102.out) hb)
   have n3_ := zM (blk_below (zk BK106.out) hb)
   have n4_ := zM (below_step zb hb)
   clear BK101
   clear BK102
   clear BK106
   clear HB
   have HO105 := n0_
   have BK101 := n1_
   have BK102 := n2_
   have BK106 := n3_
   have HB := n4_
   clear n0_ n1_ n2_ n3_ n4_
   (try clear hb)
   (try clear hb2)
   (try clear hk)
   (try clear hi)
   (try clear ho0)
   obtain ⟨Ao8, co8, eo8⟩ := Kd.R_slice HO105.out
   (first | subst eo8 | (injection eo8 with f1_ f2_ f3_; have f4_ := f1_.symm; have f5_ := f3_.symm; clear f1_ f2_ f3_; subst f4_; subst f5_))
   refine hK.out _ _ ⟨(zX BK101.out 0).trans rfl, (zX BK101.out 1).trans rfl, (zX BK101.out 2).trans rfl, (zX BK101.out 3).trans rfl⟩ (fun hHeld => ?_)
   clear hK K
   refine norm_ (a' := ?_) ?_ ?_
   rotate_left
   ·
    show Act.put _ (some 12) _ = _
    simp only [Act.put, zp1, zp2, zp3, i64_w, i32_w]
    rfl
   refine pure_ (i := 5) (N := some 13) (v := ?_) (a' := ?_) #[true, true, true, true, true, true, true, false] rfl rfl (any_of HT_.out (by kernel_rfl)) (fun _ _ _ h => h) (Or.inl ⟨by rfl, ?_⟩) ?_ ?_
   rotate_left
   ·
    intro w'
    go_simp
    with_reducible rfl
   rotate_left
   ·
    simp only [Act.put, zp1, zp2, zp3, i64_w, i32_w]
    rfl
   exact norm_ (by simp only [putAll, Act.put, List.setIfInBounds_toArray, List.set_cons_zero, List.set_cons_succ]) (hCont (.slice Ao8 t103.length co8, gb106) _ ⟨hHeld, (zr HO105.out), (zk BK101.out), (zk BK102.out), (zk BK106.out), GW106.out, GE106.out, NB101_106.out, NB106_101.out, NB102_106.out, NB106_102.out, zb⟩)
 rintro ⟨v104, gb106⟩ w9 ⟨hS_, h0_, h1_, h2_, h3_, h4_, h5_, h6_, h7_, h8_, h9_, h10_⟩
 have n0_ : Aside0 (Kd.R Kd.string 9 w9 w.heap.size (fun _ => True) v104 t103) := ⟨h0_⟩
 have n1_ : Aside0 (w9.heap[gb101]? = some (.cells #[.slice A0_0 l0_0.length c0_0, .slice A0_1 l0_1.length c0_1, .int .i64 a0_2, .slice A0_3 l0_3.length c0_3] 28 (0, 0))) := ⟨h1_⟩
 have n2_ : Aside0 (w9.heap[gb102]? = some (.cells #[.slice none 0 0, .slice none 0 0, .int .i64 0, .slice none 0 0] 28 (0, 0))) := ⟨h2_⟩
 have n3_ : Aside0 (w9.heap[gb106]? = some (.cells #[.slice none 0 0, .slice none 0 0, .int .i64 0, .slice none 0 0] 28 (0, 0))) := ⟨h3_⟩
 have n4_ : Aside0 (w.heap.size ≤ gb106) := ⟨h4_⟩
 have n5_ : Aside0 (w.heap.size ≤ gb106) := ⟨h5_⟩
 have n6_ : Aside0 (gb101 ≠ gb106) := ⟨h6_⟩
 have n7_ : Aside0 (gb106 ≠ gb101) := ⟨h7_⟩
 have n8_ : Aside0 (gb102 ≠ gb106) := ⟨h8_⟩
 have n9_ : Aside0 (gb106 ≠ gb102) := ⟨h9_⟩
 have n10_ : Aside0 (Below w.heap.size w w9) := ⟨h10_⟩
 clear BK101
 clear BK102
 clear HB
 clear h0_ h1_ h2_ h3_ h4_ h5_ h6_ h7_ h8_ h9_ h10_
 have HO105 := n0_
 have BK101 := n1_
 have BK102 := n2_
 have BK106 := n3_
 have GW106 := n4_
 have GE106 := n5_
 have NB101_106 := n6_
 have NB106_101 := n7_
 have NB102_106 := n8_
 have NB106_102 := n9_
 have HB := n10_
 clear n0_ n1_ n2_ n3_ n4_ n5_ n6_ n7_ n8_ n9_ n10_
 have hHeld : w9.cell? ⟨gb101, 0, none⟩ = some (.slice A0_0 l0_0.length c0_0) ∧ w9.cell? ⟨gb101, 1, none⟩ = some (.slice A0_1 l0_1.length c0_1) ∧ w9.cell? ⟨gb101, 2, none⟩ = some (.int .i64 a0_2) ∧ w9.cell? ⟨gb101, 3, none⟩ = some (.slice A0_3 l0_3.length c0_3) := hS_
 obtain ⟨Ao10, co10, eo10⟩ := Kd.R_slice HO105.out
 (first | subst eo10 | (injection eo10 with f1_ f2_ f3_; have f4_ := f1_.symm; have f5_ := f3_.symm; clear f1_ f2_ f3_; subst f4_; subst f5_))
 refine norm_ (a' := ?_) ?_ ?_
 rotate_left
 ·
  simp only [putAll, Act.put, List.setIfInBounds_toArray, List.set_cons_zero, List.set_cons_succ]
  rfl
 refine one_ (i := 7) (N := none) #[true, true, true, true, true, true, true, true] rfl rfl (one_of HT_.out (by kernel_rfl)) (by decide) (fun K hK => ?_)
 have hs11 : w9.cell? ⟨gb106, 0, none⟩ = some (.slice none 0 0) := (zX BK106.out 0).trans rfl
 have hfs11 := zY BK106.out 0
 have hns11_0 := NB101_106.out
 have hns11_1 := NB102_106.out
 have hms11_0 := NB106_101.out
 have hms11_1 := NB106_102.out
 have hs12 : w9.cell? ⟨gb106, 1, none⟩ = some (.slice none 0 0) := (zX BK106.out 1).trans rfl
 have hfs12 := zY BK106.out 1
 have hns12_0 := NB101_106.out
 have hns12_1 := NB102_106.out
 have hms12_0 := NB106_101.out
 have hms12_1 := NB106_102.out
 have hs13 : w9.cell? ⟨gb106, 2, none⟩ = some (.int .i64 0) := (zX BK106.out 2).trans rfl
 have hfs13 := zY BK106.out 2
 have hns13_0 := NB101_106.out
 have hns13_1 := NB102_106.out
 have hms13_0 := NB106_101.out
 have hms13_1 := NB106_102.out
 have hs14 : w9.cell? ⟨gb106, 3, none⟩ = some (.slice none 0 0) := (zX BK106.out 3).trans rfl
 have hfs14 := zY BK106.out 3
 have hns14_0 := NB101_106.out
 have hns14_1 := NB102_106.out
 have hms14_0 := NB106_101.out
 have hms14_1 := NB106_102.out
 refine skip_ (w1 := ?_) (by rfl) rfl ?_ ?_
 rotate_left
 ·
  go_simp
  rfl
 refine hK.out _ _ ⟨((cell_far (p := ⟨gb106, _, none⟩) NB101_106.out _).trans (((cell_far (p := ⟨gb106, _, none⟩) NB101_106.out _).trans (((cell_far (p := ⟨gb106, _, none⟩) NB101_106.out _).trans (((cell_far (p := ⟨gb106, _, none⟩) NB101_106.out _).trans (hHeld.1)))))))), ((cell_far (p := ⟨gb106, _, none⟩) NB101_106.out _).trans (((cell_far (p := ⟨gb106, _, none⟩) NB101_106.out _).trans (((cell_far (p := ⟨gb106, _, none⟩) NB101_106.out _).trans (((cell_far (p := ⟨gb106, _, none⟩) NB101_106.out _).trans (hHeld.2.1)))))))), ((cell_far (p := ⟨gb106, _, none⟩) NB101_106.out _).trans (((cell_far (p := ⟨gb106, _, none⟩) NB101_106.out _).trans (((cell_far (p := ⟨gb106, _, none⟩) NB101_106.out _).trans (((cell_far (p := ⟨gb106, _, none⟩) NB101_106.out _).trans (hHeld.2.2.1)))))))), ((cell_far (p := ⟨gb106, _, none⟩) NB101_106.out _).trans (((cell_far (p := ⟨gb106, _, none⟩) NB101_106.out _).trans (((cell_far (p := ⟨gb106, _, none⟩) NB101_106.out _).trans (((cell_far (p := ⟨gb106, _, none⟩) NB101_106.out _).trans (hHeld.2.2.2))))))))⟩ (fun hHeld => ?_)
 clear hK K
 refine done_ (done_of HT_.out (by kernel_rfl)) ?_
 have hnb15 := NB101_102.out
 have hnc15 := NB102_101.out
 have hnb16 := NB101_106.out
 have hnc16 := NB106_101.out
 have hcz17_0 : w9.cell? ⟨gb101, 0, none⟩ = some (.slice A0_0 l0_0.length c0_0) := (zX BK101.out 0).trans rfl
 have hcz17_1 : w9.cell? ⟨gb101, 1, none⟩ = some (.slice A0_1 l0_1.length c0_1) := (zX BK101.out 1).trans rfl
 have hcz17_2 : w9.cell? ⟨gb101, 2, none⟩ = some (.int .i64 a0_2) := (zX BK101.out 2).trans rfl
 have hcz17_3 : w9.cell? ⟨gb101, 3, none⟩ = some (.slice A0_3 l0_3.length c0_3) := (zX BK101.out 3).trans rfl
 have hfz17_0 := zY BK101.out 0
 have hfz17_1 := zY BK101.out 1
 have hfz17_2 := zY BK101.out 2
 have hfz17_3 := zY BK101.out 3
 try go_wp2
 go_loopg [17] k (fun kq v17 w' => ∃ (x17_1 : Int) (x107000_1 : List (S70)) (u107000 : Value), v17 = .int .i64 x17_1 ∧ Aside0 (rewrite_clone.l0 kq l0_0 (l0_0.length : Int) x17_1 l0_0 l0_1 a0_2 l0_3 x107000_1 a0_2 t103 = some (r1, r2, r3, r4)) ∧ Aside0 (kq ≤ k) ∧ Aside0 (Kd.S k70 70 w' w.heap.size (fun _ => True) u107000 x107000_1) ∧ Aside0 (Kd.R Kd.string 9 w' w.heap.size (fun _ => True) (.slice Ao10 t103.length co10) t103) ∧ Aside0 (w'.heap[gb101]? = some (.cells #[(.slice A0_0 l0_0.length c0_0), (.slice A0_1 l0_1.length c0_1), .int .i64 a0_2, (.slice A0_3 l0_3.length c0_3)] 28 (0, 0))) ∧ Aside0 (w'.heap[gb102]? = some (.cells #[(.slice none 0 0), (.slice none 0 0), .int .i64 0, (.slice none 0 0)] 28 (0, 0))) ∧ Aside0 (w'.heap[gb106]? = some (.cells #[u107000, (.slice none 0 0), .int .i64 a0_2, (.slice Ao10 t103.length co10)] 28 (0, 0))) ∧ Aside0 (Below w.heap.size w w'))
 case atStart => exact ⟨(0), (([] : List (S70))), (.slice none 0 0), zy, H', ⟨Nat.le_refl _⟩, ⟨by first | exact Kd.S_nil _ _ _ _ _ | exact Kd.N_nil _ _ _ _ _ | exact Kd.V_nil _ _ _ _ _ | exact Kd.Q_nil _ _ _ _ _ | exact Kd.R_nil _ _ _ _ _⟩, ⟨by (with_reducible repeat (first | apply Kd.R_alloc | apply Kd.R_drewN | apply Kd.R_drew)); exact Kd.R_mono (Kd.R_far (p := ⟨gb106, 3, none⟩) (Kd.R_far (p := ⟨gb106, 2, none⟩) (Kd.R_far (p := ⟨gb106, 1, none⟩) (Kd.R_far (p := ⟨gb106, 0, none⟩) (Kd.R_types HO105.out BK106.out (by decide)) (fun _ hk => hk.2) (.slice none 0 0)) (fun _ hk => hk.2) (.slice none 0 0)) (fun _ hk => hk.2) (.int .i64 a0_2)) (fun _ hk => hk.2) (.slice Ao10 t103.length co10)) (fun _ hk => trivial)⟩, ⟨by refine zk ?_; refine blk_far ?_ NB101_106.out _; refine zk ?_; refine blk_far ?_ NB101_106.out _; refine zk ?_; refine blk_far ?_ NB101_106.out _; refine zk ?_; refine blk_far ?_ NB101_106.out _; refine zk ?_; exact BK101.out⟩, ⟨by refine zk ?_; refine blk_far ?_ NB102_106.out _; refine zk ?_; refine blk_far ?_ NB102_106.out _; refine zk ?_; refine blk_far ?_ NB102_106.out _; refine zk ?_; refine blk_far ?_ NB102_106.out _; refine zk ?_; exact BK102.out⟩, ⟨by refine zk ?_; refine blk_put (cs := #[.slice none 0 0, .slice none 0 0, .int .i64 a0_2, .slice none 0 0]) ?_ 3 _ rfl; refine zk ?_; refine blk_put (cs := #[.slice none 0 0, .slice none 0 0, .int .i64 0, .slice none 0 0]) ?_ 2 _ rfl; refine zk ?_; refine blk_put (cs := #[.slice none 0 0, .slice none 0 0, .int .i64 0, .slice none 0 0]) ?_ 1 _ rfl; refine zk ?_; refine blk_put (cs := #[.slice none 0 0, .slice none 0 0, .int .i64 0, .slice none 0 0]) ?_ 0 _ rfl; refine zk ?_; exact BK106.out⟩, ⟨zb⟩⟩
 case round =>
  clear H'
  try clear c1
  try clear p2
  try clear c4
  try clear c7
  try clear c15
  try clear c16
  try clear hcz17_0
  try clear hcz17_1
  try clear hcz17_2
  try clear hcz17_3
  try clear hfz17_0
  try clear hfz17_1
  try clear hfz17_2
  try clear hfz17_3
  obtain ⟨x17_1, x107000_1, u107000, rfl, HA, HK1, HO_107000, HO_107003, BK101, BK102, BK106, HB⟩ := hrel
  cases gk with
  | zero => exact absurd HA.out (by simp [rewrite_clone.l0])
  | succ k1 =>
   have H := HA.out
   clear HA
   simp only [rewrite_clone.l0] at H
   by_cases c18 : x17_1 < (l0_0.length : Int)
   ·
    rw [if_pos c18] at H
    have c18b0 : decide (x17_1 < (l0_0.length : Int)) = true := zQ c18
    clear c18
    by_cases c19 : 0 ≤ x17_1
    ·
     rw [if_pos c19] at H
     have c19b0 : decide (0 ≤ x17_1) = true := zQ c19
     clear c19
     by_cases c20 : x17_1 < (l0_0.length : Int)
     ·
      rw [if_pos c20] at H
      have c20b0 : decide (x17_1 < (l0_0.length : Int)) = true := zQ c20
      clear c20
      replace H := zB H
      obtain ⟨t109, A210, H⟩ := H
      try dsimp only at H
      have A21 := zM A210
      clear A210
      by_cases c22 : x107000_1.length < 2513169434916
      ·
       rw [if_pos c22] at H
       have LMc22 := zM c22
       clear c22
       obtain ⟨y112, hy112⟩ : ∃ y_ : List (S70), y_ = (x107000_1 ++ [(⟨(rd_T70 l0_0 x17_1).f0, (⟨(rd_T70 l0_0 x17_1).f1.f0, (rd_T70 l0_0 x17_1).f1.f1⟩ : S54), t109⟩ : S70)]) := ⟨_, rfl⟩
       replace H : (rewrite_clone.l0 k1 l0_0 (l0_0.length : Int) (wrap64 (x17_1 + 1)) l0_0 l0_1 a0_2 l0_3 y112 a0_2 t103) = some (r1, r2, r3, r4) := by first | (rw [hy112]; with_reducible exact H) | (have H2_ := (Option.bind_some _ _).symm.trans H; rw [hy112]; with_reducible exact H2_) | (have H2_ := (Option.bind_some _ _).symm.trans H; with_reducible exact H2_) | with_reducible exact H | (rw [hy112]; exact H) | exact H
       have Ny112 := zM hy112
       clear hy112
       have H' := zM H
       clear H
       have p107 : 0 ≤ (x17_1 : Int) := zT zv
       have q107 : x17_1 < (l0_0.length : Int) := zT zv
       obtain ⟨ad107, A107_3, c107_3, e107, hx107_0, hx107_1, hx107_2, hx107_3, hl107_3, hi107_3⟩ := at_T70 HR0_0.out x17_1 p107 q107
       cases e107
       replace hx107_0 := (HB.out.cell (World.block_lt_of_cell? w _ hx107_0)).trans hx107_0
       replace hx107_1 := (HB.out.cell (World.block_lt_of_cell? w _ hx107_1)).trans hx107_1
       replace hx107_2 := (HB.out.cell (World.block_lt_of_cell? w _ hx107_2)).trans hx107_2
       replace hx107_3 := (HB.out.cell (World.block_lt_of_cell? w _ hx107_3)).trans hx107_3
       have HR107_3 := zM hi107_3
       have HC107_3 := zM hl107_3
       clear hi107_3 hl107_3
       replace p107 := eq_true p107
       replace q107 := eq_true q107
       go_wp2_with (first | ((with_reducible refine gate_dst (N := 5) rfl ?_); refine box_event ?hg (N := 5) ?hd (cs := #[.int .i64 0, .string (⟨#[]⟩ : ByteArray), .int .i64 0, .slice none 0 0]) (t := 70) ?hr ?_; (case hd => rfl); (case hg => rfl); (case hr => first | (go_simp; done) | (go_simp; rfl)); intro gb108 hg w23 hbox hb; replace HO_107000 := zM (Kd.S_below (Kd.S_elderB (Kd.S_below HO_107000.out zg) gb108 (Nat.le_of_eq hg.symm)) hb); replace HO_107003 := zM (Kd.R_below (zr HO_107003.out) hb); have BK108 := zM (hbox); have GW108 := zM (zh hg : w.heap.size ≤ gb108); have GE108 := zM (zh hg : w.heap.size ≤ gb108); replace HB := zM (below_step zb hb); have NB101_108 := zM ((by rw [hg]; exact Nat.ne_of_lt (blk_lt (zk BK101.out)) : gb101 ≠ gb108)); have NB108_101 := zM ((by rw [hg]; exact Nat.ne_of_gt (blk_lt (zk BK101.out)) : gb108 ≠ gb101)); replace BK101 := zM (blk_below (zk BK101.out) hb); have NB102_108 := zM ((by rw [hg]; exact Nat.ne_of_lt (blk_lt (zk BK102.out)) : gb102 ≠ gb108)); have NB108_102 := zM ((by rw [hg]; exact Nat.ne_of_gt (blk_lt (zk BK102.out)) : gb108 ≠ gb102)); replace BK102 := zM (blk_below (zk BK102.out) hb); have NB106_108 := zM ((by rw [hg]; exact Nat.ne_of_lt (blk_lt (zk BK106.out)) : gb106 ≠ gb108)); have NB108_106 := zM ((by rw [hg]; exact Nat.ne_of_gt (blk_lt (zk BK106.out)) : gb108 ≠ gb106)); replace BK106 := zM (blk_below (zk BK106.out) hb); clear hb hbox hg; have hnb24 := NB108_101.out; have hnc24 := NB101_108.out; have hnb25 := NB108_102.out; have hnc25 := NB102_108.out; have hnb26 := NB108_106.out; have hnc26 := NB106_108.out; have hcz27_0 : w23.cell? ⟨gb108, 0, none⟩ = some (.int .i64 0) := (zX BK108.out 0).trans rfl; have hcz27_1 : w23.cell? ⟨gb108, 1, none⟩ = some (.string (⟨#[]⟩ : ByteArray)) := (zX BK108.out 1).trans rfl; have hcz27_2 : w23.cell? ⟨gb108, 2, none⟩ = some (.int .i64 0) := (zX BK108.out 2).trans rfl; have hcz27_3 : w23.cell? ⟨gb108, 3, none⟩ = some (.slice none 0 0) := (zX BK108.out 3).trans rfl; have hfz27_0 := zY BK108.out 0; have hfz27_1 := zY BK108.out 1; have hfz27_2 := zY BK108.out 2; have hfz27_3 := zY BK108.out 3) | ((with_reducible refine gate_callee (f := 71) rfl ?_); refine goesL_ (some 23) rfl rfl Try.func71 (by kernel_rfl) rfl #[.slice A107_3 ((rd_T70 l0_0 x17_1).f2).length c107_3] rfl zl ?_; (with_reducible refine (api_Cell_71.calls _ _ ((rd_T70 l0_0 x17_1).f2) t109 _ ?side1 ?side2 A21.out).mono ?_); (case side1 => exact Kd.C_below HR107_3.out zb); (case side2 => exact HC107_3.out); rintro e w28 ⟨v110, rfl, ho0, hb⟩; refine ⟨_, rfl, ?_⟩; replace HO_107000 := zM (Kd.S_elder' (by (with_reducible repeat (first | apply Kd.S_alloc | apply Kd.S_drewN | apply Kd.S_drew)); exact (Kd.S_mono (Kd.S_far (p := ⟨gb108, 3, none⟩) (Kd.S_far (p := ⟨gb108, 2, none⟩) (Kd.S_far (p := ⟨gb108, 1, none⟩) (Kd.S_far (p := ⟨gb108, 0, none⟩) (Kd.S_mono HO_107000.out (fun k_ hk => (⟨hk, hk.2⟩ : _ ∧ k_ ≠ gb108))) (fun _ hk => hk.2) (.int .i64 ((rd_T70 l0_0 x17_1).f0))) (fun _ hk => hk.2) (.string ((rd_T70 l0_0 x17_1).f1.f0))) (fun _ hk => hk.2) (.int .i64 ((rd_T70 l0_0 x17_1).f1.f1))) (fun _ hk => hk.2) (.slice A107_3 ((rd_T70 l0_0 x17_1).f2).length c107_3)) (fun _ h_ => h_.1))) (Kd.R_base ho0) hb); replace HO_107003 := zM (Kd.R_below (by (with_reducible repeat (first | apply Kd.R_alloc | apply Kd.R_drewN | apply Kd.R_drew)); exact (Kd.R_mono (Kd.R_far (p := ⟨gb108, 3, none⟩) (Kd.R_far (p := ⟨gb108, 2, none⟩) (Kd.R_far (p := ⟨gb108, 1, none⟩) (Kd.R_far (p := ⟨gb108, 0, none⟩) (Kd.R_types HO_107003.out BK108.out (by decide)) (fun _ hk => hk.2) (.int .i64 ((rd_T70 l0_0 x17_1).f0))) (fun _ hk => hk.2) (.string ((rd_T70 l0_0 x17_1).f1.f0))) (fun _ hk => hk.2) (.int .i64 ((rd_T70 l0_0 x17_1).f1.f1))) (fun _ hk => hk.2) (.slice A107_3 ((rd_T70 l0_0 x17_1).f2).length c107_3)) (fun _ h_ => h_.1))) hb); have HO111 := zM (Kd.R_lower ho0 (below_size zb)); replace BK101 := zM (blk_below (g := gb101) (o := .cells #[.slice (some ad107) l0_0.length c0_0, .slice A0_1 l0_1.length c0_1, .int .i64 a0_2, .slice A0_3 l0_3.length c0_3] 28 (0, 0)) (by refine zk ?_; refine blk_far ?_ NB101_108.out _; refine zk ?_; refine blk_far ?_ NB101_108.out _; refine zk ?_; refine blk_far ?_ NB101_108.out _; refine zk ?_; refine blk_far ?_ NB101_108.out _; refine zk ?_; exact BK101.out) hb); replace BK102 := zM (blk_below (g := gb102) (o := .cells #[.slice none 0 0, .slice none 0 0, .int .i64 0, .slice none 0 0] 28 (0, 0)) (by refine zk ?_; refine blk_far ?_ NB102_108.out _; refine zk ?_; refine blk_far ?_ NB102_108.out _; refine zk ?_; refine blk_far ?_ NB102_108.out _; refine zk ?_; refine blk_far ?_ NB102_108.out _; refine zk ?_; exact BK102.out) hb); replace BK106 := zM (blk_below (g := gb106) (o := .cells #[u107000, .slice none 0 0, .int .i64 a0_2, .slice Ao10 t103.length co10] 28 (0, 0)) (by refine zk ?_; refine blk_far ?_ NB106_108.out _; refine zk ?_; refine blk_far ?_ NB106_108.out _; refine zk ?_; refine blk_far ?_ NB106_108.out _; refine zk ?_; refine blk_far ?_ NB106_108.out _; refine zk ?_; exact BK106.out) hb); replace BK108 := zM (blk_below (g := gb108) (o := .cells #[.int .i64 ((rd_T70 l0_0 x17_1).f0), .string ((rd_T70 l0_0 x17_1).f1.f0), .int .i64 ((rd_T70 l0_0 x17_1).f1.f1), .slice A107_3 ((rd_T70 l0_0 x17_1).f2).length c107_3] 70 (0, 0)) (by refine zk ?_; refine blk_put (cs := #[.int .i64 ((rd_T70 l0_0 x17_1).f0), .string ((rd_T70 l0_0 x17_1).f1.f0), .int .i64 ((rd_T70 l0_0 x17_1).f1.f1), .slice none 0 0]) ?_ 3 _ rfl; refine zk ?_; refine blk_put (cs := #[.int .i64 ((rd_T70 l0_0 x17_1).f0), .string ((rd_T70 l0_0 x17_1).f1.f0), .int .i64 0, .slice none 0 0]) ?_ 2 _ rfl; refine zk ?_; refine blk_put (cs := #[.int .i64 ((rd_T70 l0_0 x17_1).f0), .string (⟨#[]⟩ : ByteArray), .int .i64 0, .slice none 0 0]) ?_ 1 _ rfl; refine zk ?_; refine blk_put (cs := #[.int .i64 0, .string (⟨#[]⟩ : ByteArray), .int .i64 0, .slice none 0 0]) ?_ 0 _ rfl; refine zk ?_; exact BK108.out) hb); replace HB := zM (below_step zb hb); (try clear hb); (try clear ho0); obtain ⟨Ao29, co29, eo29⟩ := Kd.R_slice HO111.out; subst eo29; have hcz30_0 : w28.cell? ⟨gb108, 0, none⟩ = some (.int .i64 ((rd_T70 l0_0 x17_1).f0)) := (zX BK108.out 0).trans rfl; have hcz30_1 : w28.cell? ⟨gb108, 1, none⟩ = some (.string ((rd_T70 l0_0 x17_1).f1.f0)) := (zX BK108.out 1).trans rfl; have hcz30_2 : w28.cell? ⟨gb108, 2, none⟩ = some (.int .i64 ((rd_T70 l0_0 x17_1).f1.f1)) := (zX BK108.out 2).trans rfl; have hcz30_3 : w28.cell? ⟨gb108, 3, none⟩ = some (.slice A107_3 ((rd_T70 l0_0 x17_1).f2).length c107_3) := (zX BK108.out 3).trans rfl; have hfz30_0 := zY BK108.out 0; have hfz30_1 := zY BK108.out 1; have hfz30_2 := zY BK108.out 2; have hfz30_3 := zY BK108.out 3) | ((with_reducible refine gate_store (t := 23) (p := 24) rfl ?_); refine store_event (t := 23) (p := 24) (v := ?vo_w31) (w1 := (w28.setCell ⟨gb108, 3, none⟩ (.slice Ao29 t109.length co29))) ?hg ?ho ?hn ?hr ?_; (case ho => rfl); (case hg => rfl); (case hn => rfl); (case hr => first | (go_simp; done) | (go_simp; rfl)); intro w31 hw; have n0_ : Aside0 (Kd.S k70 70 w31 w.heap.size (fun k_ => some k_ ≠ (.slice Ao29 t109.length co29 : Value).ownBlock ∧ k_ ≠ gb108) u107000 x107000_1) := ⟨(by rw [hw]; exact (by (with_reducible repeat (first | apply Kd.S_alloc | apply Kd.S_drewN | apply Kd.S_drew)); exact Kd.S_mono (Kd.S_far (p := ⟨gb108, 3, none⟩) (Kd.S_mono HO_107000.out (fun k_ hk => (⟨hk, hk.1.2⟩ : _ ∧ k_ ≠ gb108))) (fun _ hk => hk.2) (.slice Ao29 t109.length co29)) (fun _ hk => ⟨hk.1.2, hk.1.1.2⟩)))⟩; have n1_ : Aside0 (Kd.R Kd.string 9 w31 w.heap.size (fun _ => True) (.slice Ao10 t103.length co10) t103) := ⟨(by rw [hw]; exact (by (with_reducible repeat (first | apply Kd.R_alloc | apply Kd.R_drewN | apply Kd.R_drew)); exact Kd.R_mono (Kd.R_far (p := ⟨gb108, 3, none⟩) (Kd.R_types HO_107003.out BK108.out (by decide)) (fun _ hk => hk.2) (.slice Ao29 t109.length co29)) (fun _ hk => trivial)))⟩; have n2_ : Aside0 (Kd.R k54 54 w31 w.heap.size (fun _ => True) (.slice Ao29 t109.length co29) t109) := ⟨(by rw [hw]; exact (by (with_reducible repeat (first | apply Kd.R_alloc | apply Kd.R_drewN | apply Kd.R_drew)); exact Kd.R_mono (Kd.R_far (p := ⟨gb108, 3, none⟩) (Kd.R_types HO111.out BK108.out (by decide)) (fun _ hk => hk.2) (.slice Ao29 t109.length co29)) (fun _ hk => trivial)))⟩; have n3_ : Aside0 (w31.heap[gb101]? = some (.cells #[.slice (some ad107) l0_0.length c0_0, .slice A0_1 l0_1.length c0_1, .int .i64 a0_2, .slice A0_3 l0_3.length c0_3] 28 (0, 0))) := ⟨(by rw [hw]; exact (by refine zk ?_; refine blk_far ?_ NB101_108.out _; refine zk ?_; exact BK101.out))⟩; have n4_ : Aside0 (w31.heap[gb102]? = some (.cells #[.slice none 0 0, .slice none 0 0, .int .i64 0, .slice none 0 0] 28 (0, 0))) := ⟨(by rw [hw]; exact (by refine zk ?_; refine blk_far ?_ NB102_108.out _; refine zk ?_; exact BK102.out))⟩; have n5_ : Aside0 (w31.heap[gb106]? = some (.cells #[u107000, .slice none 0 0, .int .i64 a0_2, .slice Ao10 t103.length co10] 28 (0, 0))) := ⟨(by rw [hw]; exact (by refine zk ?_; refine blk_far ?_ NB106_108.out _; refine zk ?_; exact BK106.out))⟩; have n6_ : Aside0 (w31.heap[gb108]? = some (.cells #[.int .i64 ((rd_T70 l0_0 x17_1).f0), .string ((rd_T70 l0_0 x17_1).f1.f0), .int .i64 ((rd_T70 l0_0 x17_1).f1.f1), .slice Ao29 t109.length co29] 70 (0, 0))) := ⟨(by rw [hw]; exact (by refine zk ?_; refine blk_put (cs := #[.int .i64 ((rd_T70 l0_0 x17_1).f0), .string ((rd_T70 l0_0 x17_1).f1.f0), .int .i64 ((rd_T70 l0_0 x17_1).f1.f1), .slice A107_3 ((rd_T70 l0_0 x17_1).f2).length c107_3]) ?_ 3 _ rfl; refine zk ?_; exact BK108.out))⟩; have n7_ : Aside0 (Below w.heap.size w w31) := ⟨(by rw [hw]; exact zb)⟩; clear hw; clear HO_107000; clear HO_107003; clear HO111; clear BK101; clear BK102; clear BK106; clear BK108; clear HB; have HO_107000 := n0_; have HO_107003 := n1_; have HO111 := n2_; have BK101 := n3_; have BK102 := n4_; have BK106 := n5_; have BK108 := n6_; have HB := n7_; clear n0_ n1_ n2_ n3_ n4_ n5_ n6_ n7_; have hnb32 := NB106_101.out; have hnc32 := NB101_106.out; have hnb33 := NB106_102.out; have hnc33 := NB102_106.out; have hcz34_0 : w31.cell? ⟨gb106, 0, none⟩ = some (u107000) := (zX BK106.out 0).trans rfl; have hcz34_1 : w31.cell? ⟨gb106, 1, none⟩ = some (.slice none 0 0) := (zX BK106.out 1).trans rfl; have hcz34_2 : w31.cell? ⟨gb106, 2, none⟩ = some (.int .i64 a0_2) := (zX BK106.out 2).trans rfl; have hcz34_3 : w31.cell? ⟨gb106, 3, none⟩ = some (.slice Ao10 t103.length co10) := (zX BK106.out 3).trans rfl; have hfz34_0 := zY BK106.out 0; have hfz34_1 := zY BK106.out 1; have hfz34_2 := zY BK106.out 2; have hfz34_3 := zY BK106.out 3; have hcz35_0 : w31.cell? ⟨gb108, 0, none⟩ = some (.int .i64 ((rd_T70 l0_0 x17_1).f0)) := (zX BK108.out 0).trans rfl; have hcz35_1 : w31.cell? ⟨gb108, 1, none⟩ = some (.string ((rd_T70 l0_0 x17_1).f1.f0)) := (zX BK108.out 1).trans rfl; have hcz35_2 : w31.cell? ⟨gb108, 2, none⟩ = some (.int .i64 ((rd_T70 l0_0 x17_1).f1.f1)) := (zX BK108.out 2).trans rfl; have hcz35_3 : w31.cell? ⟨gb108, 3, none⟩ = some (.slice Ao29 t109.length co29) := (zX BK108.out 3).trans rfl; have hfz35_0 := zY BK108.out 0; have hfz35_1 := zY BK108.out 1; have hfz35_2 := zY BK108.out 2; have hfz35_3 := zY BK108.out 3) | ((with_reducible refine gate_builtin (b := .append) (xs := #[.tmp 26, .tmp 28]) rfl ?_); at_builtin; refine Kd.S_append k70 (w0 := w) w.heap.size rfl (.tmp 26) (.tmp 28) 24 70 (.agg #[(.int .i64 0), (.string ⟨#[]⟩), (.int .i64 0), (.slice none 0 0)]) 56 rfl Try.underlying24 info70 rfl (by decide) (by omega) u107000 x107000_1 (⟨(rd_T70 l0_0 x17_1).f0, (⟨(rd_T70 l0_0 x17_1).f1.f0, (rd_T70 l0_0 x17_1).f1.f1⟩ : S54), t109⟩ : S70) [.int .i64 ((rd_T70 l0_0 x17_1).f0), .string ((rd_T70 l0_0 x17_1).f1.f0), .int .i64 ((rd_T70 l0_0 x17_1).f1.f1), .slice Ao29 t109.length co29] (fun k_ => k_ ≠ gb108) (fun k_ => some k_ = (.slice Ao29 t109.length co29 : Value).ownBlock) rfl rfl ?aP (fun k_ hk_ => ((Kd.R_mono (ok' := fun k_ => ((fun k_ => k_ ≠ gb108)) k_ ∧ some k_ ≠ (u107000 : Value).ownBlock) (Kd.R_types (Kd.R_apart' (HO111.out) (Kd.S_typed HO_107000.out) (by decide)) BK108.out (by decide)) (fun k_ hk => ⟨hk.2, hk.1.2⟩))).1 k_ hk_.symm) ?aF ?aO ?aB ?aS ?aL ?_; (case aP => exact k70_mkM _ _ _ (⟨(rd_T70 l0_0 x17_1).f0, (⟨(rd_T70 l0_0 x17_1).f1.f0, (rd_T70 l0_0 x17_1).f1.f1⟩ : S54), t109⟩ : S70) (Kd.R_mono (Kd.R_tight rfl (Kd.R_mono (ok' := fun k_ => ((fun k_ => k_ ≠ gb108)) k_ ∧ some k_ ≠ (u107000 : Value).ownBlock) (Kd.R_types (Kd.R_apart' (HO111.out) (Kd.S_typed HO_107000.out) (by decide)) BK108.out (by decide)) (fun k_ hk => ⟨hk.2, hk.1.2⟩))) (fun _ h_ => h_))); (case aB => exact zb); (case aF => exact (fun k_ hk => Kd.freshB (g := gb108) (o := .cells #[.int .i64 ((rd_T70 l0_0 x17_1).f0), .string ((rd_T70 l0_0 x17_1).f1.f0), .int .i64 ((rd_T70 l0_0 x17_1).f1.f1), .slice Ao29 t109.length co29] 70 (0, 0)) (zk BK108.out) k_ hk)); (case aO => exact (by (with_reducible repeat (first | apply Kd.S_alloc | apply Kd.S_drewN | apply Kd.S_drew)); exact Kd.S_mono HO_107000.out (fun k_ hk => ⟨hk.2, fun e_ => hk.1 e_⟩))); (case aS => exact (below_size zb)); (case aL => have := LMc22.out; omega); intro v113 w36 ho hb hg hat; rw [← Ny112.out] at ho; replace HO_107003 := zM (Kd.R_over' (zr HO_107003.out) (Kd.S_typed (Kd.S_below HO_107000.out zg)) (by decide) hg); replace BK101 := zM (blk_grown (g := gb101) (o := .cells #[.slice (some ad107) l0_0.length c0_0, .slice A0_1 l0_1.length c0_1, .int .i64 a0_2, .slice A0_3 l0_3.length c0_3] 28 (0, 0)) (zk BK101.out) hg (Kd.S_ne HO_107000.out BK101.out (by decide))); replace BK102 := zM (blk_grown (g := gb102) (o := .cells #[.slice none 0 0, .slice none 0 0, .int .i64 0, .slice none 0 0] 28 (0, 0)) (zk BK102.out) hg (Kd.S_ne HO_107000.out BK102.out (by decide))); replace BK106 := zM (blk_grown (g := gb106) (o := .cells #[u107000, .slice none 0 0, .int .i64 a0_2, .slice Ao10 t103.length co10] 28 (0, 0)) (zk BK106.out) hg (Kd.S_ne HO_107000.out BK106.out (by decide))); replace BK108 := zM (blk_grown (g := gb108) (o := .cells #[.int .i64 ((rd_T70 l0_0 x17_1).f0), .string ((rd_T70 l0_0 x17_1).f1.f0), .int .i64 ((rd_T70 l0_0 x17_1).f1.f1), .slice Ao29 t109.length co29] 70 (0, 0)) (zk BK108.out) hg (Kd.S_away HO_107000.out (fun _ hk => hk.2))); replace HB := zM (hb); have HO114 := zM (ho); clear HO111 HO_107000; clear ho hb hg hat; obtain ⟨Ao37, co37, eo37⟩ := Kd.S_slice HO114.out; subst eo37; have hcz38_0 : w36.cell? ⟨gb106, 0, none⟩ = some (u107000) := (zX BK106.out 0).trans rfl; have hcz38_1 : w36.cell? ⟨gb106, 1, none⟩ = some (.slice none 0 0) := (zX BK106.out 1).trans rfl; have hcz38_2 : w36.cell? ⟨gb106, 2, none⟩ = some (.int .i64 a0_2) := (zX BK106.out 2).trans rfl; have hcz38_3 : w36.cell? ⟨gb106, 3, none⟩ = some (.slice Ao10 t103.length co10) := (zX BK106.out 3).trans rfl; have hfz38_0 := zY BK106.out 0; have hfz38_1 := zY BK106.out 1; have hfz38_2 := zY BK106.out 2; have hfz38_3 := zY BK106.out 3))
       go_roundg k1
       case measure => have := HK1.out; omega
       case rel => exact ⟨(wrap64 (x17_1 + 1)), (y112), (.slice Ao37 y112.length co37), zy, H', ⟨by have := HK1.out; omega⟩, ⟨by (with_reducible repeat (first | apply Kd.S_alloc | apply Kd.S_drewN | apply Kd.S_drew)); exact Kd.S_mono (Kd.S_far (p := ⟨gb106, 0, none⟩) (Kd.S_types HO114.out BK106.out (by decide)) (fun _ hk => hk.2) (.slice Ao37 y112.length co37)) (fun _ hk => trivial)⟩, ⟨by (with_reducible repeat (first | apply Kd.R_alloc | apply Kd.R_drewN | apply Kd.R_drew)); exact Kd.R_mono (Kd.R_far (p := ⟨gb106, 0, none⟩) (Kd.R_types HO_107003.out BK106.out (by decide)) (fun _ hk => hk.2) (.slice Ao37 y112.length co37)) (fun _ hk => trivial)⟩, ⟨by refine zk ?_; refine blk_far ?_ NB101_106.out _; refine zk ?_; exact BK101.out⟩, ⟨by refine zk ?_; refine blk_far ?_ NB102_106.out _; refine zk ?_; exact BK102.out⟩, ⟨by refine zk ?_; refine blk_put (cs := #[u107000, .slice none 0 0, .int .i64 a0_2, .slice Ao10 t103.length co10]) ?_ 0 _ rfl; refine zk ?_; exact BK106.out⟩, ⟨zb⟩⟩
      ·
       rw [if_neg c22] at H
       exact absurd H (by simp)
     ·
      rw [if_neg c20] at H
      exact absurd H (by simp)
    ·
     rw [if_neg c19] at H
     exact absurd H (by simp)
   ·
    rw [if_neg c18] at H
    have c18b0 : decide (x17_1 < (l0_0.length : Int)) = false := zR c18
    clear c18
    have H' := zM H
    clear H
    have hnb39 := NB101_102.out
    have hnc39 := NB102_101.out
    have hnb40 := NB101_106.out
    have hnc40 := NB106_101.out
    have hcz41_0 : wr.cell? ⟨gb101, 0, none⟩ = some (.slice A0_0 l0_0.length c0_0) := (zX BK101.out 0).trans rfl
    have hcz41_1 : wr.cell? ⟨gb101, 1, none⟩ = some (.slice A0_1 l0_1.length c0_1) := (zX BK101.out 1).trans rfl
    have hcz41_2 : wr.cell? ⟨gb101, 2, none⟩ = some (.int .i64 a0_2) := (zX BK101.out 2).trans rfl
    have hcz41_3 : wr.cell? ⟨gb101, 3, none⟩ = some (.slice A0_3 l0_3.length c0_3) := (zX BK101.out 3).trans rfl
    have hfz41_0 := zY BK101.out 0
    have hfz41_1 := zY BK101.out 1
    have hfz41_2 := zY BK101.out 2
    have hfz41_3 := zY BK101.out 3
    go_wp2
    go_loopg [35] k1 (fun kq v35 w' => ∃ (x35_2 : Int) (x107001_2 : List (List (S54))) (u107001 : Value), v35 = .int .i64 x35_2 ∧ Aside0 (rewrite_clone.l1 kq l0_1 (l0_1.length : Int) x35_2 x107000_1 x107001_2 a0_2 t103 = some (r1, r2, r3, r4)) ∧ Aside0 (kq ≤ k1) ∧ Aside0 (Kd.S k70 70 w' w.heap.size (fun _ => True) u107000 x107000_1) ∧ Aside0 (Kd.S (Kd.slice 54 k54) 23 w' w.heap.size (fun _ => True) u107001 x107001_2) ∧ Aside0 (Kd.R Kd.string 9 w' w.heap.size (fun _ => True) (.slice Ao10 t103.length co10) t103) ∧ Aside0 (w'.heap[gb101]? = some (.cells #[(.slice A0_0 l0_0.length c0_0), (.slice A0_1 l0_1.length c0_1), .int .i64 a0_2, (.slice A0_3 l0_3.length c0_3)] 28 (0, 0))) ∧ Aside0 (w'.heap[gb102]? = some (.cells #[(.slice none 0 0), (.slice none 0 0), .int .i64 0, (.slice none 0 0)] 28 (0, 0))) ∧ Aside0 (w'.heap[gb106]? = some (.cells #[u107000, u107001, .int .i64 a0_2, (.slice Ao10 t103.length co10)] 28 (0, 0))) ∧ Aside0 (Below w.heap.size w w'))
    case atStart => exact ⟨(0), (([] : List (List (S54)))), (.slice none 0 0), zy, H', ⟨Nat.le_refl _⟩, ⟨Kd.S_below HO_107000.out zg⟩, ⟨by first | exact Kd.S_nil _ _ _ _ _ | exact Kd.N_nil _ _ _ _ _ | exact Kd.V_nil _ _ _ _ _ | exact Kd.Q_nil _ _ _ _ _ | exact Kd.R_nil _ _ _ _ _⟩, ⟨zr HO_107003.out⟩, ⟨by refine zk ?_; exact BK101.out⟩, ⟨by refine zk ?_; exact BK102.out⟩, ⟨by refine zk ?_; exact BK106.out⟩, ⟨zb⟩⟩
    case round =>
     clear H'
     try clear c1
     try clear p1
     try clear q1
     try clear hx1
     try clear c2
     try clear p2
     try clear c3
     try clear c4
     try clear p6
     try clear c7
     try clear c10
     try clear p10
     try clear q10
     try clear hx10
     try clear c15
     try clear c16
     try clear c18
     try clear c18b0
     try clear c19
     try clear c19b0
     try clear c20
     try clear c20b0
     try clear c22
     try clear c24
     try clear c25
     try clear c26
     try clear c32
     try clear c33
     try clear c39
     try clear c40
     try clear hcz17_0
     try clear hcz17_1
     try clear hcz17_2
     try clear hcz17_3
     try clear hcz27_0
     try clear hcz27_1
     try clear hcz27_2
     try clear hcz27_3
     try clear hcz30_0
     try clear hcz30_1
     try clear hcz30_2
     try clear hcz30_3
     try clear hcz34_0
     try clear hcz34_1
     try clear hcz34_2
     try clear hcz34_3
     try clear hcz35_0
     try clear hcz35_1
     try clear hcz35_2
     try clear hcz35_3
     try clear hcz38_0
     try clear hcz38_1
     try clear hcz38_2
     try clear hcz38_3
     try clear hcz41_0
     try clear hcz41_1
     try clear hcz41_2
     try clear hcz41_3
     try clear hfz17_0
     try clear hfz17_1
     try clear hfz17_2
     try clear hfz17_3
     try clear hfz27_0
     try clear hfz27_1
     try clear hfz27_2
     try clear hfz27_3
     try clear hfz30_0
     try clear hfz30_1
     try clear hfz30_2
     try clear hfz30_3
     try clear hfz34_0
     try clear hfz34_1
     try clear hfz34_2
     try clear hfz34_3
     try clear hfz35_0
     try clear hfz35_1
     try clear hfz35_2
     try clear hfz35_3
     try clear hfz38_0
     try clear hfz38_1
     try clear hfz38_2
     try clear hfz38_3
     try clear hfz41_0
     try clear hfz41_1
     try clear hfz41_2
     try clear hfz41_3
     try clear hx107_0
     try clear hx107_1
     try clear hx107_2
     try clear hx107_3
     try clear p107
     try clear p2
     try clear q107
     obtain ⟨x35_2, x107001_2, u107001, rfl, HA, HK2, HO_107000, HO_107001, HO_107003, BK101, BK102, BK106, HB⟩ := hrel
     cases gk with
     | zero => exact absurd HA.out (by simp [rewrite_clone.l1])
     | succ k2 =>
      have H := HA.out
      clear HA
      simp only [rewrite_clone.l1] at H
      by_cases c42 : x35_2 < (l0_1.length : Int)
      ·
       rw [if_pos c42] at H
       have c42b0 : decide (x35_2 < (l0_1.length : Int)) = true := zQ c42
       clear c42
       by_cases c43 : 0 ≤ x35_2
       ·
        rw [if_pos c43] at H
        have c43b0 : decide (0 ≤ x35_2) = true := zQ c43
        clear c43
        by_cases c44 : x35_2 < (l0_1.length : Int)
        ·
         rw [if_pos c44] at H
         have c44b0 : decide (x35_2 < (l0_1.length : Int)) = true := zQ c44
         clear c44
         replace H := zB H
         obtain ⟨t116, A450, H⟩ := H
         try dsimp only at H
         have A45 := zM A450
         clear A450
         by_cases c46 : x107001_2.length < 5864062014805
         ·
          rw [if_pos c46] at H
          have LMc46 := zM c46
          clear c46
          obtain ⟨y119, hy119⟩ : ∃ y_ : List (List (S54)), y_ = (x107001_2 ++ [t116]) := ⟨_, rfl⟩
          replace H : (rewrite_clone.l1 k2 l0_1 (l0_1.length : Int) (wrap64 (x35_2 + 1)) x107000_1 y119 a0_2 t103) = some (r1, r2, r3, r4) := by first | (rw [hy119]; with_reducible exact H) | (have H2_ := (Option.bind_some _ _).symm.trans H; rw [hy119]; with_reducible exact H2_) | (have H2_ := (Option.bind_some _ _).symm.trans H; with_reducible exact H2_) | with_reducible exact H | (rw [hy119]; exact H) | exact H
          have Ny119 := zM hy119
          clear hy119
          have H' := zM H
          clear H
          have p115 : 0 ≤ (x35_2 : Int) := zT zv
          have q115 : x35_2 < (l0_1.length : Int) := zT zv
          obtain ⟨ad115, A115_0, c115_0, e115, hx115_0, hl115_0, hi115_0⟩ := at_L3 HR0_1.out x35_2 p115 q115
          cases e115
          replace hx115_0 := (HB.out.cell (World.block_lt_of_cell? w _ hx115_0)).trans hx115_0
          have HR115_0 := zM hi115_0
          have HC115_0 := zM hl115_0
          clear hi115_0 hl115_0
          replace p115 := eq_true p115
          replace q115 := eq_true q115
          try go_wp2
          have n0_ := zM (Kd.S_drew HO_107000.out)
          have n1_ := zM (Kd.S_drew HO_107001.out)
          have n2_ := zM (Kd.R_drew HO_107003.out)
          have n3_ := zM (blk_drew BK101.out)
          have n4_ := zM (blk_drew BK102.out)
          have n5_ := zM (blk_drew BK106.out)
          have n6_ := zM (zD HB.out)
          clear HO_107000
          clear HO_107001
          clear HO_107003
          clear BK101
          clear BK102
          clear BK106
          clear HB
          have HO_107000 := n0_
          have HO_107001 := n1_
          have HO_107003 := n2_
          have BK101 := n3_
          have BK102 := n4_
          have BK106 := n5_
          have HB := n6_
          clear n0_ n1_ n2_ n3_ n4_ n5_ n6_
          refine start_ (n := 8) (S := fun w' => w'.cell? ⟨gb106, 0, none⟩ = some (u107000) ∧ w'.cell? ⟨gb106, 1, none⟩ = some (u107001) ∧ w'.cell? ⟨gb106, 2, none⟩ = some (.int .i64 a0_2) ∧ w'.cell? ⟨gb106, 3, none⟩ = some (.slice Ao10 t103.length co10)) (ds := [7]) #[false, false, false, false, false, false, false, false] (by kernel_rfl) rfl rfl ⟨(zX BK106.out 0).trans rfl, (zX BK106.out 1).trans rfl, (zX BK106.out 2).trans rfl, (zX BK106.out 3).trans rfl⟩ (fun hHeld => ?_); refine with_tabW rewrite_clone.tab11 rewrite_clone.bits11 (fun HT_ HW_ => ?_)
          generalize wr.drew = w47 at HO_107000 HO_107001 HO_107003 BK101 BK102 BK106 HB hHeld ⊢
          refine pure_ (i := 0) (N := some 39) (v := ?_) (a' := ?_) #[true, false, false, false, false, false, false, false] rfl rfl (any_of HT_.out (by kernel_rfl)) (fun _ _ _ h => h) (Or.inl ⟨by rfl, ?_⟩) ?_ ?_
          rotate_left
          ·
           intro w'
           go_simp
           with_reducible rfl
          rotate_left
          ·
           simp only [Act.put, zp1, zp2, zp3, i64_w, i32_w]
           rfl
          refine pure_ (i := 2) (N := some 41) (v := ?_) (a' := ?_) #[true, false, true, false, false, false, false, false] rfl rfl (any_of HT_.out (by kernel_rfl)) (fun _ _ _ h => h) (Or.inl ⟨by rfl, ?_⟩) ?_ ?_
          rotate_left
          ·
           intro w'
           go_simp
           with_reducible rfl
          rotate_left
          ·
           simp only [Act.put, zp1, zp2, zp3, i64_w, i32_w]
           rfl
          refine take_ (i := 1) (N := some 40) (v := ?_) (a' := ?_) #[true, true, true, false, false, false, false, false] rfl rfl (take_ofW HT_.out HW_.out (by kernel_rfl)) (fun _ _ _ h => h) (Or.inl ⟨by rfl, ?_⟩) hHeld ?_ ?_
          rotate_left
          ·
           rintro w' ⟨s0, s1, s2, s3⟩
           go_simp
           with_reducible rfl
          rotate_left
          ·
           simp only [Act.put, zp1, zp2, zp3, i64_w, i32_w]
           rfl
          refine one_ (i := 3) (N := some 42) #[true, true, true, true, false, false, false, false] rfl rfl (one_of HT_.out (by kernel_rfl)) (by decide) (fun K hK => ?_)
          refine goes_ Try.func71 (by kernel_rfl) rfl #[.slice A115_0 (rd_L3 l0_1 x35_2).length c115_0] (by rfl) rfl rfl zl ?_
          with_reducible refine (api_Cell_71.calls _ _ (rd_L3 l0_1 x35_2) t116 _ ?side1 ?side2 A45.out).mono ?_
          (case side1 => exact Kd.C_below HR115_0.out zb)
          (case side2 => exact HC115_0.out)
          rintro e w48 ⟨v117, rfl, ho0, hb⟩
          refine ⟨_, rfl, ?_⟩
          have n0_ := zM (Kd.S_elder' (Kd.S_below HO_107000.out zg) (Kd.R_base ho0) hb)
          have n1_ := zM (Kd.S_elder' (Kd.S_below HO_107001.out zg) (Kd.R_base ho0) hb)
          have n2_ := zM (Kd.R_below (zr HO_107003.out) hb)
          have n3_ := zM (Kd.R_lower ho0 (below_size zb))
          have n4_ := zM (blk_below (zk BK101.out) hb)
          have n5_ := zM (blk_below (zk BK102.out) hb)
          have n6_ := zM (blk_below (zk BK106.out) hb)
          have n7_ := zM (below_step zb hb)
          clear HO_107000
          clear HO_107001
          clear HO_107003
          clear BK101
          clear BK102
          clear BK106
          clear HB
          have HO_107000 := n0_
          have HO_107001 := n1_
          have HO_107003 := n2_
          have HO118 := n3_
          have BK101 := n4_
          have BK102 := n5_
          have BK106 := n6_
          have HB := n7_
          clear n0_ n1_ n2_ n3_ n4_ n5_ n6_ n7_
          (try clear hb)
          (try clear hb2)
          (try clear hk)
          (try clear hi)
          (try clear ho0)
          obtain ⟨Ao50, co50, eo50⟩ := Kd.R_slice HO118.out
          (first | subst eo50 | (injection eo50 with f1_ f2_ f3_; have f4_ := f1_.symm; have f5_ := f3_.symm; clear f1_ f2_ f3_; subst f4_; subst f5_))
          refine hK.out _ _ ⟨(zX BK106.out 0).trans rfl, (zX BK106.out 1).trans rfl, (zX BK106.out 2).trans rfl, (zX BK106.out 3).trans rfl⟩ (fun hHeld => ?_)
          clear hK K
          refine norm_ (a' := ?_) ?_ ?_
          rotate_left
          ·
           show Act.put _ (some 42) _ = _
           simp only [Act.put, zp1, zp2, zp3, i64_w, i32_w]
           rfl
          refine one_ (i := 4) (N := some 43) #[true, true, true, true, true, false, false, false] rfl rfl (one_of HT_.out (by kernel_rfl)) (by decide) (fun K hK => ?_)
          refine value_ (w1 := ?_) (v := ?_) (by rfl) rfl ?_ ?_
          rotate_left 2
          ·
           go_simp
           constructor
           ·
            rfl
           ·
            rfl
          refine hK.out _ _ ⟨(zX (blk_alloc BK106.out _) 0).trans rfl, (zX (blk_alloc BK106.out _) 1).trans rfl, (zX (blk_alloc BK106.out _) 2).trans rfl, (zX (blk_alloc BK106.out _) 3).trans rfl⟩ (fun hHeld => ?_)
          clear hK K
          refine norm_ (a' := ?_) ?_ ?_
          rotate_left
          ·
           show Act.put _ (some 43) _ = _
           simp only [Act.put, zp1, zp2, zp3, i64_w, i32_w]
           rfl
          refine one_ (i := 5) (N := some 44) #[true, true, true, true, true, true, false, false] rfl rfl (one_of HT_.out (by kernel_rfl)) (by decide) (fun K hK => ?_)
          refine Kd.S_append_step (Kd.slice 54 k54) (w0 := w) w.heap.size (by rfl) (.tmp 40) (.tmp 43) 25 23 (.slice none 0 0) 24 rfl Try.underlying25 info23 rfl (by decide) (by omega) u107001 x107001_2 t116 [.slice Ao50 t116.length co50] (fun _ => True) (fun k_ => some k_ = (.slice Ao50 t116.length co50 : Value).ownBlock) rfl rfl ?aP (fun k_ hk_ => ((Kd.R_mono (ok' := fun k_ => ((fun _ => True)) k_ ∧ some k_ ≠ (u107001 : Value).ownBlock) (Kd.R_apart' (HO118.out) (Kd.S_typed HO_107001.out) (by decide)) (fun k_ hk => ⟨trivial, hk.2⟩))).1 k_ hk_.symm) ?aF ?aO ?aB ?aS ?aL ?_
          (case aP => exact Kd.M_row (Kd.R_mono (Kd.R_tight rfl (Kd.R_mono (ok' := fun k_ => ((fun _ => True)) k_ ∧ some k_ ≠ (u107001 : Value).ownBlock) (Kd.R_apart' (HO118.out) (Kd.S_typed HO_107001.out) (by decide)) (fun k_ hk => ⟨trivial, hk.2⟩))) (fun _ h_ => h_)))
          (case aB => exact zb)
          (case aF => exact (fun _ _ => trivial))
          (case aO => exact (by (with_reducible repeat (first | apply Kd.S_alloc | apply Kd.S_drewN | apply Kd.S_drew)); exact Kd.S_mono HO_107001.out (fun k_ hk => ⟨trivial, fun e_ => hk.2 e_⟩)))
          (case aS => exact (below_size zb))
          (case aL => have := LMc46.out; omega)
          intro v120 w49 ho hb hg hat
          rw [← Ny119.out] at ho
          have n0_ := zM (Kd.S_over' (Kd.S_below HO_107000.out zg) (Kd.S_typed (Kd.S_below HO_107001.out zg)) (by decide) hg)
          have n1_ := zM (Kd.R_over' (zr HO_107003.out) (Kd.S_typed (Kd.S_below HO_107001.out zg)) (by decide) hg)
          have n2_ := zM (blk_grown (g := gb101) (o := .cells #[.slice A0_0 l0_0.length c0_0, .slice (some ad115) l0_1.length c0_1, .int .i64 a0_2, .slice A0_3 l0_3.length c0_3] 28 (0, 0)) (zk BK101.out) hg (Kd.S_ne HO_107001.out BK101.out (by decide)))
          have n3_ := zM (blk_grown (g := gb102) (o := .cells #[.slice none 0 0, .slice none 0 0, .int .i64 0, .slice none 0 0] 28 (0, 0)) (zk BK102.out) hg (Kd.S_ne HO_107001.out BK102.out (by decide)))
          have n4_ := zM (blk_grown (g := gb106) (o := .cells #[u107000, u107001, .int .i64 a0_2, .slice Ao10 t103.length co10] 28 (0, 0)) (zk BK106.out) hg (Kd.S_ne HO_107001.out BK106.out (by decide)))
          have n5_ := zM (hb)
          have n6_ := zM (ho)
          clear HO_107000
          clear HO_107003
          clear BK101
          clear BK102
          clear BK106
          clear HB
          clear HO_107001
          clear HO118
          have HO_107000 := n0_
          have HO_107003 := n1_
          have BK101 := n2_
          have BK102 := n3_
          have BK106 := n4_
          have HB := n5_
          have HO121 := n6_
          clear n0_ n1_ n2_ n3_ n4_ n5_ n6_
          clear ho hb hg hat
          obtain ⟨Ao51, co51, eo51⟩ := Kd.S_slice HO121.out
          (first | subst eo51 | (injection eo51 with f1_ f2_ f3_; have f4_ := f1_.symm; have f5_ := f3_.symm; clear f1_ f2_ f3_; subst f4_; subst f5_))
          refine hK.out _ _ ⟨(zX BK106.out 0).trans rfl, (zX BK106.out 1).trans rfl, (zX BK106.out 2).trans rfl, (zX BK106.out 3).trans rfl⟩ (fun hHeld => ?_)
          clear hK K
          refine norm_ (a' := ?_) ?_ ?_
          rotate_left
          ·
           show Act.put _ (some 44) _ = _
           simp only [Act.put, zp1, zp2, zp3, i64_w, i32_w]
           rfl
          refine pure_ (i := 6) (N := some 45) (v := ?_) (a' := ?_) #[true, true, true, true, true, true, true, false] rfl rfl (any_of HT_.out (by kernel_rfl)) (fun _ _ _ h => h) (Or.inl ⟨by rfl, ?_⟩) ?_ ?_
          rotate_left
          ·
           intro w'
           go_simp
           with_reducible rfl
          rotate_left
          ·
           simp only [Act.put, zp1, zp2, zp3, i64_w, i32_w]
           rfl
          refine last_ (i := 7) (N := none) #[true, true, true, true, true, true, true, true] rfl rfl (one_of HT_.out (by kernel_rfl)) (by decide) (fun K hK => ?_)
          have hs52 : w49.cell? ⟨gb106, 1, none⟩ = some (u107001) := (zX BK106.out 1).trans rfl
          have hfs52 := zY BK106.out 1
          have hns52_0 := NB101_106.out
          have hns52_1 := NB102_106.out
          have hms52_0 := NB106_101.out
          have hms52_1 := NB106_102.out
          refine skip_ (w1 := ?_) (by rfl) rfl ?_ ?_
          rotate_left
          ·
           go_simp
           rfl
          refine hK.out _ _ ?_
          clear hK K
          refine done_ (done_of HT_.out (by kernel_rfl)) ?_
          try go_wp2
          go_roundg k2
          case measure => have := HK1.out; have := HK2.out; omega
          case rel => exact ⟨(wrap64 (x35_2 + 1)), (y119), (.slice Ao51 y119.length co51), zy, H', ⟨by have := HK1.out; have := HK2.out; omega⟩, ⟨by (with_reducible repeat (first | apply Kd.S_alloc | apply Kd.S_drewN | apply Kd.S_drew)); exact Kd.S_mono (Kd.S_far (p := ⟨gb106, 1, none⟩) (Kd.S_types HO_107000.out BK106.out (by decide)) (fun _ hk => hk.2) (.slice Ao51 y119.length co51)) (fun _ hk => trivial)⟩, ⟨by (with_reducible repeat (first | apply Kd.S_alloc | apply Kd.S_drewN | apply Kd.S_drew)); exact Kd.S_mono (Kd.S_far (p := ⟨gb106, 1, none⟩) (Kd.S_types HO121.out BK106.out (by decide)) (fun _ hk => hk.2) (.slice Ao51 y119.length co51)) (fun _ hk => trivial)⟩, ⟨by (with_reducible repeat (first | apply Kd.R_alloc | apply Kd.R_drewN | apply Kd.R_drew)); exact Kd.R_mono (Kd.R_far (p := ⟨gb106, 1, none⟩) (Kd.R_types HO_107003.out BK106.out (by decide)) (fun _ hk => hk.2) (.slice Ao51 y119.length co51)) (fun _ hk => trivial)⟩, ⟨by refine zk ?_; refine blk_far ?_ NB101_106.out _; refine zk ?_; exact BK101.out⟩, ⟨by refine zk ?_; refine blk_far ?_ NB102_106.out _; refine zk ?_; exact BK102.out⟩, ⟨by refine zk ?_; refine blk_put (cs := #[u107000, u107001, .int .i64 a0_2, .slice Ao10 t103.length co10]) ?_ 1 _ rfl; refine zk ?_; exact BK106.out⟩, ⟨zb⟩⟩
         ·
          rw [if_neg c46] at H
          exact absurd H (by simp)
        ·
         rw [if_neg c44] at H
         exact absurd H (by simp)
       ·
        rw [if_neg c43] at H
        exact absurd H (by simp)
      ·
       rw [if_neg c42] at H
       have c42b0 : decide (x35_2 < (l0_1.length : Int)) = false := zR c42
       clear c42
       simp only [Option.some.injEq, Prod.mk.injEq] at H
       obtain ⟨rfl, rfl, rfl, rfl⟩ := H
       have hnb53 := NB106_101.out
       have hnc53 := NB101_106.out
       have hnb54 := NB106_102.out
       have hnc54 := NB102_106.out
       have hcz55_0 : wr.cell? ⟨gb106, 0, none⟩ = some (u107000) := (zX BK106.out 0).trans rfl
       have hcz55_1 : wr.cell? ⟨gb106, 1, none⟩ = some (u107001) := (zX BK106.out 1).trans rfl
       have hcz55_2 : wr.cell? ⟨gb106, 2, none⟩ = some (.int .i64 a0_2) := (zX BK106.out 2).trans rfl
       have hcz55_3 : wr.cell? ⟨gb106, 3, none⟩ = some (.slice Ao10 t103.length co10) := (zX BK106.out 3).trans rfl
       have hfz55_0 := zY BK106.out 0
       have hfz55_1 := zY BK106.out 1
       have hfz55_2 := zY BK106.out 2
       have hfz55_3 := zY BK106.out 3
       obtain ⟨Ao56, co56, eo56⟩ := Kd.S_slice HO_107000.out
       subst eo56
       have hnb57 := NB102_101.out
       have hnc57 := NB101_102.out
       have hcz58_0 : wr.cell? ⟨gb102, 0, none⟩ = some (.slice none 0 0) := (zX BK102.out 0).trans rfl
       have hcz58_1 : wr.cell? ⟨gb102, 1, none⟩ = some (.slice none 0 0) := (zX BK102.out 1).trans rfl
       have hcz58_2 : wr.cell? ⟨gb102, 2, none⟩ = some (.int .i64 0) := (zX BK102.out 2).trans rfl
       have hcz58_3 : wr.cell? ⟨gb102, 3, none⟩ = some (.slice none 0 0) := (zX BK102.out 3).trans rfl
       have hfz58_0 := zY BK102.out 0
       have hfz58_1 := zY BK102.out 1
       have hfz58_2 := zY BK102.out 2
       have hfz58_3 := zY BK102.out 3
       obtain ⟨Ao59, co59, eo59⟩ := Kd.S_slice HO_107001.out
       subst eo59
       go_wp2
       refine bodyPost_ret (results_cell_row rfl _ _ gb102 28 #[.slice Ao56 x107000_1.length co56, .slice Ao59 x107001_2.length co59, .int .i64 a0_2, .slice Ao10 t103.length co10] (0, 0) _ rfl (by refine zk ?_; refine blk_put (cs := #[.slice Ao56 x107000_1.length co56, .slice Ao59 x107001_2.length co59, .int .i64 a0_2, .slice none 0 0]) ?_ 3 _ rfl; refine zk ?_; refine blk_put (cs := #[.slice Ao56 x107000_1.length co56, .slice Ao59 x107001_2.length co59, .int .i64 0, .slice none 0 0]) ?_ 2 _ rfl; refine zk ?_; refine blk_put (cs := #[.slice Ao56 x107000_1.length co56, .slice none 0 0, .int .i64 0, .slice none 0 0]) ?_ 1 _ rfl; refine zk ?_; refine blk_put (cs := #[.slice none 0 0, .slice none 0 0, .int .i64 0, .slice none 0 0]) ?_ 0 _ rfl; refine zk ?_; exact BK102.out) Try.underlying28 rfl (by kernel_rfl)) rfl ?_
       exact ⟨_, _, _, zw, by (with_reducible repeat (first | apply Kd.S_alloc | apply Kd.S_drewN | apply Kd.S_drew)); exact Kd.S_mono (Kd.S_far (p := ⟨gb102, 3, none⟩) (Kd.S_far (p := ⟨gb102, 2, none⟩) (Kd.S_far (p := ⟨gb102, 1, none⟩) (Kd.S_far (p := ⟨gb102, 0, none⟩) (Kd.S_types HO_107000.out BK102.out (by decide)) (fun _ hk => hk.2) (.slice Ao56 x107000_1.length co56)) (fun _ hk => hk.2) (.slice Ao59 x107001_2.length co59)) (fun _ hk => hk.2) (.int .i64 a0_2)) (fun _ hk => hk.2) (.slice Ao10 t103.length co10)) (fun _ hk => trivial), by (with_reducible repeat (first | apply Kd.S_alloc | apply Kd.S_drewN | apply Kd.S_drew)); exact Kd.S_mono (Kd.S_far (p := ⟨gb102, 3, none⟩) (Kd.S_far (p := ⟨gb102, 2, none⟩) (Kd.S_far (p := ⟨gb102, 1, none⟩) (Kd.S_far (p := ⟨gb102, 0, none⟩) (Kd.S_types HO_107001.out BK102.out (by decide)) (fun _ hk => hk.2) (.slice Ao56 x107000_1.length co56)) (fun _ hk => hk.2) (.slice Ao59 x107001_2.length co59)) (fun _ hk => hk.2) (.int .i64 a0_2)) (fun _ hk => hk.2) (.slice Ao10 t103.length co10)) (fun _ hk => trivial), by (with_reducible repeat (first | apply Kd.R_alloc | apply Kd.R_drewN | apply Kd.R_drew)); exact Kd.R_mono (Kd.R_far (p := ⟨gb102, 3, none⟩) (Kd.R_far (p := ⟨gb102, 2, none⟩) (Kd.R_far (p := ⟨gb102, 1, none⟩) (Kd.R_far (p := ⟨gb102, 0, none⟩) (Kd.R_types HO_107003.out BK102.out (by decide)) (fun _ hk => hk.2) (.slice Ao56 x107000_1.length co56)) (fun _ hk => hk.2) (.slice Ao59 x107001_2.length co59)) (fun _ hk => hk.2) (.int .i64 a0_2)) (fun _ hk => hk.2) (.slice Ao10 t103.length co10)) (fun _ hk => trivial), zb⟩


-- ==== PF19

def aumbrylaw07_few.f (l0 : List (S73)) (a1 : Int) : Option (Bool) := if (l0.length : Int) ≤ 64 then (some (decide (a1 ≤ 300))) else (some false)
theorem aumbrylaw07_few.calls (A0 : Option Addr) (c0 : Nat) (l0 : List (S73)) (a1 : Int) (r : Bool) (w : World) (hr0 : Kd.C k73 w A0 l0.length l0) (hc0 : l0.length ≤ c0) (h : aumbrylaw07_few.f l0 a1 = some r) :
 Calls Try.prog 19 #[.slice A0 l0.length c0, .int .i64 a1] w fun e w' => e = .returned (.bool r) ∧ Drawn0 w w' := by
 have HR0 := zM hr0
 have HC0 := zM hc0
 clear hr0 hc0
 have H : (if (l0.length : Int) ≤ 64 then (some (decide (a1 ≤ 300))) else (some false)) = some r := h
 clear h
 by_cases c3 : (l0.length : Int) ≤ 64
 ·
  rw [if_pos c3] at H
  have c3b0 : decide ((l0.length : Int) ≤ 64) = true := zQ c3
  have c3b1 : decide (l0.length ≤ 64) = true := zQ (by omega)
  clear c3
  obtain rfl := zS H
  go_enter Try.func19, Try.ntmps19
  go_wp2
  go_ret
  exact ⟨zy, zd⟩
 ·
  rw [if_neg c3] at H
  have c3b0 : decide ((l0.length : Int) ≤ 64) = false := zR c3
  have c3b1 : decide (l0.length ≤ 64) = false := zR (by omega)
  clear c3
  obtain rfl := zS H
  go_enter Try.func19, Try.ntmps19
  go_wp2
  go_ret
  exact ⟨zy, zd⟩


-- ==== PF76

def aumbryref06_Copy.f (a0_0 : Int) (l0_1 : List (S54)) (l0_2 : List (S54)) : Option (Int × (List (S54)) × (List (S54))) := (aumbryref04_Copy.f l0_1).bind fun t103 => ((aumbryref04_Copy.f l0_2).bind fun t106 => (some (a0_0, t103, t106)))
def aumbryref06_Copy.T1 : Bool × List (List Nat × List Nat) := (true, [([], []), ([0], [0]), ([], []), ([2], [2]), ([3], [3]), ([], []), ([5], [5]), ([6, 4], [6]), ([1, 4, 7], [1, 4, 7]), ([8, 7, 0, 1, 2, 3, 4, 5, 6, 7, 8], [8])])
def aumbryref06_Copy.B1 : List Nat := [0, 1, 0, 4, 12, 0, 32, 124, 255, 511]
theorem aumbryref06_Copy.tab1 : rtab .any (opsOf Try.f76 1) = aumbryref06_Copy.T1 := by kernel_rfl
theorem aumbryref06_Copy.bits1 : waitsOk aumbryref06_Copy.T1.2 aumbryref06_Copy.B1 = true := by kernel_rfl
theorem aumbryref06_Copy.calls (a0_0 : Int) (A0_1 : Option Addr) (c0_1 : Nat) (l0_1 : List (S54)) (A0_2 : Option Addr) (c0_2 : Nat) (l0_2 : List (S54)) (r1 : Int) (r2 : List (S54)) (r3 : List (S54)) (w : World) (hr0_1 : Kd.C k54 w A0_1 l0_1.length l0_1) (hc0_1 : l0_1.length ≤ c0_1) (hr0_2 : Kd.C k54 w A0_2 l0_2.length l0_2) (hc0_2 : l0_2.length ≤ c0_2) (h : aumbryref06_Copy.f a0_0 l0_1 l0_2 = some (r1, r2, r3)) :
 Calls Try.prog 76 #[.agg #[.int .i64 a0_0, .slice A0_1 l0_1.length c0_1, .slice A0_2 l0_2.length c0_2]] w fun e w' => ∃ v1_ v2_ : Value, e = .returned (.agg #[.int .i64 r1, v1_, v2_]) ∧ Kd.R k54 54 w' w.heap.size (fun k_ => some k_ ≠ (v2_ : Value).ownBlock) v1_ r2 ∧ Kd.R k54 54 w' w.heap.size (fun k_ => some k_ ≠ (v1_ : Value).ownBlock) v2_ r3 ∧ Below w.heap.size w w' := by
 have hu73 := Try.underlying73
 have HR0_1 := zM hr0_1
 have HC0_1 := zM hc0_1
 clear hr0_1 hc0_1
 have HR0_2 := zM hr0_2
 have HC0_2 := zM hc0_2
 clear hr0_2 hc0_2
 have HB := zM (Below.refl w.heap.size w)
 have H : ((aumbryref04_Copy.f l0_1).bind fun t103 => ((aumbryref04_Copy.f l0_2).bind fun t106 => (some (a0_0, t103, t106)))) = some (r1, r2, r3) := h
 clear h
 replace H := zB H
 obtain ⟨t103, A20, H⟩ := H
 try dsimp only at H
 have A2 := zM A20
 clear A20
 replace H := zB H
 obtain ⟨t106, A30, H⟩ := H
 try dsimp only at H
 have A3 := zM A30
 clear A30
 simp only [Option.some.injEq, Prod.mk.injEq] at H
 obtain ⟨rfl, rfl, rfl⟩ := H
 go_enter Try.func76, Try.ntmps76
 try go_wp2_with (first | ((with_reducible refine gate_dst (N := 1) rfl ?_); refine box_event ?hg (N := 1) ?hd (cs := #[.int .i64 a0_0, .slice A0_1 l0_1.length c0_1, .slice A0_2 l0_2.length c0_2]) (t := 73) ?hr ?_; (case hd => rfl); (case hg => rfl); (case hr => first | (go_simp; done) | (go_simp; rfl)); intro gb101 hg w4 hbox hb; have BK101 := zM (hbox); have GW101 := zM (zh hg : w.heap.size ≤ gb101); have GE101 := zM (zh hg : w.heap.size ≤ gb101); replace HB := zM (below_step zb hb); clear hb hbox hg) | ((with_reducible refine gate_dst (N := 2) rfl ?_); refine box_event ?hg (N := 2) ?hd (cs := #[.int .i64 0, .slice none 0 0, .slice none 0 0]) (t := 73) ?hr ?_; (case hd => rfl); (case hg => rfl); (case hr => first | (go_simp; done) | (go_simp; rfl)); intro gb102 hg w5 hbox hb; have BK102 := zM (hbox); have GW102 := zM (zh hg : w.heap.size ≤ gb102); have GE102 := zM (zh hg : w.heap.size ≤ gb102); replace HB := zM (below_step zb hb); have NB101_102 := zM ((by rw [hg]; exact Nat.ne_of_lt (blk_lt (zk BK101.out)) : gb101 ≠ gb102)); have NB102_101 := zM ((by rw [hg]; exact Nat.ne_of_gt (blk_lt (zk BK101.out)) : gb102 ≠ gb101)); replace BK101 := zM (blk_below (zk BK101.out) hb); clear hb hbox hg))
 have n0_ := zM (blk_drew BK101.out)
 have n1_ := zM (blk_drew BK102.out)
 have n2_ := zM (zD HB.out)
 clear BK101
 clear BK102
 clear HB
 have BK101 := n0_
 have BK102 := n1_
 have HB := n2_
 clear n0_ n1_ n2_
 refine start_ (n := 10) (S := fun w' => w'.cell? ⟨gb101, 0, none⟩ = some (.int .i64 a0_0) ∧ w'.cell? ⟨gb101, 1, none⟩ = some (.slice A0_1 l0_1.length c0_1) ∧ w'.cell? ⟨gb101, 2, none⟩ = some (.slice A0_2 l0_2.length c0_2)) (ds := []) #[false, false, false, false, false, false, false, false, false, false] (by kernel_rfl) rfl rfl ⟨(zX BK101.out 0).trans rfl, (zX BK101.out 1).trans rfl, (zX BK101.out 2).trans rfl⟩ (fun hHeld => ?_); refine with_tabW aumbryref06_Copy.tab1 aumbryref06_Copy.bits1 (fun HT_ HW_ => ?_)
 generalize w5.drew = w6 at BK101 BK102 HB hHeld ⊢
 refine pure_ (i := 0) (N := some 3) (v := ?_) (a' := ?_) #[true, false, false, false, false, false, false, false, false, false] rfl rfl (any_of HT_.out (by kernel_rfl)) (fun _ _ _ h => h) (Or.inl ⟨by rfl, ?_⟩) ?_ ?_
 rotate_left
 ·
  intro w'
  go_simp
  with_reducible rfl
 rotate_left
 ·
  simp only [Act.put, zp1, zp2, zp3, i64_w, i32_w]
  rfl
 refine pure_ (i := 2) (N := some 5) (v := ?_) (a' := ?_) #[true, false, true, false, false, false, false, false, false, false] rfl rfl (any_of HT_.out (by kernel_rfl)) (fun _ _ _ h => h) (Or.inl ⟨by rfl, ?_⟩) ?_ ?_
 rotate_left
 ·
  intro w'
  go_simp
  with_reducible rfl
 rotate_left
 ·
  simp only [Act.put, zp1, zp2, zp3, i64_w, i32_w]
  rfl
 refine pure_ (i := 5) (N := some 8) (v := ?_) (a' := ?_) #[true, false, true, false, false, true, false, false, false, false] rfl rfl (any_of HT_.out (by kernel_rfl)) (fun _ _ _ h => h) (Or.inl ⟨by rfl, ?_⟩) ?_ ?_
 rotate_left
 ·
  intro w'
  go_simp
  with_reducible rfl
 rotate_left
 ·
  simp only [Act.put, zp1, zp2, zp3, i64_w, i32_w]
  rfl
 refine take_ (i := 1) (N := some 4) (v := ?_) (a' := ?_) #[true, true, true, false, false, true, false, false, false, false] rfl rfl (take_ofW HT_.out HW_.out (by kernel_rfl)) (fun _ _ _ h => h) (Or.inl ⟨by rfl, ?_⟩) hHeld ?_ ?_
 rotate_left
 ·
  rintro w' ⟨s0, s1, s2⟩
  go_simp
  with_reducible rfl
 rotate_left
 ·
  simp only [Act.put, zp1, zp2, zp3, i64_w, i32_w]
  rfl
 refine take_ (i := 3) (N := some 6) (v := ?_) (a' := ?_) #[true, true, true, true, false, true, false, false, false, false] rfl rfl (take_ofW HT_.out HW_.out (by kernel_rfl)) (fun _ _ _ h => h) (Or.inl ⟨by rfl, ?_⟩) hHeld ?_ ?_
 rotate_left
 ·
  rintro w' ⟨s0, s1, s2⟩
  go_simp
  with_reducible rfl
 rotate_left
 ·
  simp only [Act.put, zp1, zp2, zp3, i64_w, i32_w]
  rfl
 refine take_ (i := 6) (N := some 9) (v := ?_) (a' := ?_) #[true, true, true, true, false, true, true, false, false, false] rfl rfl (take_ofW HT_.out HW_.out (by kernel_rfl)) (fun _ _ _ h => h) (Or.inl ⟨by rfl, ?_⟩) hHeld ?_ ?_
 rotate_left
 ·
  rintro w' ⟨s0, s1, s2⟩
  go_simp
  with_reducible rfl
 rotate_left
 ·
  simp only [Act.put, zp1, zp2, zp3, i64_w, i32_w]
  rfl
 refine one_ (i := 4) (N := some 7) #[true, true, true, true, true, true, true, false, false, false] rfl rfl (one_of HT_.out (by kernel_rfl)) (by decide) (fun K hK => ?_)
 refine goes_ Try.func13 (by kernel_rfl) rfl #[.slice A0_1 l0_1.length c0_1] (by rfl) rfl rfl zl ?_
 with_reducible refine (aumbryref04_Copy.calls _ _ l0_1 t103 _ ?side1 ?side2 A2.out).mono ?_
 (case side1 => exact Kd.C_below HR0_1.out zb)
 (case side2 => exact HC0_1.out)
 rintro e w7 ⟨v104, rfl, ho0, hb⟩
 refine ⟨_, rfl, ?_⟩
 have n0_ := zM (Kd.R_lower ho0 (below_size zb))
 have n1_ := zM (blk_below (zk BK101.out) hb)
 have n2_ := zM (blk_below (zk BK102.out) hb)
 have n3_ := zM (below_step zb hb)
 clear BK101
 clear BK102
 clear HB
 have HO105 := n0_
 have BK101 := n1_
 have BK102 := n2_
 have HB := n3_
 clear n0_ n1_ n2_ n3_
 (try clear hb)
 (try clear hb2)
 (try clear hk)
 (try clear hi)
 (try clear ho0)
 refine hK.out _ _ ⟨(zX BK101.out 0).trans rfl, (zX BK101.out 1).trans rfl, (zX BK101.out 2).trans rfl⟩ (fun hHeld => ?_)
 clear hK K
 refine norm_ (a' := ?_) ?_ ?_
 rotate_left
 ·
  show Act.put _ (some 7) _ = _
  simp only [Act.put, zp1, zp2, zp3, i64_w, i32_w]
  rfl
 refine one_ (i := 7) (N := some 10) #[true, true, true, true, true, true, true, true, false, false] rfl rfl (one_of HT_.out (by kernel_rfl)) (by decide) (fun K hK => ?_)
 refine goes_ Try.func13 (by kernel_rfl) rfl #[.slice A0_2 l0_2.length c0_2] (by rfl) rfl rfl zl ?_
 with_reducible refine (aumbryref04_Copy.calls _ _ l0_2 t106 _ ?side1 ?side2 A3.out).mono ?_
 (case side1 => exact Kd.C_below HR0_2.out zb)
 (case side2 => exact HC0_2.out)
 rintro e w8 ⟨v107, rfl, ho0, hb⟩
 refine ⟨_, rfl, ?_⟩
 have n0_ := zM (Kd.R_elder' (zr HO105.out) (Kd.R_base ho0) hb)
 have n1_ := zM (Kd.R_lower (Kd.R_new' ho0 (Kd.R_lt (zr HO105.out))) (below_size zb))
 have n2_ := zM (blk_below (zk BK101.out) hb)
 have n3_ := zM (blk_below (zk BK102.out) hb)
 have n4_ := zM (below_step zb hb)
 clear HO105
 clear BK101
 clear BK102
 clear HB
 have HO105 := n0_
 have HO108 := n1_
 have BK101 := n2_
 have BK102 := n3_
 have HB := n4_
 clear n0_ n1_ n2_ n3_ n4_
 (try clear hb)
 (try clear hb2)
 (try clear hk)
 (try clear hi)
 (try clear ho0)
 obtain ⟨Ao9, co9, eo9⟩ := Kd.R_slice HO108.out
 (first | subst eo9 | (injection eo9 with f1_ f2_ f3_; have f4_ := f1_.symm; have f5_ := f3_.symm; clear f1_ f2_ f3_; subst f4_; subst f5_))
 obtain ⟨Ao10, co10, eo10⟩ := Kd.R_slice HO105.out
 (first | subst eo10 | (injection eo10 with f1_ f2_ f3_; have f4_ := f1_.symm; have f5_ := f3_.symm; clear f1_ f2_ f3_; subst f4_; subst f5_))
 refine hK.out _ _ ⟨(zX BK101.out 0).trans rfl, (zX BK101.out 1).trans rfl, (zX BK101.out 2).trans rfl⟩ (fun hHeld => ?_)
 clear hK K
 refine norm_ (a' := ?_) ?_ ?_
 rotate_left
 ·
  show Act.put _ (some 10) _ = _
  simp only [Act.put, zp1, zp2, zp3, i64_w, i32_w]
  rfl
 refine pure_ (i := 8) (N := some 11) (v := ?_) (a' := ?_) #[true, true, true, true, true, true, true, true, true, false] rfl rfl (any_of HT_.out (by kernel_rfl)) (fun _ _ _ h => h) (Or.inl ⟨by rfl, ?_⟩) ?_ ?_
 rotate_left
 ·
  intro w'
  go_simp
  with_reducible rfl
 rotate_left
 ·
  simp only [Act.put, zp1, zp2, zp3, i64_w, i32_w]
  rfl
 refine one_ (i := 9) (N := none) #[true, true, true, true, true, true, true, true, true, true] rfl rfl (one_of HT_.out (by kernel_rfl)) (by decide) (fun K hK => ?_)
 have hs11 : w8.cell? ⟨gb102, 0, none⟩ = some (.int .i64 0) := (zX BK102.out 0).trans rfl
 have hfs11 := zY BK102.out 0
 have hns11_0 := NB101_102.out
 have hms11_0 := NB102_101.out
 have hs12 : w8.cell? ⟨gb102, 1, none⟩ = some (.slice none 0 0) := (zX BK102.out 1).trans rfl
 have hfs12 := zY BK102.out 1
 have hns12_0 := NB101_102.out
 have hms12_0 := NB102_101.out
 have hs13 : w8.cell? ⟨gb102, 2, none⟩ = some (.slice none 0 0) := (zX BK102.out 2).trans rfl
 have hfs13 := zY BK102.out 2
 have hns13_0 := NB101_102.out
 have hms13_0 := NB102_101.out
 refine skip_ (w1 := ?_) (by rfl) rfl ?_ ?_
 rotate_left
 ·
  go_simp
  rfl
 refine hK.out _ _ ⟨((cell_far (p := ⟨gb102, _, none⟩) NB101_102.out _).trans (((cell_far (p := ⟨gb102, _, none⟩) NB101_102.out _).trans (((cell_far (p := ⟨gb102, _, none⟩) NB101_102.out _).trans (hHeld.1)))))), ((cell_far (p := ⟨gb102, _, none⟩) NB101_102.out _).trans (((cell_far (p := ⟨gb102, _, none⟩) NB101_102.out _).trans (((cell_far (p := ⟨gb102, _, none⟩) NB101_102.out _).trans (hHeld.2.1)))))), ((cell_far (p := ⟨gb102, _, none⟩) NB101_102.out _).trans (((cell_far (p := ⟨gb102, _, none⟩) NB101_102.out _).trans (((cell_far (p := ⟨gb102, _, none⟩) NB101_102.out _).trans (hHeld.2.2))))))⟩ (fun hHeld => ?_)
 clear hK K
 refine done_ (done_of HT_.out (by kernel_rfl)) ?_
 try go_wp2
 refine bodyPost_ret (results_cell_row rfl _ _ gb102 73 #[.int .i64 a0_0, .slice Ao10 t103.length co10, .slice Ao9 t106.length co9] (0, 0) _ rfl (by refine zk ?_; refine blk_put (cs := #[.int .i64 a0_0, .slice Ao10 t103.length co10, .slice none 0 0]) ?_ 2 _ rfl; refine zk ?_; refine blk_put (cs := #[.int .i64 a0_0, .slice none 0 0, .slice none 0 0]) ?_ 1 _ rfl; refine zk ?_; refine blk_put (cs := #[.int .i64 0, .slice none 0 0, .slice none 0 0]) ?_ 0 _ rfl; refine zk ?_; exact BK102.out) Try.underlying73 rfl (by kernel_rfl)) rfl ?_
 exact ⟨_, _, zw, by (with_reducible repeat (first | apply Kd.R_alloc | apply Kd.R_drewN | apply Kd.R_drew)); exact Kd.R_mono (Kd.R_far (p := ⟨gb102, 2, none⟩) (Kd.R_far (p := ⟨gb102, 1, none⟩) (Kd.R_far (p := ⟨gb102, 0, none⟩) (Kd.R_types HO105.out BK102.out (by decide)) (fun _ hk => hk.2) (.int .i64 a0_0)) (fun _ hk => hk.2) (.slice Ao10 t103.length co10)) (fun _ hk => hk.2) (.slice Ao9 t106.length co9)) (fun _ hk => hk.1.2), by (with_reducible repeat (first | apply Kd.R_alloc | apply Kd.R_drewN | apply Kd.R_drew)); exact Kd.R_mono (Kd.R_far (p := ⟨gb102, 2, none⟩) (Kd.R_far (p := ⟨gb102, 1, none⟩) (Kd.R_far (p := ⟨gb102, 0, none⟩) (Kd.R_types HO108.out BK102.out (by decide)) (fun _ hk => hk.2) (.int .i64 a0_0)) (fun _ hk => hk.2) (.slice Ao10 t103.length co10)) (fun _ hk => hk.2) (.slice Ao9 t106.length co9)) (fun _ hk => hk.1.2), zb⟩


-- ==== PF50

def aumbryref06_CopyAll.l0 : Nat → List (S73) → List (S73) → Int → Int → Option ((List (S73)))
 | 0, _, _, _, _ => none
 | k + 1, x0, x3, x6, x7 => if x7 < x6 then (if 0 ≤ x7 then (if x7 < (x0.length : Int) then ((aumbryref06_Copy.f ((rd_T73 x0 x7).f0) ((rd_T73 x0 x7).f1) ((rd_T73 x0 x7).f2)).bind fun bt102 => (if x3.length < 2513169434916 then (aumbryref06_CopyAll.l0 k x0 (x3 ++ [(⟨bt102.1, bt102.2.1, bt102.2.2⟩ : S73)]) x6 (wrap64 (x7 + 1))) else (none))) else (none)) else (none)) else (some x3)
def aumbryref06_CopyAll.f (k : Nat) (l0 : List (S73)) : Option ((List (S73))) := aumbryref06_CopyAll.l0 k l0 ([] : List (S73)) (l0.length : Int) 0
theorem aumbryref06_CopyAll.calls (k : Nat) (A0 : Option Addr) (c0 : Nat) (l0 : List (S73)) (r : List (S73)) (w : World) (hr0 : Kd.C k73 w A0 l0.length l0) (hc0 : l0.length ≤ c0) (h : aumbryref06_CopyAll.f k l0 = some r) :
 Calls Try.prog 50 #[.slice A0 l0.length c0] w fun e w' => ∃ v0_ : Value, e = .returned (v0_) ∧ Kd.S k73 73 w' w.heap.size (fun _ => True) v0_ r ∧ Below w.heap.size w w' := by
 have hu73 := Try.underlying73
 have HR0 := zM hr0
 have HC0 := zM hc0
 clear hr0 hc0
 have HB := zM (Below.refl w.heap.size w)
 have H : (aumbryref06_CopyAll.l0 k l0 ([] : List (S73)) (l0.length : Int) 0) = some r := h
 clear h
 have H' := zM H
 clear H
 go_enter Try.func50, Try.ntmps50
 go_wp2
 go_loopg [3, 7] k (fun kq v3 v7 w' => ∃ (x3_1 : List (S73)) (x7_1 : Int), v7 = .int .i64 x7_1 ∧ Aside0 (aumbryref06_CopyAll.l0 kq l0 x3_1 (l0.length : Int) x7_1 = some r) ∧ Aside0 (kq ≤ k) ∧ Aside0 (Kd.S k73 73 w' w.heap.size (fun _ => True) v3 x3_1) ∧ Aside0 (Below w.heap.size w w'))
 case atStart => exact ⟨(([] : List (S73))), (0), zy, H', ⟨Nat.le_refl _⟩, ⟨by first | exact Kd.S_nil _ _ _ _ _ | exact Kd.N_nil _ _ _ _ _ | exact Kd.V_nil _ _ _ _ _ | exact Kd.Q_nil _ _ _ _ _ | exact Kd.R_nil _ _ _ _ _⟩, ⟨zb⟩⟩
 case round =>
  clear H'
  obtain ⟨x3_1, x7_1, rfl, HA, HK1, HO_3, HB⟩ := hrel
  cases gk with
  | zero => exact absurd HA.out (by simp [aumbryref06_CopyAll.l0])
  | succ k1 =>
   have H := HA.out
   clear HA
   simp only [aumbryref06_CopyAll.l0] at H
   by_cases c2 : x7_1 < (l0.length : Int)
   ·
    rw [if_pos c2] at H
    have c2b0 : decide (x7_1 < (l0.length : Int)) = true := zQ c2
    clear c2
    by_cases c3 : 0 ≤ x7_1
    ·
     rw [if_pos c3] at H
     have c3b0 : decide (0 ≤ x7_1) = true := zQ c3
     clear c3
     by_cases c4 : x7_1 < (l0.length : Int)
     ·
      rw [if_pos c4] at H
      have c4b0 : decide (x7_1 < (l0.length : Int)) = true := zQ c4
      clear c4
      replace H := zB H
      obtain ⟨⟨t102, t103, t106⟩, A50, H⟩ := H
      try dsimp only at H
      have A5 := zM A50
      clear A50
      by_cases c6 : x3_1.length < 2513169434916
      ·
       rw [if_pos c6] at H
       have LMc6 := zM c6
       clear c6
       obtain ⟨y109, hy109⟩ : ∃ y_ : List (S73), y_ = (x3_1 ++ [(⟨t102, t103, t106⟩ : S73)]) := ⟨_, rfl⟩
       replace H : (aumbryref06_CopyAll.l0 k1 l0 y109 (l0.length : Int) (wrap64 (x7_1 + 1))) = some r := by first | (rw [hy109]; with_reducible exact H) | (have H2_ := (Option.bind_some _ _).symm.trans H; rw [hy109]; with_reducible exact H2_) | (have H2_ := (Option.bind_some _ _).symm.trans H; with_reducible exact H2_) | with_reducible exact H | (rw [hy109]; exact H) | exact H
       have Ny109 := zM hy109
       clear hy109
       have H' := zM H
       clear H
       have p101 : 0 ≤ (x7_1 : Int) := zT zv
       have q101 : x7_1 < (l0.length : Int) := zT zv
       obtain ⟨ad101, A101_1, c101_1, A101_2, c101_2, e101, hx101_0, hx101_1, hx101_2, hl101_1, hi101_1, hl101_2, hi101_2⟩ := at_T73 HR0.out x7_1 p101 q101
       cases e101
       replace hx101_0 := (HB.out.cell (World.block_lt_of_cell? w _ hx101_0)).trans hx101_0
       replace hx101_1 := (HB.out.cell (World.block_lt_of_cell? w _ hx101_1)).trans hx101_1
       replace hx101_2 := (HB.out.cell (World.block_lt_of_cell? w _ hx101_2)).trans hx101_2
       have HR101_1 := zM hi101_1
       have HC101_1 := zM hl101_1
       clear hi101_1 hl101_1
       have HR101_2 := zM hi101_2
       have HC101_2 := zM hl101_2
       clear hi101_2 hl101_2
       replace p101 := eq_true p101
       replace q101 := eq_true q101
       go_wp2_with (first | ((with_reducible refine gate_callee (f := 76) rfl ?_); refine goesL_ (some 15) rfl rfl Try.func76 (by kernel_rfl) rfl #[.agg #[.int .i64 ((rd_T73 l0 x7_1).f0), .slice A101_1 ((rd_T73 l0 x7_1).f1).length c101_1, .slice A101_2 ((rd_T73 l0 x7_1).f2).length c101_2]] rfl zl ?_; (with_reducible refine (aumbryref06_Copy.calls ((rd_T73 l0 x7_1).f0) _ _ ((rd_T73 l0 x7_1).f1) _ _ ((rd_T73 l0 x7_1).f2) t102 t103 t106 _ ?side1 ?side2 ?side3 ?side4 A5.out).mono ?_); (case side1 => exact Kd.C_below HR101_1.out zb); (case side2 => exact HC101_1.out); (case side3 => exact Kd.C_below HR101_2.out zb); (case side4 => exact HC101_2.out); rintro e w7 ⟨v104, v107, rfl, ho0, ho1, hb⟩; refine ⟨_, rfl, ?_⟩; replace HO_3 := zM (Kd.S_mono (Kd.S_told (Kd.S_told (Kd.S_old (Kd.S_below HO_3.out zg) hb) (Kd.R_base ho0)) (Kd.R_base ho1)) (fun _ h_ => h_.1)); have HO105 := zM (Kd.R_lower ho0 (below_size zb)); have HO108 := zM (Kd.R_lower ho1 (below_size zb)); replace HB := zM (below_step zb hb); (try clear hb); (try clear ho0); (try clear ho1); obtain ⟨Ao9, co9, eo9⟩ := Kd.R_slice HO105.out; subst eo9; obtain ⟨Ao10, co10, eo10⟩ := Kd.R_slice HO108.out; subst eo10) | ((with_reducible refine gate_builtin (b := .append) (xs := #[.tmp 10, .tmp 16]) rfl ?_); at_builtin; refine Kd.S_append k73 (w0 := w) w.heap.size rfl (.tmp 10) (.tmp 16) 41 73 (.agg #[(.int .i64 0), (.slice none 0 0), (.slice none 0 0)]) 56 rfl Try.underlying41 info73 rfl (by decide) (by omega) u3 x3_1 (⟨t102, t103, t106⟩ : S73) [.int .i64 t102, .slice Ao9 t103.length co9, .slice Ao10 t106.length co10] (fun _ => True) (fun k_ => some k_ = (.slice Ao9 t103.length co9 : Value).ownBlock ∨ some k_ = (.slice Ao10 t106.length co10 : Value).ownBlock) rfl rfl ?aP (fun k_ hk_ => hk_.elim (fun h_ => ((Kd.R_mono (ok' := fun k_ => ((fun _ => True)) k_ ∧ some k_ ≠ (u3 : Value).ownBlock) (Kd.R_apart' (HO105.out) (Kd.S_typed HO_3.out) (by decide)) (fun k_ hk => ⟨trivial, hk.2⟩))).1 k_ h_.symm) (fun h_ => ((Kd.R_mono (ok' := fun k_ => ((fun _ => True)) k_ ∧ some k_ ≠ (u3 : Value).ownBlock) (Kd.R_apart' (HO108.out) (Kd.S_typed HO_3.out) (by decide)) (fun k_ hk => ⟨trivial, hk.2⟩))).1 k_ h_.symm)) ?aF ?aO ?aB ?aS ?aL ?_; (case aP => exact k73_mkM _ _ _ (⟨t102, t103, t106⟩ : S73) (Kd.R_mono (Kd.R_tight rfl (Kd.R_mono (ok' := fun k_ => ((fun _ => True)) k_ ∧ some k_ ≠ (u3 : Value).ownBlock) (Kd.R_apart' (HO105.out) (Kd.S_typed HO_3.out) (by decide)) (fun k_ hk => ⟨trivial, hk.2⟩))) (fun _ h_ => Or.inl h_)) (Kd.R_mono (Kd.R_tight rfl (Kd.R_mono (ok' := fun k_ => ((fun _ => True)) k_ ∧ some k_ ≠ (u3 : Value).ownBlock) (Kd.R_apart' (HO108.out) (Kd.S_typed HO_3.out) (by decide)) (fun k_ hk => ⟨trivial, hk.2⟩))) (fun _ h_ => Or.inr (h_)))); (case aB => exact zb); (case aF => exact (fun _ _ => trivial)); (case aO => exact (by (with_reducible repeat (first | apply Kd.S_alloc | apply Kd.S_drewN | apply Kd.S_drew)); exact Kd.S_mono HO_3.out (fun k_ hk => ⟨trivial, fun e_ => e_.elim (fun h_ => hk.1.2 h_) (fun h_ => hk.2 h_)⟩))); (case aS => exact (below_size zb)); (case aL => have := LMc6.out; omega); intro v110 w8 ho hb hg hat; rw [← Ny109.out] at ho; replace HB := zM (hb); have HO111 := zM (ho); clear HO105 HO108 HO_3; clear ho hb hg hat))
       go_roundg k1
       case measure => have := HK1.out; omega
       case rel => exact ⟨(y109), (wrap64 (x7_1 + 1)), zy, H', ⟨by have := HK1.out; omega⟩, ⟨Kd.S_below HO111.out zg⟩, ⟨zb⟩⟩
      ·
       rw [if_neg c6] at H
       exact absurd H (by simp)
     ·
      rw [if_neg c4] at H
      exact absurd H (by simp)
    ·
     rw [if_neg c3] at H
     exact absurd H (by simp)
   ·
    rw [if_neg c2] at H
    have c2b0 : decide (x7_1 < (l0.length : Int)) = false := zR c2
    clear c2
    obtain rfl := zS H
    go_wp2
    go_ret
    exact ⟨_, zw, Kd.S_below HO_3.out zg, zb⟩


-- ==== PF21

def aumbrylaw07_rules.f (k : Nat) (l0 : List (S73)) : Option ((List (S73))) := (aumbryref06_CopyAll.f k l0).bind fun t101 => (some t101)
theorem aumbrylaw07_rules.calls (k : Nat) (A0 : Option Addr) (c0 : Nat) (l0 : List (S73)) (r : List (S73)) (w : World) (hr0 : Kd.C k73 w A0 l0.length l0) (hc0 : l0.length ≤ c0) (h : aumbrylaw07_rules.f k l0 = some r) :
 Calls Try.prog 21 #[.slice A0 l0.length c0] w fun e w' => ∃ v0_ : Value, e = .returned (v0_) ∧ Kd.S k73 73 w' w.heap.size (fun _ => True) v0_ r ∧ Below w.heap.size w w' := by
 have HR0 := zM hr0
 have HC0 := zM hc0
 clear hr0 hc0
 have HB := zM (Below.refl w.heap.size w)
 have H : ((aumbryref06_CopyAll.f k l0).bind fun t101 => (some t101)) = some r := h
 clear h
 replace H := zB H
 obtain ⟨t101, A20, H⟩ := H
 try dsimp only at H
 have A2 := zM A20
 clear A20
 obtain rfl := zS H
 go_enter Try.func21, Try.ntmps21
 go_wp2_with (first | ((with_reducible refine gate_callee (f := 50) rfl ?_); refine goesL_ (some 4) rfl rfl Try.func50 (by kernel_rfl) rfl #[.slice A0 l0.length c0] rfl zl ?_; (with_reducible refine (aumbryref06_CopyAll.calls k _ _ l0 t101 _ ?side1 ?side2 A2.out).mono ?_); (case side1 => exact Kd.C_below HR0.out zg); (case side2 => exact HC0.out); rintro e w3 ⟨v102, rfl, ho0, hb⟩; refine ⟨_, rfl, ?_⟩; have HO103 := zM (Kd.S_lower ho0 (below_size zb)); replace HB := zM (below_step zb hb); (try clear hb); (try clear ho0)))
 go_ret
 exact ⟨_, zw, Kd.S_below HO103.out zg, zb⟩


-- ==== PF35

def aumbryref07_Turned.l0 : Nat → List (S70) → List (S70) → Int → Option ((List (S70)))
 | 0, _, _, _ => none
 | k + 1, x0, x3, x4 => if x4 ≥ 0 then (if 0 ≤ x4 then (if x4 < (x0.length : Int) then (if x3.length < 2513169434916 then (aumbryref07_Turned.l0 k x0 (x3 ++ [(⟨(rd_T70 x0 x4).f0, (⟨(rd_T70 x0 x4).f1.f0, (rd_T70 x0 x4).f1.f1⟩ : S54), (rd_T70 x0 x4).f2⟩ : S70)]) (wrap64 (x4 - 1))) else (none)) else (none)) else (none)) else (some x3)
def aumbryref07_Turned.f (k : Nat) (l0 : List (S70)) : Option ((List (S70))) := aumbryref07_Turned.l0 k l0 ([] : List (S70)) (wrap64 ((l0.length : Int) - 1))

-- ==== PF14

def aumbryref07_Start.f (k : Nat) (l0 : List (S54)) : Option ((List (S70)) × (List (List (S54))) × Int × List ByteArray × Int) := (aumbryref04_Check.f k l0).bind fun t102 => (if t102 = 0 then ((aumbryref07_Ground.f k l0).bind fun t103 => (if t103 = true then ((aumbryref07_Todo.f k l0 ([] : List (S104))).bind fun t104 => ((aumbryref07_Turned.f k t104).bind fun t107 => (some (t107, ([] : List (List (S54))), 0, ([] : List ByteArray), 0)))) else (some (([] : List (S70)), ([] : List (List (S54))), 0, ([] : List ByteArray), 7)))) else (some (([] : List (S70)), ([] : List (List (S54))), 0, ([] : List ByteArray), t102)))

-- ==== PF58

def aumbryref05_Put.l0 : Nat → List (S54) → List (S104) → List (S54) → Int → Int → Option ((List (S54)))
 | 0, _, _, _, _, _ => none
 | k + 1, x0, x1, x5, x8, x9 => if x9 < x8 then (if 0 ≤ x9 then (if x9 < (x0.length : Int) then ((aumbryref03_Kind.f k ((rd_T54 x0 x9).f0)).bind fun t102 => (if t102 = 2 then ((aumbryref05_At.f k x1 ((rd_T54 x0 x9).f0)).bind fun t104 => (if 0 ≤ t104 then (if t104 < (x1.length : Int) then (if x5.length + ((rd_T104 x1 t104).f1).length < 5864062014805 then (aumbryref05_Put.l0 k x0 x1 (x5 ++ ((rd_T104 x1 t104).f1)) x8 (wrap64 (x9 + 1))) else (none)) else (none)) else (none))) else (if x5.length < 5864062014805 then (aumbryref05_Put.l0 k x0 x1 (x5 ++ [(⟨(rd_T54 x0 x9).f0, (rd_T54 x0 x9).f1⟩ : S54)]) x8 (wrap64 (x9 + 1))) else (none)))) else (none)) else (none)) else (some x5)
def aumbryref05_Put.f (k : Nat) (l0 : List (S54)) (l1 : List (S104)) : Option ((List (S54))) := aumbryref05_Put.l0 k l0 l1 ([] : List (S54)) (l0.length : Int) 0

-- ==== PF26

mutual
def aumbryref07_Inner.l0 : Nat → List (S73) → List (S54) → Int → Option ((List (S54)) × Int × Int)
 | 0, _, _, _ => none
 | k + 1, x0, x1, x2 => (aumbryref04_Kids.f k x1).bind fun t101 => (if 0 < (x1.length : Int) then (aumbryref07_Inner.l1 k x0 x2 t101 (([(⟨(rd_T54 x1 0).f0, (rd_T54 x1 0).f1⟩ : S54)] : List (S54))) (t101.length : Int) 0) else (none))
def aumbryref07_Inner.l1 : Nat → List (S73) → Int → List (List (S54)) → List (S54) → Int → Int → Option ((List (S54)) × Int × Int)
 | 0, _, _, _, _, _, _ => none
 | k + 1, x0, x2, x9, x10, x25, x26 => if x26 < x25 then (if 0 ≤ x26 then (if x26 < (x9.length : Int) then ((aumbryref07_Inner.f k x0 (rd_L3 x9 x26) x2).bind fun bt109 => (if bt109.2.2 = 0 then (if x10.length + bt109.1.length < 5864062014805 then (aumbryref07_Inner.l1 k x0 bt109.2.1 x9 (x10 ++ bt109.1) x25 (wrap64 (x26 + 1))) else (none)) else (some (([] : List (S54)), 0, bt109.2.2)))) else (none)) else (none)) else (if (x10.length : Int) > 64 then (some (([] : List (S54)), 0, 6)) else ((aumbryref07_First.f k x0 x10).bind fun bt117 => (if bt117.1 < 0 then (some (x10, x2, 0)) else (if x2 ≤ 0 then (some (([] : List (S54)), 0, 14)) else (if 0 ≤ bt117.1 then (if bt117.1 < (x0.length : Int) then ((aumbryref05_Var.f k ((rd_T73 x0 bt117.1).f2)).bind fun t122 => (if t122 = true then (if 0 < (((rd_T73 x0 bt117.1).f2).length : Int) then ((aumbryref05_At.f k bt117.2 ((rd_T54 ((rd_T73 x0 bt117.1).f2) 0).f0)).bind fun t124 => (if 0 ≤ t124 then (if t124 < (bt117.2.length : Int) then ((aumbryref04_Copy.f ((rd_T104 bt117.2 t124).f1)).bind fun t126 => (some (t126, wrap64 (x2 - 1), 0))) else (none)) else (none))) else (none)) else ((aumbryref05_Put.f k ((rd_T73 x0 bt117.1).f2) bt117.2).bind fun t129 => (if (t129.length : Int) > 4000 then (some (([] : List (S54)), 0, 6)) else (aumbryref07_Inner.l0 k x0 t129 (wrap64 (x2 - 1))))))) else (none)) else (none))))))
def aumbryref07_Inner.f : Nat → List (S73) → List (S54) → Int → Option ((List (S54)) × Int × Int)
 | 0, _, _, _ => none
 | k + 1, l0, l1, a2 => aumbryref07_Inner.l0 k l0 l1 a2
end

-- ==== PF17

def aumbryref07_Copy.l0 : Nat → Int → Int → List (S70) → List (List (S54)) → Int → List ByteArray → List (S70) → List (List (S54)) → Int → Option ((List (S70)) × (List (List (S54))) × Int × List ByteArray)
 | 0, _, _, _, _, _, _, _, _, _ => none
 | k + 1, x14, x15, x102000, x102001, x102002, x102003, x107000, x107001, x107002 => if x15 < x14 then (if 0 ≤ x15 then (if x15 < (x102000.length : Int) then ((aumbryref04_Copy.f ((rd_T70 x102000 x15).f2)).bind fun t109 => (if x107000.length < 2513169434916 then (aumbryref07_Copy.l0 k x14 (wrap64 (x15 + 1)) x102000 x102001 x102002 x102003 (x107000 ++ [(⟨(rd_T70 x102000 x15).f0, (⟨(rd_T70 x102000 x15).f1.f0, (rd_T70 x102000 x15).f1.f1⟩ : S54), t109⟩ : S70)]) x107001 x107002) else (none))) else (none)) else (none)) else (if ([] : List ByteArray).length + x102003.length < 8796093022208 then (some (x107000, x107001, x107002, (([] : List ByteArray) ++ x102003))) else (none))
def aumbryref07_Copy.f (k : Nat) (l0_0 : List (S70)) (l0_1 : List (List (S54))) (a0_2 : Int) (l0_3 : List ByteArray) : Option ((List (S70)) × (List (List (S54))) × Int × List ByteArray) := (aumbryref04_CopyAll.f k l0_1).bind fun t103 => (aumbryref07_Copy.l0 k (l0_0.length : Int) 0 l0_0 l0_1 a0_2 l0_3 ([] : List (S70)) t103 a0_2)
def aumbryref07_Copy.T1 : Bool × List (List Nat × List Nat) := (true, [([], []), ([0], [0]), ([1], [1]), ([], []), ([3], [3]), ([2, 4], [2, 4]), ([], []), ([6, 5, 2, 0, 1, 2, 3, 4, 5, 6], [5, 6])])
def aumbryref07_Copy.B1 : List Nat := [0, 1, 3, 0, 8, 31, 0, 127]

-- ==== PF15

attribute [local go_sem high] eqA54
mutual
def aumbryref07_Same.j0 : Nat → Bool → List (S70) → List (List (S54)) → Int → List ByteArray → List (S70) → List (List (S54)) → Int → List ByteArray → Option (Bool)
 | 0, _, _, _, _, _, _, _, _, _ => none
 | k + 1, x35, x102000, x102001, x102002, x102003, x103000, x103001, x103002, x103003 => if x35 = true then (some false) else (aumbryref07_Same.l0 k (x102000.length : Int) 0 x102000 x102001 x102002 x102003 x103000 x103001 x103002 x103003)
def aumbryref07_Same.l0 : Nat → Int → Int → List (S70) → List (List (S54)) → Int → List ByteArray → List (S70) → List (List (S54)) → Int → List ByteArray → Option (Bool)
 | 0, _, _, _, _, _, _, _, _, _, _ => none
 | k + 1, x38, x39, x102000, x102001, x102002, x102003, x103000, x103001, x103002, x103003 => if x39 < x38 then (if 0 ≤ x39 then (if x39 < (x102000.length : Int) then (if x39 < (x103000.length : Int) then (if ((rd_T70 x102000 x39).f0) = ((rd_T70 x103000 x39).f0) then (if (!((((rd_T70 x102000 x39).f1.f0).toList) == (((rd_T70 x103000 x39).f1.f0).toList)) || (!(((rd_T70 x102000 x39).f1.f1) == ((rd_T70 x103000 x39).f1.f1)))) = true then (some false) else ((aumbryref04_Same.f k ((rd_T70 x102000 x39).f2) ((rd_T70 x103000 x39).f2)).bind fun t111 => (if t111 = true then (aumbryref07_Same.l0 k x38 (wrap64 (x39 + 1)) x102000 x102001 x102002 x102003 x103000 x103001 x103002 x103003) else (some false)))) else (some false)) else (none)) else (none)) else (none)) else (some true)
end
def aumbryref07_Same.f (k : Nat) (l0_0 : List (S70)) (l0_1 : List (List (S54))) (a0_2 : Int) (l0_3 : List ByteArray) (l1_0 : List (S70)) (l1_1 : List (List (S54))) (a1_2 : Int) (l1_3 : List ByteArray) : Option (Bool) := if (l0_0.length : Int) = (l1_0.length : Int) then (if a0_2 = a1_2 then ((aumbryref03_Same.f k l0_3 l1_3).bind fun t103 => (if t103 = true then ((aumbryref04_SameAll.f k l0_1 l1_1).bind fun t104 => (aumbryref07_Same.j0 k (!t104) l0_0 l0_1 a0_2 l0_3 l1_0 l1_1 a1_2 l1_3)) else (aumbryref07_Same.j0 k true l0_0 l0_1 a0_2 l0_3 l1_0 l1_1 a1_2 l1_3))) else (aumbryref07_Same.j0 k true l0_0 l0_1 a0_2 l0_3 l1_0 l1_1 a1_2 l1_3)) else (aumbryref07_Same.j0 k true l0_0 l0_1 a0_2 l0_3 l1_0 l1_1 a1_2 l1_3)
end Go.Proofs.Ytdlkhpfgkghhmaa.P

-- ==== Rw1
namespace Go.Proofs.Ytdlkhpfgkghhmaa.P
open Go.RowKit Go.Proofs.YtdlkhpfgkghhmaaW.PrintWords Go.Proofs.YtdlkhpfgkghhmaaW.PrintLast Go.Proofs.YtdlkhpfgkghhmaaW.PrintMore

def IsMc (B : Nat) (W : World) (g : Nat) (rv tv : Value) (ops : List S70) (vals : List (List S54)) (st : Int) (hd : List ByteArray) (fu : Int) : Prop :=
 ∃ vo vv vh, W.heap[g]? = some (.cells #[vo, vv, .int .i64 st, vh, rv, tv, .int .i64 fu] 94 (0, 0)) ∧ B ≤ g ∧ Kd.R k70 70 W B (fun _ => True) vo ops ∧ Kd.R (Kd.slice 54 k54) 23 W B (fun _ => True) vv vals ∧ Kd.R Kd.string 9 W B (fun _ => True) vh hd

theorem fin_calls {B g : Nat} {w : World} {rv tv : Value} {ops : List S70} {o : S70} {vals args : List (List S54)} {st fu : Int} {hd : List ByteArray} {A : Option Addr} {c : Nat} {t : List S54}
 (h : IsMc B w g rv tv (ops ++ [o]) (vals ++ args) st hd fu) (ht : Kd.R k54 54 w B (fun _ => True) (.slice A t.length c) t) (hl : (vals.length + 1) * 24 ≤ 140737488355328) :
 Calls Try.prog 48 #[.pointer (some ⟨g, 0, none⟩), .int .i64 (args.length : Int), .slice A t.length c] w fun e w' => e = .returned (.tuple #[]) ∧ IsMc B w' g rv tv ops (vals ++ [t]) st hd fu ∧ Below B w w' := by
 obtain ⟨vo, vv, vh, hb, hg, hO, hV, hH⟩ := h
 obtain ⟨Ao, co, rfl⟩ := Kd.R_slice hO
 obtain ⟨Av, cv, rfl⟩ := Kd.R_slice hV
 obtain ⟨_, hco, hCo⟩ := Kd.R_reads' hO
 obtain ⟨_, hcv, hCv⟩ := Kd.R_reads' hV
 obtain ⟨N, hN⟩ : ∃ N, N = (ops ++ [o]).length := ⟨_, rfl⟩
 obtain ⟨M, hM⟩ : ∃ M, M = (vals ++ args).length := ⟨_, rfl⟩
 rw [← hN] at hb hco hCo hO
 rw [← hM] at hb hcv hCv hV
 have hNb := hCo.2.1
 have hMb := hCv.2.1
 have hN1 : N = ops.length + 1 := by rw [hN]; simp
 have hM1 : M = vals.length + args.length := by rw [hM]; simp
 have hc0 : w.cell? ⟨g, 0, none⟩ = some (.slice Ao N co) := (blk_cell hb 0).trans rfl
 have hc1 : w.cell? ⟨g, 1, none⟩ = some (.slice Av M cv) := (blk_cell hb 1).trans rfl
 have hf0 := blk_frozen hb 0
 have hf1 := blk_frozen hb 1
 have hw0 : IntKind.i64.wrap ((N : Int) - 1) = (N : Int) - 1 := IntWalk.i64_in _ (by omega)
 have hw1 : IntKind.i64.wrap ((M : Int) - (args.length : Int)) = (M : Int) - (args.length : Int) := IntWalk.i64_in _ (by omega)
 obtain ⟨i70, hi70, _, hs70, _⟩ := info_parts info70
 obtain ⟨i23, hi23, _, hs23, _⟩ := info_parts info23
 have hcutO := cut_to (P := Try.prog) 24 70 .i64 Try.underlying24 hi70 Ao N co ((N : Int) - 1) (by omega) (by omega) hco
 have hcutV := cut_to (P := Try.prog) 25 23 .i64 Try.underlying25 hi23 Av M cv ((M : Int) - (args.length : Int)) (by omega) (by omega) hcv
 rw [show ((N : Int) - 1).toNat = ops.length by omega] at hcutO
 rw [show ((M : Int) - (args.length : Int)).toNat = vals.length by omega] at hcutV
 have HO := Aside0.mk hO
 have HV := Aside0.mk hV
 have HH := Aside0.mk hH
 have HT := Aside0.mk ht
 have HG := Aside0.mk hg
 have HBK := Aside0.mk hb
 have HL := Aside0.mk (show N = ops.length + 1 ∧ M = vals.length + args.length from ⟨hN1, hM1⟩)
 clear hO hV hH ht hg hb hN1 hM1 hN hM hCo hCv hco hcv
 go_enter Try.func48, Try.ntmps48
 go_wp2
 go_region
 have HBK1 := Aside0.mk (show _ = _ from (by simpa using blk_set HBK.out 0 (.slice Ao ops.length co) : (w.setCell ⟨g, 0, none⟩ (.slice Ao ops.length co)).heap[g]? = some (.cells #[.slice Ao ops.length co, .slice Av M cv, .int .i64 st, vh, rv, tv, .int .i64 fu] 94 (0, 0))) : (w.setCell ⟨g, 0, none⟩ (.slice Ao ops.length co)).drew.heap[g]? = some (.cells #[.slice Ao ops.length co, .slice Av M cv, .int .i64 st, vh, rv, tv, .int .i64 fu] 94 (0, 0)))
 have HO1 := Aside0.mk (Kd.R_drew (Kd.R_set (show Kd.R k70 70 w B (fun _ => True) (.slice Ao ops.length co) ops from by have := Kd.R_take (m := ops.length) HO.out (by simp); rwa [List.take_left] at this) HBK.out (by decide) 0 (.slice Ao ops.length co)))
 have HV1 := Aside0.mk (Kd.R_drew (Kd.R_set (show Kd.R (Kd.slice 54 k54) 23 w B (fun _ => True) (.slice Av vals.length cv) vals from by have := Kd.R_take (m := vals.length) HV.out (by simp); rwa [List.take_left] at this) HBK.out (by decide) 0 (.slice Ao ops.length co)))
 have HH1 := Aside0.mk (Kd.R_drew (Kd.R_set HH.out HBK.out (by decide) 0 (.slice Ao ops.length co)))
 have HT1 := Aside0.mk (Kd.R_drew (Kd.R_set HT.out HBK.out (by decide) 0 (.slice Ao ops.length co)))
 have HB1 := Aside0.mk (below_drew1 ((Below.refl B w).setCell (p := ⟨g, 0, none⟩) HG.out (.slice Ao ops.length co)))
 generalize (w.setCell ⟨g, 0, none⟩ (.slice Ao ops.length co)).drew = w1 at HBK1 HO1 HV1 HH1 HT1 HB1 ⊢
 clear hc0 hc1 hf0 hf1
 have hc1 : w1.cell? ⟨g, 1, none⟩ = some (.slice Av M cv) := (blk_cell HBK1.out 1).trans rfl
 go_wp2
 have FM := Aside0.mk (show Kd.M (Kd.slice 54 k54) w1.drew B (fun k => True ∧ some k ≠ (Value.slice Av vals.length cv).ownBlock) t [.slice A t.length c] from Kd.M_row (Kd.R_drew (Kd.R_apartR HT1.out HV1.out (by decide))))
 have FO := Aside0.mk (show Kd.R (Kd.slice 54 k54) 23 w1.drew B (fun _ => True) (.slice Av vals.length cv) vals from Kd.R_drew HV1.out)
 have FB := Aside0.mk (show Below B w w1.drew from below_drew1 HB1.out)
 have FS := Aside0.mk (show B ≤ w1.drew.heap.size from Nat.le_trans HG.out (Nat.le_of_lt (blk_lt HBK1.out)))
 have AFT : ∀ (w4 : World), w1.drew.grownBy w4 (Value.slice Av vals.length cv).ownBlock → w4.heap[g]? = some (.cells #[.slice Ao ops.length co, .slice Av M cv, .int .i64 st, vh, rv, tv, .int .i64 fu] 94 (0, 0)) ∧ Kd.R k70 70 w4 B (fun _ => True) (.slice Ao ops.length co) ops ∧ Kd.R Kd.string 9 w4 B (fun _ => True) vh hd := fun w4 hgr =>
  ⟨blk_grown (w := w1.drew) HBK1.out hgr (Kd.R_ne FO.out HBK1.out (by decide)), Kd.R_over (Kd.R_drew HO1.out) FO.out (by decide) hgr, Kd.R_over (Kd.R_drew HH1.out) FO.out (by decide) hgr⟩
 have AF := Aside0.mk AFT
 clear AFT
 have hca : (w1.alloc (.cells #[.slice A t.length c] 23)).cell? ⟨g, 1, none⟩ = some (.slice Av M cv) := pw_cell_below (below_alloc (Below.refl _ _) _) hc1
 go_region_law ((refine Kd.R_append_step (W := w1.drew) (Kd.slice 54 k54) (w0 := w) B rfl (.tmp 37) (.tmp 39) 25 23 (.slice none 0 0) 24 rfl Try.underlying25 info23 rfl (by decide) (by decide) (.slice Av vals.length cv) vals t [.slice A t.length c] (fun _ => True) (fun k => True ∧ some k ≠ (Value.slice Av vals.length cv).ownBlock) rfl rfl FM.out (fun _ hk => hk) (fun _ _ => trivial) FO.out FB.out FS.out hl ?_; intro v2 w4 ho hb hgr hat; obtain ⟨A2, c2, rfl⟩ := Kd.R_slice ho; have HA := Aside0.mk (AF.out w4 hgr); have HV2 := Aside0.mk ho; have HB2 := Aside0.mk hb; have hf2 := blk_frozen HA.out.1 1; have hc2 := (blk_cell HA.out.1 1).trans rfl; clear ho hb hgr hat))
 all_goals
  (first | refine bodyPost_ret (results_none rfl _ _ _) rfl ?_ | refine bodyPost_end (results_none rfl _ _ _) rfl ?_)
  exact ⟨rfl, ⟨_, _, _, by simpa using blk_set HA.out.1 1 _, HG.out, Kd.R_set HA.out.2.1 HA.out.1 (by decide) 1 _, Kd.R_set HV2.out HA.out.1 (by decide) 1 _, Kd.R_set HA.out.2.2 HA.out.1 (by decide) 1 _⟩, HB2.out.setCell (p := ⟨g, 1, none⟩) HG.out _⟩

-- ==== Rw2
theorem isMc_below {B g : Nat} {W W' : World} {rv tv : Value} {ops : List S70} {vals : List (List S54)} {st fu : Int} {hd : List ByteArray} (h : IsMc B W g rv tv ops vals st hd fu) (hb' : Below W.heap.size W W') : IsMc B W' g rv tv ops vals st hd fu := by
 obtain ⟨vo, vv, vh, hb, hg, hO, hV, hH⟩ := h
 exact ⟨vo, vv, vh, (hb'.block g (blk_lt hb)).trans hb, hg, Kd.R_below hO hb', Kd.R_below hV hb', Kd.R_below hH hb'⟩
theorem isMc_lt {B g : Nat} {W : World} {rv tv : Value} {ops : List S70} {vals : List (List S54)} {st fu : Int} {hd : List ByteArray} (h : IsMc B W g rv tv ops vals st hd fu) : B ≤ W.heap.size := by
 obtain ⟨vo, vv, vh, hb, hg, _⟩ := h
 exact Nat.le_trans hg (Nat.le_of_lt (blk_lt hb))
theorem R_one (W : World) (B a : Nat) (ha : a = W.heap.size) (hB : B ≤ a) (x : S54) : Kd.R k54 54 (W.alloc (.cells #[.string x.f0, .int .i64 x.f1] 54)) B (fun _ => True) (.slice (some ⟨a, 0, none⟩) [x].length 1) [x] := by
 subst ha
 refine ⟨fun _ _ => trivial, [.string x.f0, .int .i64 x.f1], ?_, ?_⟩
 ·
  exact World.ownsRow_lit (base := B) (e := 54) (size := 2) W #[.string x.f0, .int .i64 x.f1] 1 hB (by decide) (by rfl)
 ·
  refine ⟨rfl, fun j p hj => ?_⟩
  match j, hj with
  | 0, hj => obtain rfl := Option.some.inj hj; exact k54_mkM _ _ _ x
  | j + 1, hj => simp at hj
def nodeStep (out v : List S54) : List S54 := if out.length ≤ 64 then out ++ v else out
def nodeL (c : S54) (args : List (List S54)) : List S54 := args.foldl nodeStep [c]
theorem nodeStep_le {out v : List S54} (h : out.length ≤ 128) (hv : v.length ≤ 64) : (nodeStep out v).length ≤ 128 := by
 unfold nodeStep
 split
 ·
  rw [List.length_append]; omega
 ·
  exact h
def NodeEnd (l : List S54) (base : Nat) (w' : World) (v : Value) : Prop := if l.length > 64 then v = .slice none 0 0 else Kd.R k54 54 w' base (fun _ => True) v l
theorem node_calls {B g : Nat} {w : World} {rv tv : Value} {ops : List S70} {vals args : List (List S54)} {st fu : Int} {hd : List ByteArray} {nm : ByteArray}
 (h : IsMc B w g rv tv ops (vals ++ args) st hd fu) (hv : ∀ v ∈ args, v.length ≤ 64) :
 Calls Try.prog 72 #[.pointer (some ⟨g, 0, none⟩), .agg #[.string nm, .int .i64 (args.length : Int)]] w fun e w' => ∃ v : Value, e = .returned v ∧
  NodeEnd (nodeL ⟨nm, args.length⟩ args) w.heap.size w' v ∧ Below w.heap.size w w' := by
 obtain ⟨vo, vv, vh, hb, hg, hO, hV, hH⟩ := h
 obtain ⟨Av, cv, rfl⟩ := Kd.R_slice hV
 obtain ⟨_, hcv, hCv⟩ := Kd.R_reads' hV
 obtain ⟨M, hM⟩ : ∃ M, M = (vals ++ args).length := ⟨_, rfl⟩
 rw [← hM] at hb hcv
 have hMb : M ≤ 9223372036854775807 := by rw [hM]; exact hCv.2.1
 have hM1 : M = vals.length + args.length := by rw [hM]; simp
 obtain ⟨i23, hi23, _, hs23, _⟩ := info_parts info23
 have hcut := cut_from (P := Try.prog) 25 23 .i64 Try.underlying25 hi23 1 hs23 Av M cv ((M : Int) - (args.length : Int)) (by omega) (by omega)
 have hC2 := Kd.C_drop (c := cv) (m := vals.length) hCv (by simp) (by rw [← hM]; exact hcv)
 rw [List.drop_left] at hC2
 rw [show ((M : Int) - (args.length : Int)).toNat = vals.length by omega] at hcut
 rw [show M - vals.length = args.length by omega] at hcut
 obtain ⟨A2, hA2⟩ : ∃ A2 : Option Addr, A2 = (if cv = vals.length then Av else Av.map (·.add (vals.length * 1))) := ⟨_, rfl⟩
 rw [← hA2] at hcut
 have hC3 : Kd.C (Kd.slice 54 k54) w A2 args.length args := by rw [hA2]; exact hC2
 have hw1 : IntKind.i64.wrap ((M : Int) - (args.length : Int)) = (M : Int) - (args.length : Int) := IntWalk.i64_in _ (by omega)
 obtain ⟨fin, hfin⟩ : ∃ fin, fin = nodeL ⟨nm, args.length⟩ args := ⟨_, rfl⟩
 rw [← hfin]
 have HC := Aside0.mk hC3
 have HV := Aside0.mk hv
 have HF := Aside0.mk hfin
 have HM := Aside0.mk (show (args.length : Int) ≤ 9223372036854775807 by omega)
 obtain ⟨bx, hbx⟩ : ∃ bx : Obj, bx = .cells #[.string nm, .int .i64 (args.length : Int)] 54 := ⟨_, rfl⟩
 have hbw := below_alloc (Below.refl w.heap.size w) (.cells #[.string nm, .int .i64 (args.length : Int)] 54)
 have hbw2 := below_alloc hbw (.cells #[.string nm, .int .i64 (args.length : Int)] 54)
 have hv1 : ((w.alloc (.cells #[.string nm, .int .i64 (args.length : Int)] 54)).alloc (.cells #[.string nm, .int .i64 (args.length : Int)] 54)).cell? ⟨g, 1, none⟩ = some (.slice Av M cv) := pw_cell_below hbw2 ((blk_cell hb 1).trans rfl)
 have hk0 := heap_alloc_new w (.cells #[.string nm, .int .i64 (args.length : Int)] 54)
 have hk1 : ((w.alloc (.cells #[.string nm, .int .i64 (args.length : Int)] 54)).alloc (.cells #[.string nm, .int .i64 (args.length : Int)] 54)).cell? ⟨w.heap.size, 1, none⟩ = some (.int .i64 (args.length : Int)) := pw_cell_below (below_alloc (Below.refl _ _) _) ((blk_cell hk0 1).trans rfl)
 have HO := Aside0.mk (R_one (w.alloc (.cells #[.string nm, .int .i64 (args.length : Int)] 54)) w.heap.size (w.heap.size + 1) (by simp) (by omega) ⟨nm, args.length⟩)
 have HB := Aside0.mk hbw2
 clear hO hV hH hb hg hC2 hC3 hA2 hCv hcv hM hM1 hv hfin hbw hbw2 hk0 hbx bx
 go_enter Try.func72, Try.ntmps72
 go_wp2
 go_region
 have HO1 := Aside0.mk (Kd.R_drew HO.out)
 have HB1 := Aside0.mk (below_drew1 HB.out)
 clear hv1 hk1 HO HB
 go_wp2
 go_loopg [5, 26] args.length (fun kq v5 v26 w' => ∃ (x : Int) (Ao : Option Addr) (co : Nat) (out : List S54), v26 = .int .i64 x ∧ v5 = .slice Ao out.length co ∧ Aside0 (0 ≤ x ∧ x + kq = (args.length : Int)) ∧ Aside0 ((args.drop x.toNat).foldl nodeStep out = fin) ∧ Aside0 (out.length ≤ 128) ∧ Aside0 (Kd.R k54 54 w' w.heap.size (fun _ => True) (.slice Ao out.length co) out) ∧ Aside0 (Below w.heap.size w w'))
 case atStart => exact ⟨0, _, _, [⟨nm, args.length⟩], rfl, rfl, ⟨by omega⟩, ⟨by rw [HF.out]; rfl⟩, ⟨by simp⟩, HO1, HB1⟩
 case round =>
  clear HO1 HB1 HF
  obtain ⟨x, Ao, co, out, rfl, rfl, HI, HF, HL, HO, HB⟩ := hrel
  cases gk with
  | succ k1 =>
   have hi : 0 ≤ x ∧ x < (args.length : Int) := by have := HI.out; omega
   obtain ⟨ad, A0, c0, rfl, hx0, hl0, hc0⟩ := at_L3 (Kd.C_below HC.out HB.out) x hi.1 hi.2
   have hd : args.drop x.toNat = rd_L3 args x :: args.drop (x.toNat + 1) := by
    rw [List.drop_eq_getElem_cons (show x.toNat < args.length by omega)]
    congr 1
    simp [rd_L3, List.getD_eq_getElem?_getD, show x.toNat < args.length by omega]
   have hf := HF.out
   rw [hd, List.foldl_cons] at hf
   have HF2 := Aside0.mk hf
   have hvl : (rd_L3 args x).length ≤ 64 := HV.out _ (by have := List.mem_of_mem_drop (i := x.toNat) (l := args) (a := rd_L3 args x) (by rw [hd]; exact List.mem_cons_self); exact this)
   have HVL := Aside0.mk hvl
   have HX := Aside0.mk hi
   have HCv := Aside0.mk hc0
   generalize rd_L3 args x = v at hx0 hl0 HF2 HVL HCv
   have hb0 : decide (x < (args.length : Int)) = true := decide_eq_true hi.2
   have hpp := eq_true hi.1
   have hqq := eq_true hi.2
   clear hd hf hvl hi hc0
   by_cases hq : out.length ≤ 64
   ·
    have hb1 : decide ((out.length : Int) ≤ 64) = true := decide_eq_true (by omega)
    have HS := Aside0.mk (show nodeStep out v = out ++ v from if_pos hq)
    clear hq
    go_wp2_with (first | (at_builtin; refine Kd.R_append_rows k54 (w0 := w) w.heap.size rfl (.tmp 33) (.tmp 34) 23 54 (.agg #[.string ⟨#[]⟩, .int .i64 0]) 24 rfl Try.underlying23 info54 rfl (by decide) (by decide) (.slice Ao out.length co) out v A0 v.length c0 (fun _ => True) (fun _ => False) rfl rfl HO.out HCv.out (fun x cs hk => ?aK) (fun _ hk => hk.elim) (fun _ _ => trivial) HB.out HB.out.size ?aL ?_; (case aK => obtain rfl := k54_open hk; exact k54_mkM _ _ _ _); (case aL => have := HL.out; have := HVL.out; omega); intro v2 w4 ho hb hgr hat; obtain ⟨A2_, c2_, rfl⟩ := Kd.R_slice ho; have HO2 := Aside0.mk ho; have HB2 := Aside0.mk hb; clear ho hb hgr hat))
    go_roundg k1
    case measure => have := HI.out; omega
    case rel => exact ⟨x + 1, _, _, out ++ v, by have e_ : wrap64 (x + 1) = x + 1 := (by have := HX.out; have := HM.out; unfold wrap64; omega); first | rfl | rw [e_] | (simp [e_]; done), by rw [List.length_append], ⟨by have := HI.out; omega⟩, ⟨by rw [show (x + 1).toNat = x.toNat + 1 by have := HX.out; omega, ← HS.out]; exact HF2.out⟩, ⟨by have := nodeStep_le HL.out HVL.out; rwa [HS.out] at this⟩, HO2, HB2⟩
   ·
    have hb1 : decide ((out.length : Int) ≤ 64) = false := decide_eq_false (by omega)
    have HS := Aside0.mk (show nodeStep out v = out from if_neg hq)
    clear hq
    go_wp2
    go_roundg k1
    case measure => have := HI.out; omega
    case rel => exact ⟨x + 1, _, _, out, by have e_ : wrap64 (x + 1) = x + 1 := (by have := HX.out; have := HM.out; unfold wrap64; omega); first | rfl | rw [e_] | (simp [e_]; done), rfl, ⟨by have := HI.out; omega⟩, ⟨by rw [show (x + 1).toNat = x.toNat + 1 by have := HX.out; omega]; have h_ := HF2.out; rw [HS.out] at h_; exact h_⟩, HL, HO, HB⟩
  | zero =>
   have hb0 : decide (x < (args.length : Int)) = false := decide_eq_false (by have := HI.out; omega)
   have hf := HF.out
   rw [List.drop_eq_nil_of_le (by have := HI.out; omega)] at hf
   have hf : out = fin := hf
   subst hf
   by_cases hq : out.length > 64
   ·
    have hb1 : decide ((64 : Int) < (out.length : Int)) = true := decide_eq_true (by omega)
    have hb2 : decide (64 < out.length) = true := decide_eq_true (by omega)
    have HQ := Aside0.mk hq
    clear hq
    go_wp2
    go_ret
    exact ⟨_, rfl, (by unfold NodeEnd; rw [if_pos HQ.out]; rfl), HB.out⟩
   ·
    have hb1 : decide ((64 : Int) < (out.length : Int)) = false := decide_eq_false (by omega)
    have hb2 : decide (64 < out.length) = false := decide_eq_false (by omega)
    have HQ := Aside0.mk hq
    clear hq
    go_wp2
    go_ret
    exact ⟨_, rfl, (by unfold NodeEnd; rw [if_neg HQ.out]; exact HO.out), HB.out⟩

-- ==== Rw3
def KT (T : Nat) (w w' : World) : Prop := Kept w w' (fun k => ∃ cells, w.heap[k]? = some (.cells cells T (0, 0)))
theorem KT.refl (T : Nat) (w : World) : KT T w w := Kept.refl _ _
theorem KT.trans {T : Nat} {w w1 w2 : World} (h : KT T w w1) (k : KT T w1 w2) : KT T w w2 := by
 refine Kept.then_ h k (fun i hi => ?_)
 rcases Nat.lt_or_ge i w.heap.size with hl | hl
 ·
  by_cases hs : ∃ cells, w.heap[i]? = some (.cells cells T (0, 0))
  ·
   exact .inl hs
  ·
   obtain ⟨cells, hc⟩ := hi
   rw [h.2 i hl hs] at hc
   exact absurd ⟨cells, hc⟩ hs
 ·
  exact .inr hl
theorem KT.below {T : Nat} {w w1 w2 : World} (h : KT T w w1) (hb : Below w1.heap.size w1 w2) : KT T w w2 := h.trans (Kept.of_below hb _)
theorem KT.alloc {T : Nat} {w w1 : World} (h : KT T w w1) (o : Obj) : KT T w (w1.alloc o) := h.below (below_alloc (Below.refl _ _) o)
theorem KT.drew {T : Nat} {w w1 : World} (h : KT T w w1) : KT T w w1.drew := h
theorem KT.grown {α : Type} {d : Kd α} {T B : Nat} {ok : Nat → Prop} {w w1 w2 : World} {v : Value} {xs : List α} (h : KT T w w1) (hr : d.R T w1 B ok v xs) (hg : w1.grownBy w2 v.ownBlock) : KT T w w2 :=
 h.trans ⟨hg.size, fun i hi hn => hg.block i hi (fun he => hn (Kd.R_typed hr i he.symm))⟩
theorem KT.blk {T t g : Nat} {cs : Array Value} {w w1 : World} (h : KT T w w1) (hb : w.heap[g]? = some (.cells cs t (0, 0))) (ht : t ≠ T) : w1.heap[g]? = some (.cells cs t (0, 0)) :=
 blk_kept hb h (fun ⟨cells, hc⟩ => by rw [hb] at hc; injection hc with hc; injection hc with _ hc; exact ht hc)
def todoN (f : Int → List S70 → Option (List S70 × Int)) : Nat → Int → List S70 → Option (List S70 × Int)
 | 0, i, out => some (out, i)
 | n + 1, i, out => (f i out).bind fun r => todoN f n r.2 r.1
def todoL (H : ByteArray → List S54) (t : List S54) : Nat → Int → List S70 → Option (List S70 × Int)
 | 0, _, _ => none
 | k + 1, i, out => if 0 ≤ i ∧ i < (t.length : Int) then
  (if (H (rd_T54 t i).f0).length > 0 then (if out.length < 2513169434900 then some (out ++ [⟨2, z54, H (rd_T54 t i).f0⟩], i + 1) else none)
   else if (rd_T54 t i).f1 ≤ 4 then ((todoN (todoL H t k) (rd_T54 t i).f1.toNat (i + 1) out).bind fun r => if r.1.length < 2513169434900 then some (r.1 ++ [⟨1, rd_T54 t i, []⟩], r.2) else none) else none)
  else none
theorem below_trB {B : Nat} {w w1 w2 : World} (h : Below B w w1) (k : Below B w1 w2) : Below B w w2 :=
 ⟨k.os.trans h.os, k.tape.trans h.tape, k.output.trans h.output, Nat.le_trans h.size k.size, fun i hi => (k.block i hi).trans (h.block i hi)⟩
theorem below_less {B C : Nat} {w w1 : World} (h : Below C w w1) (hB : B ≤ C) : Below B w w1 := ⟨h.os, h.tape, h.output, h.size, fun i hi => h.block i (Nat.lt_of_lt_of_le hi hB)⟩

theorem todo_calls0 {w0 : World} {A : Option Addr} {c : Nat} {t : List S54} {H : ByteArray → List S54} (ht : Kd.C k54 w0 A t.length t) (hc : t.length ≤ c)
 (HC : ∀ (s : ByteArray) (W : World), Below w0.heap.size w0 W → Calls Try.prog 33 #[.string s] W fun e W' => ∃ v0 : Value, e = .returned v0 ∧ Kd.R k54 54 W' W.heap.size (fun _ => True) v0 (H s) ∧ Below W.heap.size W W') (k : Nat) : ∀ (i : Int) (vo : Value) (out : List S70) (r : List S70 × Int) (w : World), Below w0.heap.size w0 w → Kd.R k70 70 w w0.heap.size (fun _ => True) vo out → todoL H t k i out = some r →
 Calls Try.prog 63 #[.slice A t.length c, .int .i64 i, vo, .func (.func 33) #[] #[]] w fun e w' => ∃ v0 : Value, e = .returned (.tuple #[v0, .int .i64 r.2]) ∧ Kd.R k70 70 w' w0.heap.size (fun _ => True) v0 r.1 ∧ Below w0.heap.size w0 w' ∧ KT 70 w w' := by
 induction k with
 | zero => intro i vo out r w hb ho h; simp [todoL] at h
 | succ k ih =>
  intro i vo out r w hb ho h
  have HT := Aside0.mk ht
  have IH := Aside0.mk ih
  have HHC := Aside0.mk HC
  obtain ⟨Ao, co, rfl⟩ := Kd.R_slice ho
  have HO := Aside0.mk ho
  have HB := Aside0.mk hb
  have HKT := Aside0.mk (KT.refl 70 w)
  have HM := Aside0.mk (show (t.length : Int) ≤ 9223372036854775807 by have := ht.2.1; omega)
  rw [todoL] at h
  by_cases hi : 0 ≤ i ∧ i < (t.length : Int)
  case neg => rw [if_neg hi] at h; cases h
  rw [if_pos hi] at h
  obtain ⟨ad, rfl, hx0, hx1⟩ := at_T54 (Kd.C_below ht hb) i hi.1 hi.2
  generalize rd_T54 t i = cc at hx0 hx1 h
  have hpp := eq_true hi.1
  have hqq := eq_true hi.2
  have hwr : wrap64 (i + 1) = i + 1 := by have := HM.out; unfold wrap64; omega
  have HX := Aside0.mk hi
  have H0 := Aside0.mk h
  clear ho hb ih ht h HC
  have HF := fun (W : World) (hW : Below w0.heap.size w0 W) => HHC.out cc.f0 W hW
  clear hi
  by_cases h1 : (H cc.f0).length > 0
  ·
   have h := H0.out
   rw [if_pos h1] at h
   by_cases h2 : out.length < 2513169434900
   case neg => rw [if_neg h2] at h; cases h
   rw [if_pos h2] at h
   obtain rfl := Option.some.inj h
   have HN := Aside0.mk h2
   have hd : decide (0 < ((H cc.f0).length : Int)) = true := decide_eq_true (by omega)
   have hd2 : decide (0 < (H cc.f0).length) = true := decide_eq_true h1
   have hp1 : 0 < (H cc.f0).length := h1
   clear h h2 H0
   generalize H cc.f0 = hv at HF hd hd2 h1 hp1 ⊢
   go_enter Try.func63, Try.ntmps63
   go_wp2_with (first | (go_at_call 33; (with_reducible refine (HF _ ?side1).mono ?_); (case side1 => exact (zq HB.out)); rintro e w1 ⟨v1, rfl, hr1, hb1⟩; obtain ⟨A1, c1, rfl⟩ := Kd.R_slice hr1; have HR1 := Aside0.mk (Kd.R_lower hr1 ((zq HB.out) : Below w0.heap.size w0 _).size); have n0_ := Aside0.mk (Kd.R_below (zr HO.out) hb1); have n1_ := Aside0.mk (below_trB (zq HB.out) (below_less hb1 ((zq HB.out) : Below w0.heap.size w0 _).size)); have n2_ := Aside0.mk (KT.below (KT.below HKT.out zg) hb1); clear HO HB HKT hr1 hb1; have HO := n0_; have HB := n1_; have HKT := n2_; clear n0_ n1_ n2_) | (at_builtin; (with_reducible refine gate_builtin (b := .append) (xs := #[.tmp 25, .tmp 28]) rfl ?_); refine Kd.R_append k70 (w0 := w0) w0.heap.size rfl (.tmp 25) (.tmp 28) 24 70 (.agg #[.int .i64 0, .string ⟨#[]⟩, .int .i64 0, .slice none 0 0]) 56 rfl Try.underlying24 info70 rfl (by decide) (by decide) (Value.slice Ao out.length co) out (⟨2, z54, hv⟩ : S70) [.int .i64 2, .string ⟨#[]⟩, .int .i64 0, .slice A1 hv.length c1] (fun _ => True) (fun k => True ∧ some k ≠ (Value.slice Ao out.length co).ownBlock) rfl rfl ?aP (fun _ hk => hk) (fun _ _ => trivial) ?aO ?aB ?aS ?aL ?_; (case aP => exact k70_mkM _ _ _ (⟨2, z54, hv⟩ : S70) (Kd.R_apartR (zr HR1.out) (show Kd.R k70 70 _ w0.heap.size (fun _ => True) (.slice Ao out.length co) out from (zr HO.out)) (by decide))); (case aO => exact (zr HO.out)); (case aB => exact (zq HB.out)); (case aS => exact (show Below w0.heap.size w0 _ from (zq HB.out)).size); (case aL => have := HN.out; omega); intro v2 w4 ho hb hgr hat; obtain ⟨A2_, c2_, rfl⟩ := Kd.R_slice ho; have HO2 := Aside0.mk ho; have HB2 := Aside0.mk hb; have hk_ : KT 70 w w4 := (by refine KT.grown (d := k70) (B := w0.heap.size) (ok := fun _ => True) (xs := out) ?_ ?_ hgr; exact (KT.below HKT.out zg); exact (zr HO.out)); have HK2 := Aside0.mk hk_; clear hk_; clear ho hb hgr hat))
   go_ret2
   exact ⟨_, rfl, by have h_ := HO2.out; simp only [List.length_append, List.length_cons, List.length_nil, Nat.zero_add] at h_; exact h_, HB2.out, HK2.out⟩
  ·
   have h := H0.out
   rw [if_neg h1] at h
   by_cases h4 : cc.f1 ≤ 4
   case neg => rw [if_neg h4] at h; cases h
   rw [if_pos h4] at h
   have HAR := Aside0.mk h4
   clear h4
   obtain ⟨⟨out', i'⟩, hn, h⟩ := Option.bind_eq_some_iff.mp h
   by_cases h2 : out'.length < 2513169434900
   case neg => rw [if_neg h2] at h; cases h
   rw [if_pos h2] at h
   obtain rfl := Option.some.inj h
   have HN := Aside0.mk h2
   have HH := Aside0.mk hn
   have hd : decide (0 < ((H cc.f0).length : Int)) = false := decide_eq_false (by omega)
   have hd2 : decide (0 < (H cc.f0).length) = false := decide_eq_false h1
   have hp1 : (H cc.f0).length = 0 := by omega
   clear h h2 H0 hn
   generalize hgv : H cc.f0 = hv at HF hd hd2 h1 hp1
   obtain rfl : hv = [] := List.eq_nil_of_length_eq_zero hp1
   clear h1 hp1 hgv
   go_enter Try.func63, Try.ntmps63
   go_wp2_with (first | (go_at_call 33; (with_reducible refine (HF _ ?side1).mono ?_); (case side1 => exact (zq HB.out)); rintro e w1 ⟨v1, rfl, hr1, hb1⟩; obtain ⟨A1, c1, rfl⟩ := Kd.R_slice hr1; have n0_ := Aside0.mk (Kd.R_below (zr HO.out) hb1); have n1_ := Aside0.mk (below_trB (zq HB.out) (below_less hb1 ((zq HB.out) : Below w0.heap.size w0 _).size)); have hk1 := pw_cell_below hb1 ((blk_cell (heap_alloc_new w (.cells #[.string cc.f0, .int .i64 cc.f1] 54)) 0).trans rfl); have hk2 := pw_cell_below hb1 ((blk_cell (heap_alloc_new w (.cells #[.string cc.f0, .int .i64 cc.f1] 54)) 1).trans rfl); have HK := Aside0.mk (hb1.block w.heap.size (by simp)); have n2_ := Aside0.mk (KT.below (KT.below HKT.out zg) hb1); clear HO HB HKT hr1 hb1; have HO := n0_; have HB := n1_; have HKT := n2_; clear n0_ n1_ n2_))
   go_loopg [1, 2, 33] cc.f1.toNat (fun kq v1 v2 v33 w' => ∃ (j a : Int) (o : List S70) (Ao2 : Option Addr) (co2 : Nat), v1 = .int .i64 a ∧ v2 = .slice Ao2 o.length co2 ∧ v33 = .int .i64 j ∧ Aside0 (0 ≤ j ∧ j + kq = (cc.f1.toNat : Int)) ∧ Aside0 (todoN (todoL H t k) kq a o = some (out', i')) ∧ Aside0 (Kd.R k70 70 w' w0.heap.size (fun _ => True) (.slice Ao2 o.length co2) o) ∧ Aside0 (Below w0.heap.size w0 w') ∧ Aside0 (KT 70 w w') ∧ Aside0 (w'.heap[w.heap.size]? = some (.cells #[.string cc.f0, .int .i64 cc.f1] 54 (0, 0))))
   case atStart => exact ⟨0, i + 1, out, _, _, rfl, rfl, rfl, ⟨by omega⟩, HH, HO, HB, HKT, ⟨HK.out.trans (heap_alloc_new w _)⟩⟩
   case round =>
    clear HO HB HKT HH HK hk1 hk2
    obtain ⟨j, a, o, Ao2, co2, rfl, rfl, rfl, HI, HH, HO, HB, HKT, HK⟩ := hrel
    cases gk with
    | succ k1 =>
     have hj : 0 ≤ j ∧ j < cc.f1 := by have := HI.out; omega
     have hd3 : decide (j < cc.f1) = true := decide_eq_true hj.2
     have HJ := Aside0.mk hj
     have h := HH.out
     rw [todoN] at h
     obtain ⟨⟨o2, a2⟩, hf, h⟩ := Option.bind_eq_some_iff.mp h
     have HH2 := Aside0.mk h
     have I1 := fun (W : World) (hW : Below w0.heap.size w0 W) (hr : Kd.R k70 70 W w0.heap.size (fun _ => True) (.slice Ao2 o.length co2) o) => IH.out a _ o _ W hW hr hf
     have hjw : wrap64 (j + 1) = j + 1 := by
      have := HAR.out
      unfold wrap64; omega
     clear h hf hj
     go_wp2_with (first | (go_at_call 63; (with_reducible refine (I1 _ ?side1 ?side2).mono ?_); (case side1 => exact (zq HB.out)); (case side2 => exact (zr HO.out)); rintro e w2 ⟨v2, rfl, hr2, hb2, hk2⟩; obtain ⟨A2, c2, rfl⟩ := Kd.R_slice hr2; have HO2 := Aside0.mk hr2; have HB2 := Aside0.mk hb2; have HKT2 := Aside0.mk (KT.trans (KT.below HKT.out zg) hk2); have HK2 := Aside0.mk (KT.blk hk2 HK.out (by decide)); clear hr2 hb2 hk2))
     go_roundg k1
     case measure => have := HI.out; omega
     case rel => exact ⟨j + 1, a2, o2, _, _, rfl, rfl, by first | rfl | rw [hjw], ⟨by have := HI.out; have := HJ.out; omega⟩, HH2, HO2, HB2, HKT2, HK2⟩
    | zero =>
     have hj : ¬ j < cc.f1 := by have := HI.out; omega
     have hd3 : decide (j < cc.f1) = false := decide_eq_false hj
     have h := HH.out
     rw [todoN] at h
     obtain ⟨rfl, rfl⟩ := Prod.mk.inj (Option.some.inj h)
     have hk3 := (blk_cell HK.out 0).trans rfl
     have hk4 := (blk_cell HK.out 1).trans rfl
     clear h hj HH
     go_wp2_with (first | (at_builtin; (with_reducible refine gate_builtin (b := .append) (xs := #[.tmp 44, .tmp 47]) rfl ?_); refine Kd.R_append k70 (w0 := w0) w0.heap.size rfl (.tmp 44) (.tmp 47) 24 70 (.agg #[.int .i64 0, .string ⟨#[]⟩, .int .i64 0, .slice none 0 0]) 56 rfl Try.underlying24 info70 rfl (by decide) (by decide) (Value.slice Ao2 o.length co2) o (⟨1, cc, []⟩ : S70) [.int .i64 1, .string cc.f0, .int .i64 cc.f1, .slice none 0 0] (fun _ => True) (fun k => True ∧ some k ≠ (Value.slice Ao2 o.length co2).ownBlock) rfl rfl ?aP (fun _ hk => hk) (fun _ _ => trivial) ?aO ?aB ?aS ?aL ?_; (case aP => exact k70_mkM _ _ _ (⟨1, cc, []⟩ : S70) (Kd.R_nil _ _ _ _ _)); (case aO => exact (zr HO.out)); (case aB => exact (zq HB.out)); (case aS => exact (show Below w0.heap.size w0 _ from (zq HB.out)).size); (case aL => have := HN.out; omega); intro v2 w4 ho hb hgr hat; obtain ⟨A2_, c2_, rfl⟩ := Kd.R_slice ho; have HO2 := Aside0.mk ho; have HB2 := Aside0.mk hb; have hk_ : KT 70 w w4 := (by refine KT.grown (d := k70) (B := w0.heap.size) (ok := fun _ => True) (xs := o) ?_ ?_ hgr; exact (KT.below HKT.out zg); exact (zr HO.out)); have HK2 := Aside0.mk hk_; clear hk_; clear ho hb hgr hat))
     go_ret2
     exact ⟨_, rfl, by have h_ := HO2.out; simp only [List.length_append, List.length_cons, List.length_nil, Nat.zero_add] at h_; exact h_, HB2.out, HK2.out⟩

theorem todo_calls1 {w0 : World} {A : Option Addr} {c : Nat} {t : List S54} {H : ByteArray → List S54} {pb : Nat} (ht : Kd.C k54 w0 A t.length t) (hc : t.length ≤ c)
 (HC : ∀ (s : ByteArray) (W : World), Below w0.heap.size w0 W → Calls Try.prog 75 #[.string s, .pointer (some ⟨pb, 0, none⟩)] W fun e W' => ∃ v0 : Value, e = .returned v0 ∧ Kd.R k54 54 W' W.heap.size (fun _ => True) v0 (H s) ∧ Below W.heap.size W W') (k : Nat) : ∀ (i : Int) (vo : Value) (out : List S70) (r : List S70 × Int) (w : World), Below w0.heap.size w0 w → Kd.R k70 70 w w0.heap.size (fun _ => True) vo out → todoL H t k i out = some r →
 Calls Try.prog 63 #[.slice A t.length c, .int .i64 i, vo, .func (.func 75) #[] #[.pointer (some ⟨pb, 0, none⟩)]] w fun e w' => ∃ v0 : Value, e = .returned (.tuple #[v0, .int .i64 r.2]) ∧ Kd.R k70 70 w' w0.heap.size (fun _ => True) v0 r.1 ∧ Below w0.heap.size w0 w' ∧ KT 70 w w' := by
 induction k with
 | zero => intro i vo out r w hb ho h; simp [todoL] at h
 | succ k ih =>
  intro i vo out r w hb ho h
  have HT := Aside0.mk ht
  have IH := Aside0.mk ih
  have HHC := Aside0.mk HC
  obtain ⟨Ao, co, rfl⟩ := Kd.R_slice ho
  have HO := Aside0.mk ho
  have HB := Aside0.mk hb
  have HKT := Aside0.mk (KT.refl 70 w)
  have HM := Aside0.mk (show (t.length : Int) ≤ 9223372036854775807 by have := ht.2.1; omega)
  rw [todoL] at h
  by_cases hi : 0 ≤ i ∧ i < (t.length : Int)
  case neg => rw [if_neg hi] at h; cases h
  rw [if_pos hi] at h
  obtain ⟨ad, rfl, hx0, hx1⟩ := at_T54 (Kd.C_below ht hb) i hi.1 hi.2
  generalize rd_T54 t i = cc at hx0 hx1 h
  have hpp := eq_true hi.1
  have hqq := eq_true hi.2
  have hwr : wrap64 (i + 1) = i + 1 := by have := HM.out; unfold wrap64; omega
  have HX := Aside0.mk hi
  have H0 := Aside0.mk h
  clear ho hb ih ht h HC
  have HF := fun (W : World) (hW : Below w0.heap.size w0 W) => HHC.out cc.f0 W hW
  clear hi
  by_cases h1 : (H cc.f0).length > 0
  ·
   have h := H0.out
   rw [if_pos h1] at h
   by_cases h2 : out.length < 2513169434900
   case neg => rw [if_neg h2] at h; cases h
   rw [if_pos h2] at h
   obtain rfl := Option.some.inj h
   have HN := Aside0.mk h2
   have hd : decide (0 < ((H cc.f0).length : Int)) = true := decide_eq_true (by omega)
   have hd2 : decide (0 < (H cc.f0).length) = true := decide_eq_true h1
   have hp1 : 0 < (H cc.f0).length := h1
   clear h h2 H0
   generalize H cc.f0 = hv at HF hd hd2 h1 hp1 ⊢
   go_enter Try.func63, Try.ntmps63
   go_wp2_with (first | (go_at_call 75; (with_reducible refine (HF _ ?side1).mono ?_); (case side1 => exact (zq HB.out)); rintro e w1 ⟨v1, rfl, hr1, hb1⟩; obtain ⟨A1, c1, rfl⟩ := Kd.R_slice hr1; have HR1 := Aside0.mk (Kd.R_lower hr1 ((zq HB.out) : Below w0.heap.size w0 _).size); have n0_ := Aside0.mk (Kd.R_below (zr HO.out) hb1); have n1_ := Aside0.mk (below_trB (zq HB.out) (below_less hb1 ((zq HB.out) : Below w0.heap.size w0 _).size)); have n2_ := Aside0.mk (KT.below (KT.below HKT.out zg) hb1); clear HO HB HKT hr1 hb1; have HO := n0_; have HB := n1_; have HKT := n2_; clear n0_ n1_ n2_) | (at_builtin; (with_reducible refine gate_builtin (b := .append) (xs := #[.tmp 25, .tmp 28]) rfl ?_); refine Kd.R_append k70 (w0 := w0) w0.heap.size rfl (.tmp 25) (.tmp 28) 24 70 (.agg #[.int .i64 0, .string ⟨#[]⟩, .int .i64 0, .slice none 0 0]) 56 rfl Try.underlying24 info70 rfl (by decide) (by decide) (Value.slice Ao out.length co) out (⟨2, z54, hv⟩ : S70) [.int .i64 2, .string ⟨#[]⟩, .int .i64 0, .slice A1 hv.length c1] (fun _ => True) (fun k => True ∧ some k ≠ (Value.slice Ao out.length co).ownBlock) rfl rfl ?aP (fun _ hk => hk) (fun _ _ => trivial) ?aO ?aB ?aS ?aL ?_; (case aP => exact k70_mkM _ _ _ (⟨2, z54, hv⟩ : S70) (Kd.R_apartR (zr HR1.out) (show Kd.R k70 70 _ w0.heap.size (fun _ => True) (.slice Ao out.length co) out from (zr HO.out)) (by decide))); (case aO => exact (zr HO.out)); (case aB => exact (zq HB.out)); (case aS => exact (show Below w0.heap.size w0 _ from (zq HB.out)).size); (case aL => have := HN.out; omega); intro v2 w4 ho hb hgr hat; obtain ⟨A2_, c2_, rfl⟩ := Kd.R_slice ho; have HO2 := Aside0.mk ho; have HB2 := Aside0.mk hb; have hk_ : KT 70 w w4 := (by refine KT.grown (d := k70) (B := w0.heap.size) (ok := fun _ => True) (xs := out) ?_ ?_ hgr; exact (KT.below HKT.out zg); exact (zr HO.out)); have HK2 := Aside0.mk hk_; clear hk_; clear ho hb hgr hat))
   go_ret2
   exact ⟨_, rfl, by have h_ := HO2.out; simp only [List.length_append, List.length_cons, List.length_nil, Nat.zero_add] at h_; exact h_, HB2.out, HK2.out⟩
  ·
   have h := H0.out
   rw [if_neg h1] at h
   by_cases h4 : cc.f1 ≤ 4
   case neg => rw [if_neg h4] at h; cases h
   rw [if_pos h4] at h
   have HAR := Aside0.mk h4
   clear h4
   obtain ⟨⟨out', i'⟩, hn, h⟩ := Option.bind_eq_some_iff.mp h
   by_cases h2 : out'.length < 2513169434900
   case neg => rw [if_neg h2] at h; cases h
   rw [if_pos h2] at h
   obtain rfl := Option.some.inj h
   have HN := Aside0.mk h2
   have HH := Aside0.mk hn
   have hd : decide (0 < ((H cc.f0).length : Int)) = false := decide_eq_false (by omega)
   have hd2 : decide (0 < (H cc.f0).length) = false := decide_eq_false h1
   have hp1 : (H cc.f0).length = 0 := by omega
   clear h h2 H0 hn
   generalize hgv : H cc.f0 = hv at HF hd hd2 h1 hp1
   obtain rfl : hv = [] := List.eq_nil_of_length_eq_zero hp1
   clear h1 hp1 hgv
   go_enter Try.func63, Try.ntmps63
   go_wp2_with (first | (go_at_call 75; (with_reducible refine (HF _ ?side1).mono ?_); (case side1 => exact (zq HB.out)); rintro e w1 ⟨v1, rfl, hr1, hb1⟩; obtain ⟨A1, c1, rfl⟩ := Kd.R_slice hr1; have n0_ := Aside0.mk (Kd.R_below (zr HO.out) hb1); have n1_ := Aside0.mk (below_trB (zq HB.out) (below_less hb1 ((zq HB.out) : Below w0.heap.size w0 _).size)); have hk1 := pw_cell_below hb1 ((blk_cell (heap_alloc_new w (.cells #[.string cc.f0, .int .i64 cc.f1] 54)) 0).trans rfl); have hk2 := pw_cell_below hb1 ((blk_cell (heap_alloc_new w (.cells #[.string cc.f0, .int .i64 cc.f1] 54)) 1).trans rfl); have HK := Aside0.mk (hb1.block w.heap.size (by simp)); have n2_ := Aside0.mk (KT.below (KT.below HKT.out zg) hb1); clear HO HB HKT hr1 hb1; have HO := n0_; have HB := n1_; have HKT := n2_; clear n0_ n1_ n2_))
   go_loopg [1, 2, 33] cc.f1.toNat (fun kq v1 v2 v33 w' => ∃ (j a : Int) (o : List S70) (Ao2 : Option Addr) (co2 : Nat), v1 = .int .i64 a ∧ v2 = .slice Ao2 o.length co2 ∧ v33 = .int .i64 j ∧ Aside0 (0 ≤ j ∧ j + kq = (cc.f1.toNat : Int)) ∧ Aside0 (todoN (todoL H t k) kq a o = some (out', i')) ∧ Aside0 (Kd.R k70 70 w' w0.heap.size (fun _ => True) (.slice Ao2 o.length co2) o) ∧ Aside0 (Below w0.heap.size w0 w') ∧ Aside0 (KT 70 w w') ∧ Aside0 (w'.heap[w.heap.size]? = some (.cells #[.string cc.f0, .int .i64 cc.f1] 54 (0, 0))))
   case atStart => exact ⟨0, i + 1, out, _, _, rfl, rfl, rfl, ⟨by omega⟩, HH, HO, HB, HKT, ⟨HK.out.trans (heap_alloc_new w _)⟩⟩
   case round =>
    clear HO HB HKT HH HK hk1 hk2
    obtain ⟨j, a, o, Ao2, co2, rfl, rfl, rfl, HI, HH, HO, HB, HKT, HK⟩ := hrel
    cases gk with
    | succ k1 =>
     have hj : 0 ≤ j ∧ j < cc.f1 := by have := HI.out; omega
     have hd3 : decide (j < cc.f1) = true := decide_eq_true hj.2
     have HJ := Aside0.mk hj
     have h := HH.out
     rw [todoN] at h
     obtain ⟨⟨o2, a2⟩, hf, h⟩ := Option.bind_eq_some_iff.mp h
     have HH2 := Aside0.mk h
     have I1 := fun (W : World) (hW : Below w0.heap.size w0 W) (hr : Kd.R k70 70 W w0.heap.size (fun _ => True) (.slice Ao2 o.length co2) o) => IH.out a _ o _ W hW hr hf
     have hjw : wrap64 (j + 1) = j + 1 := by
      have := HAR.out
      unfold wrap64; omega
     clear h hf hj
     go_wp2_with (first | (go_at_call 63; (with_reducible refine (I1 _ ?side1 ?side2).mono ?_); (case side1 => exact (zq HB.out)); (case side2 => exact (zr HO.out)); rintro e w2 ⟨v2, rfl, hr2, hb2, hk2⟩; obtain ⟨A2, c2, rfl⟩ := Kd.R_slice hr2; have HO2 := Aside0.mk hr2; have HB2 := Aside0.mk hb2; have HKT2 := Aside0.mk (KT.trans (KT.below HKT.out zg) hk2); have HK2 := Aside0.mk (KT.blk hk2 HK.out (by decide)); clear hr2 hb2 hk2))
     go_roundg k1
     case measure => have := HI.out; omega
     case rel => exact ⟨j + 1, a2, o2, _, _, rfl, rfl, by first | rfl | rw [hjw], ⟨by have := HI.out; have := HJ.out; omega⟩, HH2, HO2, HB2, HKT2, HK2⟩
    | zero =>
     have hj : ¬ j < cc.f1 := by have := HI.out; omega
     have hd3 : decide (j < cc.f1) = false := decide_eq_false hj
     have h := HH.out
     rw [todoN] at h
     obtain ⟨rfl, rfl⟩ := Prod.mk.inj (Option.some.inj h)
     have hk3 := (blk_cell HK.out 0).trans rfl
     have hk4 := (blk_cell HK.out 1).trans rfl
     clear h hj HH
     go_wp2_with (first | (at_builtin; (with_reducible refine gate_builtin (b := .append) (xs := #[.tmp 44, .tmp 47]) rfl ?_); refine Kd.R_append k70 (w0 := w0) w0.heap.size rfl (.tmp 44) (.tmp 47) 24 70 (.agg #[.int .i64 0, .string ⟨#[]⟩, .int .i64 0, .slice none 0 0]) 56 rfl Try.underlying24 info70 rfl (by decide) (by decide) (Value.slice Ao2 o.length co2) o (⟨1, cc, []⟩ : S70) [.int .i64 1, .string cc.f0, .int .i64 cc.f1, .slice none 0 0] (fun _ => True) (fun k => True ∧ some k ≠ (Value.slice Ao2 o.length co2).ownBlock) rfl rfl ?aP (fun _ hk => hk) (fun _ _ => trivial) ?aO ?aB ?aS ?aL ?_; (case aP => exact k70_mkM _ _ _ (⟨1, cc, []⟩ : S70) (Kd.R_nil _ _ _ _ _)); (case aO => exact (zr HO.out)); (case aB => exact (zq HB.out)); (case aS => exact (show Below w0.heap.size w0 _ from (zq HB.out)).size); (case aL => have := HN.out; omega); intro v2 w4 ho hb hgr hat; obtain ⟨A2_, c2_, rfl⟩ := Kd.R_slice ho; have HO2 := Aside0.mk ho; have HB2 := Aside0.mk hb; have hk_ : KT 70 w w4 := (by refine KT.grown (d := k70) (B := w0.heap.size) (ok := fun _ => True) (xs := o) ?_ ?_ hgr; exact (KT.below HKT.out zg); exact (zr HO.out)); have HK2 := Aside0.mk hk_; clear hk_; clear ho hb hgr hat))
     go_ret2
     exact ⟨_, rfl, by have h_ := HO2.out; simp only [List.length_append, List.length_cons, List.length_nil, Nat.zero_add] at h_; exact h_, HB2.out, HK2.out⟩

-- ==== Rw4
def Turning (xs cur : List S70) (i j : Int) : Prop := cur.length = xs.length ∧ ∀ m : Nat, m < xs.length → cur[m]? = if (m : Int) < i ∨ (m : Int) > j then xs[xs.length - 1 - m]? else xs[m]?
theorem turning_done {xs cur : List S70} {i j : Int} (h : Turning xs cur i j) (hij : i + j = (xs.length : Int) - 1) (hd : ¬ i < j) : cur = xs.reverse := by
 apply List.ext_getElem?
 intro m
 rcases Nat.lt_or_ge m xs.length with hm | hm
 ·
  rw [h.2 m hm, List.getElem?_reverse hm]
  split
  ·
   rfl
  ·
   rename_i hn
   have : m = xs.length - 1 - m := by omega
   rw [← this]
 ·
  rw [List.getElem?_eq_none (by rw [h.1]; exact hm), List.getElem?_eq_none (by simpa using hm)]
theorem turning_step {xs cur : List S70} {i j : Int} (h : Turning xs cur i j) (hij : i + j = (xs.length : Int) - 1) (h0 : 0 ≤ i) (hd : i < j) :
 Turning xs ((cur.set i.toNat (rd_T70 cur j)).set j.toNat (rd_T70 cur i)) (i + 1) (j - 1) := by
 refine ⟨by simp [h.1], fun m hm => ?_⟩
 have hl := h.1
 have hi : i.toNat < cur.length := by omega
 have hj : j.toNat < cur.length := by omega
 have hri : some (rd_T70 cur i) = xs[xs.length - 1 - j.toNat]? := by
  have := h.2 i.toNat (by omega)
  rw [if_neg (by omega)] at this
  rw [show xs.length - 1 - j.toNat = i.toNat by omega, ← this]
  simp [rd_T70, List.getD_eq_getElem?_getD, hi]
 have hrj : some (rd_T70 cur j) = xs[xs.length - 1 - i.toNat]? := by
  have := h.2 j.toNat (by omega)
  rw [if_neg (by omega)] at this
  rw [show xs.length - 1 - i.toNat = j.toNat by omega, ← this]
  simp [rd_T70, List.getD_eq_getElem?_getD, hj]
 by_cases e1 : m = j.toNat
 ·
  subst e1
  rw [List.getElem?_set_self (by simpa using hj), if_pos (by omega)]
  exact hri
 ·
  rw [List.getElem?_set_ne (Ne.symm e1)]
  by_cases e2 : m = i.toNat
  ·
   subst e2
   rw [List.getElem?_set_self hi, if_pos (by omega)]
   exact hrj
  ·
   rw [List.getElem?_set_ne (Ne.symm e2), h.2 m hm]
   by_cases c : (m : Int) < i ∨ (m : Int) > j
   ·
    rw [if_pos c, if_pos (by omega)]
   ·
    rw [if_neg c, if_neg (by omega)]
theorem rev_calls {B : Nat} {w : World} {A : Option Addr} {c : Nat} {xs : List S70} (hr : Kd.R k70 70 w B (fun _ => True) (.slice A xs.length c) xs) :
 Calls Try.prog 64 #[.slice A xs.length c] w fun e w' => e = .returned (.tuple #[]) ∧ Kd.R k70 70 w' B (fun _ => True) (.slice A xs.length c) xs.reverse ∧ Below B w w' ∧ KT 70 w w' := by
 have HO := Aside0.mk hr
 have HB := Aside0.mk (Below.refl B w)
 have HKT := Aside0.mk (KT.refl 70 w)
 have HM := Aside0.mk (show (xs.length : Int) ≤ 9223372036854775807 by have := (Kd.R_reads' hr).2.2.2.1; omega)
 have hw0 : wrap64 ((xs.length : Int) - 1) = (xs.length : Int) - 1 := by have := HM.out; unfold wrap64; omega
 clear hr
 go_enter Try.func64, Try.ntmps64
 go_wp2
 go_loopg [2, 3] (xs.length / 2) (fun kq v2 v3 w' => ∃ (i j : Int) (cur : List S70), v2 = .int .i64 i ∧ v3 = .int .i64 j ∧ Aside0 (0 ≤ i ∧ i + j = (xs.length : Int) - 1 ∧ (kq : Int) = (j - i + 1) / 2 ∧ i ≤ j + 1) ∧ Aside0 (Turning xs cur i j) ∧ Aside0 (Kd.R k70 70 w' B (fun _ => True) (.slice A xs.length c) cur) ∧ Aside0 (Below B w w') ∧ Aside0 (KT 70 w w'))
 case atStart => exact ⟨0, (xs.length : Int) - 1, xs, rfl, by first | rfl | rw [hw0], ⟨by omega⟩, ⟨rfl, fun m hm => by rw [if_neg (by omega)]⟩, HO, HB, HKT⟩
 case round =>
  clear HO HB HKT hw0
  obtain ⟨i, j, cur, rfl, rfl, HI, HT, HO, HB, HKT⟩ := hrel
  cases gk with
  | succ k1 =>
   have hi : 0 ≤ i ∧ i < j ∧ j < (xs.length : Int) ∧ i < (xs.length : Int) ∧ 0 ≤ j := by have := HI.out; omega
   have hcl := HT.out.1
   obtain ⟨g, cap, eg, hge, hgl, _⟩ := Kd.R_form HO.out (by omega)
   injection eg with ea el ec
   clear el
   subst ea ec
   obtain ⟨ci, hcli, hMi, hcci, hfri⟩ := Kd.R_elem HO.out z70 i hi.1 (by omega)
   obtain ⟨vi, rfl, hRi⟩ := k70_openM hMi
   obtain ⟨Ai, di, rfl⟩ := Kd.R_slice hRi
   obtain ⟨cj, hclj, hMj, hccj, hfrj⟩ := Kd.R_elem HO.out z70 j hi.2.2.2.2 (by omega)
   obtain ⟨vj, rfl, hRj⟩ := k70_openM hMj
   obtain ⟨Aj, dj, rfl⟩ := Kd.R_slice hRj
   have HEI := Aside0.mk (show Kd.M k70 wr B (fun k => True ∧ k ≠ g) (rd_T70 cur i) [.int .i64 (rd_T70 cur i).f0, .string (rd_T70 cur i).f1.f0, .int .i64 (rd_T70 cur i).f1.f1, .slice Ai (rd_T70 cur i).f2.length di] from hMi)
   have HEJ := Aside0.mk (show Kd.M k70 wr B (fun k => True ∧ k ≠ g) (rd_T70 cur j) [.int .i64 (rd_T70 cur j).f0, .string (rd_T70 cur j).f1.f0, .int .i64 (rd_T70 cur j).f1.f1, .slice Aj (rd_T70 cur j).f2.length dj] from hMj)
   have i0 : wr.cell? ⟨g, i.toNat * 4, none⟩ = some (.int .i64 (rd_T70 cur i).f0) := hcci 0 _ rfl
   have i1 : wr.cell? ⟨g, i.toNat * 4 + 1, none⟩ = some (.string (rd_T70 cur i).f1.f0) := hcci 1 _ rfl
   have i2 : wr.cell? ⟨g, i.toNat * 4 + 2, none⟩ = some (.int .i64 (rd_T70 cur i).f1.f1) := hcci 2 _ rfl
   have i3 : wr.cell? ⟨g, i.toNat * 4 + 3, none⟩ = some (.slice Ai (rd_T70 cur i).f2.length di) := hcci 3 _ rfl
   have j0 : wr.cell? ⟨g, j.toNat * 4, none⟩ = some (.int .i64 (rd_T70 cur j).f0) := hccj 0 _ rfl
   have j1 : wr.cell? ⟨g, j.toNat * 4 + 1, none⟩ = some (.string (rd_T70 cur j).f1.f0) := hccj 1 _ rfl
   have j2 : wr.cell? ⟨g, j.toNat * 4 + 2, none⟩ = some (.int .i64 (rd_T70 cur j).f1.f1) := hccj 2 _ rfl
   have j3 : wr.cell? ⟨g, j.toNat * 4 + 3, none⟩ = some (.slice Aj (rd_T70 cur j).f2.length dj) := hccj 3 _ rfl
   have HCI := Aside0.mk (show ∀ (q : Nat) (u : Value), [Value.int .i64 (rd_T70 cur i).f0, .string (rd_T70 cur i).f1.f0, .int .i64 (rd_T70 cur i).f1.f1, .slice Ai (rd_T70 cur i).f2.length di][q]? = some u → wr.cell? ⟨g, i.toNat * 4 + q, none⟩ = some u from hcci)
   have HFI := Aside0.mk hfri
   have HFJ := Aside0.mk hfrj
   have HX := Aside0.mk hi
   have HGB := Aside0.mk (show B ≤ g ∧ g < wr.heap.size from ⟨hge, hgl⟩)
   have HLEN := Aside0.mk hcl
   have hb0 : decide (i < j) = true := decide_eq_true hi.2.1
   have t0 := eq_true hi.1
   have t1 := eq_true hi.2.2.1
   have t2 := eq_true hi.2.2.2.1
   have t3 := eq_true hi.2.2.2.2
   have f0 : ∀ b, wr.frozen? ⟨g, b, none⟩ = false := fun b => by
    obtain ⟨cells, hc⟩ := Kd.R_typed HO.out g (by simp [Value.ownBlock])
    exact blk_frozen hc b
   clear hcci hccj hfri hfrj hMi hMj hRi hRj hcli hclj hcl hi
   obtain ⟨ei, hei⟩ : ∃ ei, ei = rd_T70 cur i := ⟨_, rfl⟩
   obtain ⟨ej, hej⟩ : ∃ ej, ej = rd_T70 cur j := ⟨_, rfl⟩
   rw [← hei] at i0 i1 i2 i3 HEI HCI
   rw [← hej] at j0 j1 j2 j3 HEJ
   have HEI2 := Aside0.mk hei.symm
   have HEJ2 := Aside0.mk hej.symm
   clear hei hej
   have hn1 : ¬ (i.toNat = j.toNat) := by have := HX.out; omega
   have hn2 : ¬ (j.toNat = i.toNat) := by have := HX.out; omega
   go_wp2
   go_region
   have s1 := Kd.R_seg (okp := fun k => True ∧ k ≠ g) HO.out i HX.out.1 HX.out.2.2.2.1 (seg := [.int .i64 ej.f0, .string ej.f1.f0, .int .i64 ej.f1.f1, .slice Aj ej.f2.length dj]) (j := 0) rfl HCI.out (Nat.le_refl 4) (x' := ej) HEJ.out (fun _ hk => hk)
   obtain ⟨c2, hcl2, _, hcc2, _⟩ := Kd.R_elem s1.1 z70 j HX.out.2.2.2.2 HX.out.2.2.1
   have s2 := Kd.R_seg (okp := fun k => True ∧ k ≠ g) s1.1 j HX.out.2.2.2.2 HX.out.2.2.1 (seg := [.int .i64 ei.f0, .string ei.f1.f0, .int .i64 ei.f1.f1, .slice Ai ei.f2.length di]) (j := 0) hcl2 hcc2 (Nat.le_refl 4) (x' := ei) (by
    have e_ : c2.drop (0 + 4) = [] := List.drop_eq_nil_of_le (by rw [hcl2]; exact Nat.le_refl 4)
    rw [show (0 : Nat) + [Value.int .i64 ei.f0, .string ei.f1.f0, .int .i64 ei.f1.f1, .slice Ai ei.f2.length di].length = 0 + 4 from rfl, e_]
    rw [List.append_nil]
    exact Kd.M_grown HEI.out s1.2 (fun k hk he => hk.2 (by injection he))) (fun _ hk => hk)
   have HO2 := Aside0.mk (Kd.R_drew s2.1)
   have HGR := Aside0.mk (World.grownBy.trans s1.2 s2.2)
   have HK2 := Aside0.mk (KT.drew (KT.grown HKT.out HO.out (by simpa [Value.ownBlock] using HGR.out)))
   have HB2 := Aside0.mk (below_drew1 (HB.out.grown HGR.out (Nat.le_trans HGB.out.1 (Nat.le_of_lt HGB.out.2)) (fun k hk => by injection hk with hk; rw [← hk]; exact HGB.out.1)))
   clear s1 s2 hcl2 hcc2
   go_wp2
   go_roundg k1
   case measure => have := HI.out; omega
   case rel => exact ⟨i + 1, j - 1, _, by have e_ : wrap64 (i + 1) = i + 1 := (by have := HX.out; have := HM.out; unfold wrap64; omega); first | rfl | rw [e_] | (simp [e_]; done), by have e_ : wrap64 (j - 1) = j - 1 := (by have := HX.out; have := HM.out; unfold wrap64; omega); first | rfl | rw [e_] | (simp [e_]; done), ⟨by have := HI.out; omega⟩, ⟨turning_step HT.out HI.out.2.1 HX.out.1 HX.out.2.1⟩, by rw [HEI2.out, HEJ2.out]; exact HO2, HB2, HK2⟩
  | zero =>
   have hb0 : decide (i < j) = false := decide_eq_false (by have := HI.out; omega)
   have hcx := turning_done HT.out HI.out.2.1 (by have := HI.out; omega)
   subst hcx
   go_wp2
   (first | refine bodyPost_ret (results_none rfl _ _ _) rfl ?_ | refine bodyPost_end (results_none rfl _ _ _) rfl ?_)
   exact ⟨rfl, HO.out, HB.out, HKT.out⟩

-- ==== Rw5
theorem set4_blk {W : World} {b : Nat} {a1 a2 a3 a4 : Value} (h : W.heap[b]? = some (.cells #[a1, a2, a3, a4] 28 (0, 0))) (b1 b2 b3 b4 : Value) :
 ((((W.setCell ⟨b, 0, none⟩ b1).setCell ⟨b, 1, none⟩ b2).setCell ⟨b, 2, none⟩ b3).setCell ⟨b, 3, none⟩ b4).heap[b]? = some (.cells #[b1, b2, b3, b4] 28 (0, 0)) := by
 refine blk_put (cs := #[b1, b2, b3, a4]) ?_ 3 _ rfl
 refine blk_put (cs := #[b1, b2, a3, a4]) ?_ 2 _ rfl
 refine blk_put (cs := #[b1, a2, a3, a4]) ?_ 1 _ rfl
 exact blk_put (cs := #[a1, a2, a3, a4]) h 0 _ rfl
theorem set4_R {α : Type} {d : Kd α} {e B b : Nat} {ok : Nat → Prop} {W : World} {v : Value} {xs : List α} {cs : Array Value} (h : d.R e W B ok v xs) (hb : W.heap[b]? = some (.cells cs 28 (0, 0))) (ht : ∀ q, q ∈ e :: d.E → q ≠ 28) (b1 b2 b3 b4 : Value) :
 d.R e ((((W.setCell ⟨b, 0, none⟩ b1).setCell ⟨b, 1, none⟩ b2).setCell ⟨b, 2, none⟩ b3).setCell ⟨b, 3, none⟩ b4) B ok v xs :=
 Kd.R_mono (Kd.R_far (p := ⟨b, 3, none⟩) (Kd.R_far (p := ⟨b, 2, none⟩) (Kd.R_far (p := ⟨b, 1, none⟩) (Kd.R_far (p := ⟨b, 0, none⟩) (Kd.R_types h hb ht) (fun _ hk => hk.2) _) (fun _ hk => hk.2) _) (fun _ hk => hk.2) _) (fun _ hk => hk.2) _) (fun _ hk => hk.1)
theorem set4_below {B b : Nat} {w W : World} (h : Below B w W) (hb : B ≤ b) (b1 b2 b3 b4 : Value) : Below B w ((((W.setCell ⟨b, 0, none⟩ b1).setCell ⟨b, 1, none⟩ b2).setCell ⟨b, 2, none⟩ b3).setCell ⟨b, 3, none⟩ b4) :=
 (((h.setCell (p := ⟨b, 0, none⟩) hb _).setCell (p := ⟨b, 1, none⟩) hb _).setCell (p := ⟨b, 2, none⟩) hb _).setCell (p := ⟨b, 3, none⟩) hb _
def StEnd (B : Nat) (w' : World) (v0 v1 v3 : Value) (ops : List S70) (vals : List (List S54)) (hd : List ByteArray) : Prop :=
 Kd.N k70 70 w' B (fun k_ => (B ≤ k_) ∧ some k_ ≠ (v1 : Value).ownBlock ∧ some k_ ≠ (v3 : Value).ownBlock) v0 ops ∧ Kd.N (Kd.slice 54 k54) 23 w' B (fun k_ => (B ≤ k_) ∧ some k_ ≠ (v0 : Value).ownBlock ∧ some k_ ≠ (v3 : Value).ownBlock) v1 vals ∧ Kd.R Kd.string 9 w' B (fun k_ => (B ≤ k_)) v3 hd
theorem stEnd_of {B : Nat} {w' : World} {v0 v1 v3 : Value} {ops : List S70} {vals : List (List S54)} {hd : List ByteArray} (h0 : Kd.R k70 70 w' B (fun _ => True) v0 ops) (h1 : Kd.R (Kd.slice 54 k54) 23 w' B (fun _ => True) v1 vals) (h3 : Kd.R Kd.string 9 w' B (fun _ => True) v3 hd) : StEnd B w' v0 v1 v3 ops vals hd :=
 ⟨Kd.N_mono (Kd.R_N (Kd.R_bound (Kd.R_apartR (Kd.R_apartR h0 h1 (by decide)) h3 (by decide)))) (fun k hk => ⟨hk.2.1, hk.1.1.2, hk.1.2⟩),
  Kd.N_mono (Kd.R_N (Kd.R_bound (Kd.R_apartR (Kd.R_apartR h1 h0 (by decide)) h3 (by decide)))) (fun k hk => ⟨hk.2.1, hk.1.1.2, hk.1.2⟩),
  Kd.R_mono (Kd.R_bound h3) (fun k hk => hk.2.1)⟩
theorem stEnd_nil (B : Nat) (w' : World) : StEnd B w' (.slice none 0 0) (.slice none 0 0) (.slice none 0 0) [] [] [] := stEnd_of (Kd.R_nil _ _ _ _ _) (Kd.R_nil _ _ _ _ _) (Kd.R_nil _ _ _ _ _)

theorem ops_calls0 {w : World} {A : Option Addr} {c k : Nat} {t : List S54} {H : ByteArray → List S54} {out : List S70} {i : Int} (ht : Kd.C k54 w A t.length t) (hc : t.length ≤ c)
 (HC : ∀ (s : ByteArray) (W : World), Below w.heap.size w W → Calls Try.prog 33 #[.string s] W fun e W' => ∃ v0 : Value, e = .returned v0 ∧ Kd.R k54 54 W' W.heap.size (fun _ => True) v0 (H s) ∧ Below W.heap.size W W') (h : todoL H t k 0 [] = some (out, i)) :
 Calls Try.prog 32 #[.slice A t.length c, .func (.func 33) #[] #[]] w fun e w' => ∃ v0 : Value, e = .returned v0 ∧ Kd.R k70 70 w' w.heap.size (fun _ => True) v0 out.reverse ∧ Below w.heap.size w w' := by
 have T1 := todo_calls0 ht hc HC k 0 (.slice none 0 0) [] (out, i) w (Below.refl _ _) (Kd.R_nil _ _ _ _ _) h
 clear ht hc HC h
 go_enter Try.func32, Try.ntmps32
 go_wp2_with (first | (go_at_call 63; (with_reducible refine T1.mono ?_); rintro e w1 ⟨v1, rfl, hr1, hb1, _⟩; obtain ⟨A1, c1, rfl⟩ := Kd.R_slice hr1; have HR1 := Aside0.mk hr1; have HB1 := Aside0.mk hb1; have V1 := rev_calls hr1; clear hr1 hb1) | (go_at_call 64; (with_reducible refine V1.mono ?_); rintro e w2 ⟨rfl, hr2, hb2, _⟩; have HR2 := Aside0.mk hr2; have HB2 := Aside0.mk (below_trB HB1.out hb2); clear hr2 hb2))
 go_ret
 exact ⟨_, rfl, HR2.out, HB2.out⟩

theorem ops_calls1 {w : World} {A : Option Addr} {c k : Nat} {t : List S54} {H : ByteArray → List S54} {out : List S70} {i : Int} {pb : Nat} (ht : Kd.C k54 w A t.length t) (hc : t.length ≤ c)
 (HC : ∀ (s : ByteArray) (W : World), Below w.heap.size w W → Calls Try.prog 75 #[.string s, .pointer (some ⟨pb, 0, none⟩)] W fun e W' => ∃ v0 : Value, e = .returned v0 ∧ Kd.R k54 54 W' W.heap.size (fun _ => True) v0 (H s) ∧ Below W.heap.size W W') (h : todoL H t k 0 [] = some (out, i)) :
 Calls Try.prog 32 #[.slice A t.length c, .func (.func 75) #[] #[.pointer (some ⟨pb, 0, none⟩)]] w fun e w' => ∃ v0 : Value, e = .returned v0 ∧ Kd.R k70 70 w' w.heap.size (fun _ => True) v0 out.reverse ∧ Below w.heap.size w w' := by
 have T1 := todo_calls1 ht hc HC k 0 (.slice none 0 0) [] (out, i) w (Below.refl _ _) (Kd.R_nil _ _ _ _ _) h
 clear ht hc HC h
 go_enter Try.func32, Try.ntmps32
 go_wp2_with (first | (go_at_call 63; (with_reducible refine T1.mono ?_); rintro e w1 ⟨v1, rfl, hr1, hb1, _⟩; obtain ⟨A1, c1, rfl⟩ := Kd.R_slice hr1; have HR1 := Aside0.mk hr1; have HB1 := Aside0.mk hb1; have V1 := rev_calls hr1; clear hr1 hb1) | (go_at_call 64; (with_reducible refine V1.mono ?_); rintro e w2 ⟨rfl, hr2, hb2, _⟩; have HR2 := Aside0.mk hr2; have HB2 := Aside0.mk (below_trB HB1.out hb2); clear hr2 hb2))
 go_ret
 exact ⟨_, rfl, HR2.out, HB2.out⟩

theorem rwst1_calls (s : ByteArray) (W : World) : Calls Try.prog 33 #[.string s] W fun e W' => ∃ v0 : Value, e = .returned v0 ∧ Kd.R k54 54 W' W.heap.size (fun _ => True) v0 ((fun _ => []) s) ∧ Below W.heap.size W W' := by
 go_enter Try.func33, Try.ntmps33
 go_wp2
 go_ret
 exact ⟨_, rfl, Kd.R_nil _ _ _ _ _, Below.refl _ _⟩
def startF (k : Nat) (t : List S54) : Option (List S70 × List (List S54) × Int × List ByteArray × Int) :=
 (term_Check.f k t).bind fun e => if e = 0 then ((rewrite_ground.f k t).bind fun g => if g = true then ((todoL (fun _ => []) t k 0 []).bind fun r => some (r.1.reverse, [], 0, [], 0)) else some ([], [], 0, [], 7)) else some ([], [], 0, [], e)
theorem start_calls (k : Nat) (A : Option Addr) (c : Nat) (t : List S54) (r1 : List S70) (r2 : List (List S54)) (r3 : Int) (r4 : List ByteArray) (r5 : Int) (w : World) (ht : Kd.C k54 w A t.length t) (hc : t.length ≤ c) (h : startF k t = some (r1, r2, r3, r4, r5)) :
 Calls Try.prog 12 #[.slice A t.length c] w fun e w' => ∃ v0 v1 v3 : Value, e = .returned (.tuple #[.agg #[v0, v1, .int .i64 r3, v3], .int .i64 r5]) ∧ StEnd w.heap.size w' v0 v1 v3 r1 r2 r4 ∧ Below w.heap.size w w' := by
 unfold startF at h
 obtain ⟨e, he, h⟩ := Option.bind_eq_some_iff.mp h
 have T1 := fun W (hW : Below w.heap.size w W) => term_Check.calls k A c t e W (Kd.C_below ht hW) hc he
 have HB := Aside0.mk (Below.refl w.heap.size w)
 clear he
 by_cases c0 : e = 0
 case neg =>
  rw [if_neg c0] at h
  simp only [Option.some.injEq, Prod.mk.injEq] at h
  obtain ⟨rfl, rfl, rfl, rfl, rfl⟩ := h
  have d0 : (e != 0) = true := bne_iff_ne.mpr c0
  clear c0 ht
  go_enter Try.func12, Try.ntmps12
  go_wp2_with (first | (go_at_call 30; (with_reducible refine (T1 _ ?side1).mono ?_); (case side1 => exact (zq HB.out)); rintro e w1 ⟨rfl, hb⟩; have hz := (hb.block w.heap.size (by simp)).trans (heap_alloc_new w _); obtain ⟨q0, q1, q2, q3⟩ := zc4 hz; obtain ⟨f0, f1, f2, f3⟩ := zf4 hz; have HK := Aside0.mk hz; have n0_ := Aside0.mk (below_step (below_alloc HB.out _) hb); clear HB hb hz; have HB := n0_; clear n0_))
  refine bodyPost_ret (results_ct rfl _ _ w.heap.size 28 _ (0, 0) _ rfl (set4_blk HK.out _ _ _ _) Try.underlying28 rfl (by kernel_rfl)) rfl ?_
  exact ⟨_, _, _, rfl, stEnd_nil _ _, set4_below HB.out (Nat.le_refl _) _ _ _ _⟩
 case pos =>
  subst c0
  rw [if_pos rfl] at h
  obtain ⟨g, hg, h⟩ := Option.bind_eq_some_iff.mp h
  have G1 := fun W (hW : Below w.heap.size w W) => rewrite_ground.calls k A c t g W (Kd.C_below ht hW) hc hg
  clear hg
  by_cases c1 : g = true
  case neg =>
   rw [if_neg c1] at h
   simp only [Option.some.injEq, Prod.mk.injEq] at h
   obtain ⟨rfl, rfl, rfl, rfl, rfl⟩ := h
   obtain rfl : g = false := by simpa using c1
   clear c1 ht
   go_enter Try.func12, Try.ntmps12
   go_wp2_with (first | (go_at_call 30; (with_reducible refine (T1 _ ?side1).mono ?_); (case side1 => exact (zq HB.out)); rintro e w1 ⟨rfl, hb⟩; have hz := (hb.block w.heap.size (by simp)).trans (heap_alloc_new w _); obtain ⟨q0, q1, q2, q3⟩ := zc4 hz; obtain ⟨f0, f1, f2, f3⟩ := zf4 hz; have HK := Aside0.mk hz; have n0_ := Aside0.mk (below_step (below_alloc HB.out _) hb); clear HB hb hz; have HB := n0_; clear n0_) | (go_at_call 31; (with_reducible refine (G1 _ ?side2).mono ?_); (case side2 => exact (zq HB.out)); rintro e w2 ⟨rfl, hb⟩; have hz := (hb.block w.heap.size (blk_lt HK.out)).trans HK.out; clear HK q0 q1 q2 q3 f0 f1 f2 f3; obtain ⟨q0, q1, q2, q3⟩ := zc4 hz; obtain ⟨f0, f1, f2, f3⟩ := zf4 hz; have HK := Aside0.mk hz; have n0_ := Aside0.mk (below_step HB.out hb); clear HB hb hz; have HB := n0_; clear n0_))
   refine bodyPost_ret (results_ct rfl _ _ w.heap.size 28 _ (0, 0) _ rfl (set4_blk HK.out _ _ _ _) Try.underlying28 rfl (by kernel_rfl)) rfl ?_
   exact ⟨_, _, _, rfl, stEnd_nil _ _, set4_below HB.out (Nat.le_refl _) _ _ _ _⟩
  case pos =>
   subst c1
   rw [if_pos rfl] at h
   obtain ⟨⟨out, i⟩, ho, h⟩ := Option.bind_eq_some_iff.mp h
   simp only [Option.some.injEq, Prod.mk.injEq] at h
   obtain ⟨rfl, rfl, rfl, rfl, rfl⟩ := h
   have O1 := fun W (hW : Below w.heap.size w W) => ops_calls0 (w := W) (c := c) (Kd.C_below ht hW) hc (fun s W2 _ => rwst1_calls s W2) ho
   clear ho ht
   go_enter Try.func12, Try.ntmps12
   go_wp2_with (first | (go_at_call 30; (with_reducible refine (T1 _ ?side1).mono ?_); (case side1 => exact (zq HB.out)); rintro e w1 ⟨rfl, hb⟩; have hz := (hb.block w.heap.size (by simp)).trans (heap_alloc_new w _); obtain ⟨q0, q1, q2, q3⟩ := zc4 hz; obtain ⟨f0, f1, f2, f3⟩ := zf4 hz; have HK := Aside0.mk hz; have n0_ := Aside0.mk (below_step (below_alloc HB.out _) hb); clear HB hb hz; have HB := n0_; clear n0_) | (go_at_call 31; (with_reducible refine (G1 _ ?side2).mono ?_); (case side2 => exact (zq HB.out)); rintro e w2 ⟨rfl, hb⟩; have hz := (hb.block w.heap.size (blk_lt HK.out)).trans HK.out; clear HK q0 q1 q2 q3 f0 f1 f2 f3; obtain ⟨q0, q1, q2, q3⟩ := zc4 hz; obtain ⟨f0, f1, f2, f3⟩ := zf4 hz; have HK := Aside0.mk hz; have n0_ := Aside0.mk (below_step HB.out hb); clear HB hb hz; have HB := n0_; clear n0_) | (go_at_call 32; (with_reducible refine (O1 _ ?side3).mono ?_); (case side3 => exact (zq HB.out)); rintro e w3 ⟨v3, rfl, hr, hb⟩; obtain ⟨A3, c3, rfl⟩ := Kd.R_slice hr; have h3 := Kd.R_lower hr HB.out.size; rw [List.length_reverse] at h3; have HR3 := Aside0.mk h3; clear h3; have hz := (hb.block w.heap.size (blk_lt HK.out)).trans HK.out; clear HK q0 q1 q2 q3 f0 f1 f2 f3; obtain ⟨q0, q1, q2, q3⟩ := zc4 hz; obtain ⟨f0, f1, f2, f3⟩ := zf4 hz; have HK := Aside0.mk hz; have n0_ := Aside0.mk (below_step HB.out hb); clear HB hb hz hr; have HB := n0_; clear n0_))
   refine bodyPost_ret (results_ct rfl _ _ w.heap.size 28 _ (0, 0) _ rfl (set4_blk HK.out _ _ _ _) Try.underlying28 rfl (by kernel_rfl)) rfl ?_
   exact ⟨_, _, _, rfl, stEnd_of (set4_R HR3.out HK.out (by decide) _ _ _ _) (Kd.R_nil _ _ _ _ _) (Kd.R_nil _ _ _ _ _), set4_below HB.out (Nat.le_refl _) _ _ _ _⟩

-- ==== Rw6
theorem cloneT_same (m : List S54) (h : m.length < 5864062014805) : api_Cell_71.f m = some m := by
 unfold api_Cell_71.f
 rw [if_pos (by simpa using h)]
 rfl
theorem cloneS_same (m : List ByteArray) (h : m.length < 8796093022208) : slices_Clone_string_string.f m = some m := by
 unfold slices_Clone_string_string.f
 rw [if_pos (by simpa using h)]
 rfl
theorem cloneT_calls {A : Option Addr} {c : Nat} {t : List S54} {w : World} (hr : Kd.C k54 w A t.length t) (hc : t.length ≤ c) (h : t.length < 5864062014805) :
 Calls Try.prog 71 #[.slice A t.length c] w fun e w' => ∃ A' c', e = .returned (.slice A' t.length c') ∧ Kd.R k54 54 w' w.heap.size (fun _ => True) (.slice A' t.length c') t ∧ Below w.heap.size w w' := by
 refine (api_Cell_71.calls A c t t w hr hc (cloneT_same t h)).mono ?_
 rintro e w' ⟨v, rfl, hR, hb⟩
 obtain ⟨A', c', rfl⟩ := Kd.R_slice hR
 exact ⟨A', c', rfl, hR, hb⟩
end Go.Proofs.Ytdlkhpfgkghhmaa.P

-- ==== Rw7
namespace Go.Proofs.Ytdlkhpfgkghhmaa.P
open Go.RowKit Go.Shelf Go.Proofs.YtdlkhpfgkghhmaaW.PrintWords Go.Proofs.YtdlkhpfgkghhmaaW.PrintLast Go.Proofs.YtdlkhpfgkghhmaaW.PrintMore
def insRen : Go.Shelf.Ren := ⟨fun | 17 => 108 | 22 => 91 | 29 => 100 | 30 => 101 | 36 => 107 | n => n, fun | 24 => 26 | n => n, fun | n => n⟩
theorem insLays : Go.Proofs.Lays2.n22 Try.prog insRen := {
 mixed := by kernel_rfl
 f17 := Try.func108.trans (congrArg some (by kernel_rfl))
 f22 := Try.func91.trans (congrArg some (by kernel_rfl))
 f29 := Try.func100.trans (congrArg some (by kernel_rfl))
 f30 := Try.func101.trans (congrArg some (by kernel_rfl))
 f36 := Try.func107.trans (congrArg some (by kernel_rfl))
 t0 := Try.underlying0
 a0 := Try.isAgg0
 z0 := Try.sizeOf0
 v0 := Try.zeroValue0
 t3 := Try.underlying3
 a3 := Try.isAgg3
 z3 := Try.sizeOf3
 v3 := Try.zeroValue3
 t4 := Try.underlying4
 a4 := Try.isAgg4
 z4 := Try.sizeOf4
 v4 := Try.zeroValue4
 t9 := Try.underlying9
 a9 := Try.isAgg9
 z9 := Try.sizeOf9
 v9 := Try.zeroValue9
 t24 := Try.underlying26
 a24 := Try.isAgg26
 z24 := Try.sizeOf26
 v24 := Try.zeroValue26
 i9 := by kernel_rfl }
def setL (cs : Array Value) : Nat → List Value → Array Value
 | _, [] => cs
 | o, v :: r => setL (cs.setIfInBounds o v) (o + 1) r
theorem setL_size : ∀ (vs : List Value) (cs : Array Value) (o : Nat), (setL cs o vs).size = cs.size
 | [], _, _ => rfl
 | v :: r, cs, o => by rw [setL, setL_size r]; simp
theorem setL_get : ∀ (vs : List Value) (cs : Array Value) (o j : Nat), o + vs.length ≤ cs.size → (setL cs o vs)[j]? = if o ≤ j ∧ j < o + vs.length then vs[j - o]? else cs[j]?
 | [], cs, o, j, h => by rw [if_neg (by simp only [List.length_nil]; omega)]; rfl
 | v :: r, cs, o, j, h => by
  simp only [List.length_cons] at h ⊢
  rw [setL, setL_get r _ _ _ (by simp; omega)]
  by_cases h1 : o + 1 ≤ j ∧ j < o + 1 + r.length
  ·
   rw [if_pos h1, if_pos (by omega), show j - o = (j - (o + 1)) + 1 by omega, List.getElem?_cons_succ]
  ·
   rw [if_neg h1]
   by_cases h2 : j = o
   ·
    subst h2
    rw [if_pos (by omega), Nat.sub_self, Array.getElem?_setIfInBounds_self_of_lt (by omega)]
    rfl
   ·
    rw [if_neg (by omega), Array.getElem?_setIfInBounds_ne (Ne.symm h2)]
theorem setCells_blk {t g : Nat} : ∀ (vs : List Value) (W : World) (cs : Array Value) (o : Nat), W.heap[g]? = some (.cells cs t (0, 0)) → (W.setCells g o vs).heap[g]? = some (.cells (setL cs o vs) t (0, 0))
 | [], _, _, _, h => h
 | v :: r, W, cs, o, h => setCells_blk r _ _ _ (blk_set h o v)
theorem setCells_far {g k : Nat} (hk : k ≠ g) : ∀ (vs : List Value) (W : World) (o : Nat), (W.setCells g o vs).heap[k]? = W.heap[k]?
 | [], _, _ => rfl
 | v :: r, W, o => (setCells_far hk r _ _).trans (Below.heap_setCell W ⟨g, o, none⟩ v k hk)
theorem setCells_side {g : Nat} : ∀ (vs : List Value) (W : World) (o : Nat), (W.setCells g o vs).heap.size = W.heap.size ∧ (W.setCells g o vs).os = W.os ∧ (W.setCells g o vs).tape = W.tape ∧ (W.setCells g o vs).output = W.output
 | [], _, _ => ⟨rfl, rfl, rfl, rfl⟩
 | v :: r, W, o => by
  obtain ⟨a, b, c, d⟩ := setCells_side r (W.setCell ⟨g, o, none⟩ v) (o + 1)
  exact ⟨a.trans (by simp [World.setCell]), b, c, d⟩
def insAt (l : List ByteArray) (i : Nat) (x : ByteArray) : List ByteArray := l.take i ++ x :: l.drop i
theorem insAt_length (l : List ByteArray) (i : Nat) (x : ByteArray) (h : i ≤ l.length) : (insAt l i x).length = l.length + 1 := by simp [insAt]; omega
theorem encs_insAt (l : List ByteArray) (i : Nat) (x : ByteArray) : encs Value.string (insAt l i x) = (encs Value.string l).take i ++ .string x :: (encs Value.string l).drop i := by simp [encs, insAt, List.map_take, List.map_drop]
theorem R_made {B g cap n : Nat} {W : World} {cs : Array Value} {l : List ByteArray} (hb : W.heap[g]? = some (.cells cs 9 (0, 0))) (hg : B ≤ g) (hn : n = l.length) (hc : l.length ≤ cap) (hm : cap ≤ maxLen) (hs : cs.size = cap) (ht : cs.toList.take l.length = encs Value.string l) :
 Kd.R Kd.string 9 W B (fun _ => True) (.slice (some ⟨g, 0, none⟩) n cap) l := by
 subst hn
 exact Kd.R_of_own ⟨by simp [encs], .inr ⟨g, cap, cs, rfl, hg, hb, hc, hm, by rw [hs, Nat.mul_one], by rw [Nat.mul_one]; exact ht⟩⟩ (fun _ _ => trivial)
theorem ins_cells {cur : Array Value} {l : List ByteArray} {i : Nat} {x : ByteArray} (hl : cur.toList.take l.length = encs Value.string l) (hs : l.length + 1 ≤ cur.size) (hi : i ≤ l.length) :
 (setL (setL cur (i + 1) ((encs Value.string l).drop i)) i [.string x]).toList.take (insAt l i x).length = encs Value.string (insAt l i x) := by
 rw [encs_insAt, insAt_length l i x hi]
 have hle : (encs Value.string l).length = l.length := encs_length l
 apply List.ext_getElem?
 intro j
 rw [List.getElem?_take]
 by_cases hj : j < l.length + 1
 ·
  rw [if_pos hj, Array.getElem?_toList, setL_get _ _ _ _ (by rw [setL_size]; simp; omega)]
  by_cases h1 : i ≤ j ∧ j < i + [Value.string x].length
  ·
   have : j = i := by simp at h1; omega
   subst this
   rw [if_pos h1, Nat.sub_self, List.getElem?_append_right (by simp; omega)]
   simp [hle, Nat.min_eq_left hi]
  ·
   rw [if_neg h1, setL_get _ _ _ _ (by simp [hle]; omega)]
   simp only [List.length_singleton] at h1
   by_cases h2 : i + 1 ≤ j ∧ j < i + 1 + ((encs Value.string l).drop i).length
   ·
    rw [if_pos h2, List.getElem?_append_right (by simp; omega), List.length_take, hle, Nat.min_eq_left hi, show j - i = (j - (i + 1)) + 1 by omega, List.getElem?_cons_succ]
   ·
    have hji : j < i := by simp [hle] at h2; omega
    rw [if_neg h2, List.getElem?_append_left (by simp [hle]; omega), List.getElem?_take, if_pos hji, ← hl, List.getElem?_take, if_pos (by omega), Array.getElem?_toList]
 ·
  rw [if_neg hj, List.getElem?_eq_none (by simp [hle]; omega)]
theorem ins_cells2 {cur : Array Value} {l : List ByteArray} {i : Nat} {x : ByteArray} (hl : ∀ j, j < i → cur[j]? = (encs Value.string l)[j]?) (hs : l.length + 1 ≤ cur.size) (hi : i ≤ l.length) :
 (setL (setL cur i [.string x]) (i + 1) ((encs Value.string l).drop i)).toList.take (insAt l i x).length = encs Value.string (insAt l i x) := by
 rw [encs_insAt, insAt_length l i x hi]
 have hle : (encs Value.string l).length = l.length := encs_length l
 apply List.ext_getElem?
 intro j
 rw [List.getElem?_take]
 by_cases hj : j < l.length + 1
 ·
  rw [if_pos hj, Array.getElem?_toList, setL_get _ _ _ _ (by rw [setL_size]; simp [hle]; omega)]
  by_cases h2 : i + 1 ≤ j ∧ j < i + 1 + ((encs Value.string l).drop i).length
  ·
   rw [if_pos h2, List.getElem?_append_right (by simp; omega), List.length_take, hle, Nat.min_eq_left hi, show j - i = (j - (i + 1)) + 1 by omega, List.getElem?_cons_succ]
  ·
   rw [if_neg h2, setL_get _ _ _ _ (by simp; omega)]
   by_cases h1 : i ≤ j ∧ j < i + [Value.string x].length
   ·
    have : j = i := by simp at h1; omega
    subst this
    rw [if_pos h1, Nat.sub_self, List.getElem?_append_right (by simp; omega)]
    simp [hle, Nat.min_eq_left hi]
   ·
    have hji : j < i := by simp [hle] at h2; simp at h1; omega
    rw [if_neg h1, List.getElem?_append_left (by simp [hle]; omega), List.getElem?_take, if_pos hji]
    exact hl j hji
 ·
  rw [if_neg hj, List.getElem?_eq_none (by simp [hle]; omega)]
theorem shape_of {W : World} {g t : Nat} {cs : Array Value} (h : W.heap[g]? = some (.cells cs t (0, 0))) : W.shape? g = some (t, cs.size) := by simp [World.shape?, h]
theorem below_cells {B g : Nat} {w W : World} (h : Below B w W) (hg : B ≤ g) (o : Nat) (vs : List Value) : Below B w (W.setCells g o vs) := by
 obtain ⟨a, b, c, d⟩ := setCells_side (g := g) vs W o
 exact ⟨b.trans h.os, c.trans h.tape, d.trans h.output, by rw [a]; exact h.size, fun k hk => (setCells_far (by omega) vs W o).trans (h.block k hk)⟩
theorem kept_cells {g : Nat} {w W : World} {S : Nat → Prop} (h : Kept w W S) (hg : S g ∨ w.heap.size ≤ g) (o : Nat) (vs : List Value) : Kept w (W.setCells g o vs) S :=
 h.then_ (S2 := fun k => k = g) ⟨by rw [(setCells_side (g := g) vs W o).1]; exact Nat.le_refl _, fun i hi hn => setCells_far hn vs W o⟩ (fun k hk => by rw [hk]; exact hg)
theorem own_some {g n c k : Nat} (h : (Value.slice (some ⟨g, 0, none⟩) n c).ownBlock = some k) : g = k := by simpa [Value.ownBlock] using h
theorem ins_calls {B vb i : Nat} {w : World} {A : Option Addr} {c : Nat} {l : List ByteArray} {x : ByteArray} (hr : Kd.R Kd.string 9 w B (fun _ => True) (.slice A l.length c) l) (hi : i ≤ l.length)
 (hvb : w.heap[vb]? = some (.cells #[.string x] 9 (0, 0))) (hne : some vb ≠ (Value.slice A l.length c).ownBlock) (hB : B ≤ w.heap.size) (hbig : (l.length + 1) * 16 ≤ 140737488355328) :
 Calls Try.prog 91 #[.slice A l.length c, .int .i64 i, .slice (some ⟨vb, 0, none⟩) 1 1] w fun e w' => ∃ A' c', e = .returned (.slice A' (l.length + 1) c') ∧ Kd.R Kd.string 9 w' B (fun _ => True) (.slice A' (l.length + 1) c') (insAt l i x) ∧ Below B w w' ∧ Kept w w' (fun k => (Value.slice A l.length c).ownBlock = some k) ∧ ∀ k, (Value.slice A' (l.length + 1) c').ownBlock = some k → (Value.slice A l.length c).ownBlock = some k ∨ w.heap.size ≤ k := by
 have hv : ∀ (j : Nat) (v : Value), [Value.string x][j]? = some v → w.cell? ⟨vb, 0 + j, none⟩ = some v := fun j v hj => by
  match j, hj with
  | 0, hj => obtain rfl := Option.some.inj hj; exact (blk_cell hvb 0).trans rfl
  | j + 1, hj => simp at hj
 have h1v : ∀ v ∈ [Value.string x], v.oneCell' = true := fun v hv => by simp at hv; subst hv; rfl
 have h1c : ∀ v ∈ encs Value.string l, v.oneCell' = true := fun v hv => by
  simp only [encs, List.mem_map] at hv
  obtain ⟨_, _, rfl⟩ := hv
  rfl
 have hle : (encs Value.string l).length = l.length := encs_length l
 have hil := insAt_length l i x hi
 have hml : maxLen = 9223372036854775807 := by decide
 have hnl : l.length < 8796093022208 := by omega
 obtain ⟨_, h2⟩ := Kd.own_of_R hr
 rcases h2 with ⟨he, h0⟩ | ⟨g, cap, cur, he, hbg, hh, hnc, hcm, hcs, ht⟩
 ·
  -- nil
  injection he with ha _ hc
  subst ha hc
  have hl0 : l = [] := List.eq_nil_of_length_eq_zero h0
  subst hl0
  obtain rfl : i = 0 := by simpa using hi
  refine (Any2.slices_Insert_string_end_grow insLays none 0 0 vb 0 1 1 [] [.string x] w (by omega) (Nat.le_refl _) (by omega) (by omega) rfl rfl (fun _ => rfl) (fun _ h => by cases h) hv h1v).mono ?_
  rintro e w' ⟨rfl, rfl⟩
  refine ⟨_, _, rfl, R_made (heap_alloc_new w.drew _) hB rfl (grownCap_ge _ _ _ _) (grownCap_le_maxLen _ _ _ _ (by rw [hml]; omega)) ?_ ?_, (below_drew (Below.refl B w)).alloc hB _, (Kept.drew (Kept.refl w _)).alloc _, fun k hk => .inr (by rw [← own_some hk]; exact Nat.le_refl _)⟩
  ·
   have := grownCap_ge w 1 0 9
   simp [size_zeroCells]
   show 1 + (grownCap w 1 0 9 - 1) * 1 = grownCap w 1 0 9
   omega
  ·
   simp [insAt, encs]
 ·
  injection he with ha _ hc
  subst ha hc
  rw [Nat.mul_one] at hcs ht
  have hcell : ∀ (j : Nat) (v : Value), (encs Value.string l)[j]? = some v → w.cell? ⟨g, 0 + j, none⟩ = some v := fun j v hj => by
   rw [Nat.zero_add, blk_cell hh, ← Array.getElem?_toList]
   rw [← ht, List.getElem?_take] at hj
   split at hj
   ·
    exact hj
   ·
    cases hj
  have hsome : ∀ j, j < c → (w.cell? ⟨g, 0 + j, none⟩).isSome = true := fun j hj => by
   rw [Nat.zero_add, blk_cell hh]
   simp [hcs, hj]
  have hvg : vb ≠ g := fun h => hne (by rw [h]; simp [Value.ownBlock])
  by_cases hroom : l.length + 1 ≤ c
  ·
   by_cases hlt : i < l.length
   ·
    refine (Any2.slices_Insert_string_shift insLays g 0 l.length c i vb 0 1 1 (encs Value.string l) [.string x] w hlt (by omega) hroom (by rw [← hml]; exact hcm) hvg hle rfl hcell (fun j hj => hsome j (by omega)) (fun j _ => blk_frozen hh _) hv h1c h1v 9 9 1 cur.size (shape_of hvb) (shape_of hh) (by omega) (blk_frozen hvb 0) (blk_frozen hvb 1)).mono ?_
    rintro e w' ⟨rfl, rfl⟩
    have k1 := setCells_blk ((encs Value.string l).drop i) w.drew cur (0 + (i + 1)) hh
    have k2 := setCells_blk [.string x] _ _ (0 + i) k1
    simp only [Nat.zero_add] at k1 k2 ⊢
    exact ⟨_, _, rfl, R_made k2 hbg hil.symm (by omega) hcm (by rw [setL_size, setL_size, hcs]) (ins_cells ht (by omega) hi), below_cells (below_cells (below_drew (Below.refl B w)) hbg _ _) hbg _ _, kept_cells (kept_cells (Kept.drew (Kept.refl w _)) (.inl (by simp [Value.ownBlock])) _ _) (.inl (by simp [Value.ownBlock])) _ _, fun k hk => .inl hk⟩
   ·
    obtain rfl : i = l.length := by omega
    refine (Any2.slices_Insert_string_end_room insLays g 0 l.length c vb 0 1 1 [.string x] w (by omega) hroom (by rw [← hml]; exact hcm) rfl (fun j hj => by have := hsome (l.length + j) (by omega); rw [show 0 + l.length + j = 0 + (l.length + j) by omega]; exact this) (fun j _ => blk_frozen hh _) hv h1v).mono ?_
    rintro e w' ⟨rfl, rfl⟩
    have k2 := setCells_blk [.string x] w cur (0 + l.length) hh
    simp only [Nat.zero_add] at k2 ⊢
    have hz := ins_cells (x := x) ht (by omega) (Nat.le_refl l.length)
    rw [show (encs Value.string l).drop l.length = [] from List.drop_eq_nil_of_le (by rw [hle]; exact Nat.le_refl _)] at hz
    exact ⟨_, _, rfl, R_made k2 hbg hil.symm (by omega) hcm (by rw [setL_size, hcs]) hz, below_cells (Below.refl B w) hbg _ _, kept_cells (Kept.refl w _) (.inl (by simp [Value.ownBlock])) _ _, fun k hk => .inl hk⟩
  ·
   by_cases hlt : i < l.length
   ·
    refine (Any2.slices_Insert_string_grow insLays g 0 l.length c i vb 0 1 1 (encs Value.string l) [.string x] w hlt (by omega) hnc (by omega) hbig hle rfl hcell hv h1c h1v).mono ?_
    rintro e w' ⟨rfl, rfl⟩
    have hgc := grownCap_ge w (l.length + 1) c 9
    obtain ⟨CS, hCS⟩ : ∃ CS : Array Value, CS = ((encs Value.string l).take i).toArray ++ Builtin.zeroCells (Value.string ⟨#[]⟩).cells (l.length + 1 - i) ++ Builtin.zeroCells (Value.string ⟨#[]⟩).cells (grownCap w (l.length + 1) c (insRen.t 9) - (l.length + 1)) := ⟨_, rfl⟩
    have hsz : CS.size = grownCap w (l.length + 1) c 9 := by
     rw [hCS]
     simp only [Array.size_append, size_zeroCells, List.size_toArray, List.length_take, hle]
     show min i l.length + (l.length + 1 - i) * 1 + (grownCap w (l.length + 1) c 9 - (l.length + 1)) * 1 = grownCap w (l.length + 1) c 9
     omega
    have hfst : ∀ j, j < i → CS[j]? = (encs Value.string l)[j]? := fun j hj => by
     rw [hCS, Array.getElem?_append_left (by simp [hle]; omega), Array.getElem?_append_left (by simp [hle]; omega)]
     simp [hj]
    rw [← hCS]
    have k0 := heap_alloc_new w (.cells CS 9)
    have k1 := setCells_blk [.string x] (w.alloc (.cells CS 9)).drew CS i k0
    have k2 := setCells_blk ((encs Value.string l).drop i) _ _ (i + 1) (show ((w.alloc (.cells CS 9)).drew.setCells w.heap.size i [.string x]).drew.heap[w.heap.size]? = _ from k1)
    exact ⟨_, _, rfl, R_made k2 hB hil.symm (by rw [hil]; exact hgc) (grownCap_le_maxLen _ _ _ _ (by rw [hml]; omega)) (by rw [setL_size, setL_size]; exact hsz) (ins_cells2 hfst (by omega) hi), below_cells (below_drew (below_cells (below_drew ((Below.refl B w).alloc hB _)) hB _ _)) hB _ _, kept_cells (Kept.drew (kept_cells (Kept.drew ((Kept.refl w _).alloc _)) (.inr (Nat.le_refl _)) _ _)) (.inr (Nat.le_refl _)) _ _, fun k hk => .inr (by rw [← own_some hk]; exact Nat.le_refl _)⟩
   ·
    obtain rfl : i = l.length := by omega
    refine (Any2.slices_Insert_string_end_grow insLays (some ⟨g, 0, none⟩) l.length c vb 0 1 1 (encs Value.string l) [.string x] w (by omega) hnc (by omega) hbig hle rfl (fun h => by cases h) (fun a ha j v hj => by injection ha with ha; subst ha; rw [add_plain]; have := hcell j v hj; rwa [Nat.zero_add] at this) hv h1v).mono ?_
    rintro e w' ⟨rfl, rfl⟩
    refine ⟨_, _, rfl, R_made (heap_alloc_new w.drew _) hB hil.symm (by rw [hil]; exact grownCap_ge _ _ _ _) (grownCap_le_maxLen _ _ _ _ (by rw [hml]; omega)) ?_ ?_, (below_drew (Below.refl B w)).alloc hB _, (Kept.drew (Kept.refl w _)).alloc _, fun k hk => .inr (by rw [← own_some hk]; exact Nat.le_refl _)⟩
    ·
     have := grownCap_ge w (l.length + 1) c 9
     simp only [Array.size_append, size_zeroCells, List.size_toArray, List.length_append, hle, List.length_singleton]
     show l.length + 1 + (grownCap w (l.length + 1) c 9 - (l.length + 1)) * 1 = grownCap w (l.length + 1) c 9
     omega
    ·
     rw [hil, Array.toList_append, List.take_append_of_le_length (by simp [hle]), List.take_of_length_le (by simp [hle])]
     simp [insAt, encs]
end Go.Proofs.Ytdlkhpfgkghhmaa.P

-- ==== Rw8
namespace Go.Proofs.Ytdlkhpfgkghhmaa.P
open Go.RowKit Go.Proofs.YtdlkhpfgkghhmaaW.PrintWords Go.Proofs.YtdlkhpfgkghhmaaW.PrintLast Go.Proofs.YtdlkhpfgkghhmaaW.PrintMore
def IsMcH (B : Nat) (W : World) (g : Nat) (rv tv : Value) (ops : List S70) (vals : List (List S54)) (st : Int) (vh : Value) (hd : List ByteArray) (fu : Int) : Prop :=
 ∃ vo vv, W.heap[g]? = some (.cells #[vo, vv, .int .i64 st, vh, rv, tv, .int .i64 fu] 94 (0, 0)) ∧ B ≤ g ∧ Kd.R k70 70 W B (fun _ => True) vo ops ∧ Kd.R (Kd.slice 54 k54) 23 W B (fun _ => True) vv vals ∧ Kd.R Kd.string 9 W B (fun _ => True) vh hd
theorem isMc_iff {B : Nat} {W : World} {g : Nat} {rv tv : Value} {ops : List S70} {vals : List (List S54)} {st fu : Int} {hd : List ByteArray} : IsMc B W g rv tv ops vals st hd fu ↔ ∃ vh, IsMcH B W g rv tv ops vals st vh hd fu := by
 constructor
 ·
  rintro ⟨vo, vv, vh, h⟩
  exact ⟨vh, vo, vv, h⟩
 ·
  rintro ⟨vh, vo, vv, h⟩
  exact ⟨vo, vv, vh, h⟩
def headF (k : Nat) : List ByteArray → List ByteArray → Option (List ByteArray)
 | [], hd => some hd
 | x :: r, hd => (slices_BinarySearch_string_string.f k hd x).bind fun b => if b.2 = true then headF k r hd else if 0 ≤ b.1 ∧ b.1 ≤ (hd.length : Int) ∧ hd.length < 8796093022207 then headF k r (insAt hd b.1.toNat x) else none
theorem head_calls {B g k : Nat} {w : World} {rv tv vh : Value} {ops : List S70} {vals : List (List S54)} {st fu : Int} {hd fin names : List ByteArray} {An : Option Addr} {cn : Nat}
 (h : IsMcH B w g rv tv ops vals st vh hd fu) (hn : Kd.F Kd.string w (fun q => q ≠ g ∧ vh.ownBlock ≠ some q) An names.length names) (hf : headF k names hd = some fin) :
 Calls Try.prog 73 #[.pointer (some ⟨g, 0, none⟩), .slice An names.length cn] w fun e w' => e = .returned (.tuple #[]) ∧ IsMc B w' g rv tv ops vals st fin fu ∧ Below B w w' ∧ Kept w w' (fun q => q = g ∨ vh.ownBlock = some q) := by
 have HI := Aside0.mk h
 have HN := Aside0.mk hn
 have HF := Aside0.mk hf
 have HM := Aside0.mk (show (names.length : Int) ≤ 9223372036854775807 by have := (Kd.F_now hn).2.1; omega)
 have HB := Aside0.mk (Below.refl B w)
 have HK := Aside0.mk (Kept.refl w (fun q => q = g ∨ vh.ownBlock = some q))
 have HV := Aside0.mk (show ∀ q, vh.ownBlock = some q → vh.ownBlock = some q ∨ w.heap.size ≤ q from fun q hq => .inl hq)
 clear h hn hf
 go_enter Try.func73, Try.ntmps73
 go_wp2
 go_loopg [10] names.length (fun kq v10 w' => ∃ (x : Int) (vc : Value) (cur : List ByteArray), v10 = .int .i64 x ∧ Aside0 (0 ≤ x ∧ x + kq = (names.length : Int)) ∧ Aside0 (headF k (names.drop x.toNat) cur = some fin) ∧ Aside0 (IsMcH B w' g rv tv ops vals st vc cur fu) ∧ Aside0 (Below B w w') ∧ Aside0 (Kept w w' (fun q => q = g ∨ vh.ownBlock = some q)) ∧ Aside0 (∀ q, vc.ownBlock = some q → vh.ownBlock = some q ∨ w.heap.size ≤ q))
 case atStart => exact ⟨0, vh, hd, rfl, ⟨by omega⟩, HF, HI, HB, HK, HV⟩
 case round =>
  clear HI HB HK HF HV
  obtain ⟨x, vc, cur, rfl, HX, HF, HI, HB, HK, HV⟩ := hrel
  cases gk with
  | succ k1 =>
   have hi : 0 ≤ x ∧ x < (names.length : Int) := by have := HX.out; omega
   have hnw := Kd.F_now (Kd.F_kept HN.out HK.out (fun q hq hs => hs.elim hq.1 hq.2))
   obtain ⟨ad, rfl, hx0⟩ := Kd.at_string hnw x hi.1 hi.2
   have hdr : names.drop x.toNat = rdOf ByteArray.empty names x :: names.drop (x.toNat + 1) := by
    rw [List.drop_eq_getElem_cons (show x.toNat < names.length by omega)]
    congr 1
    simp [rdOf, List.getD_eq_getElem?_getD, show x.toNat < names.length by omega]
   have hf := HF.out
   rw [hdr, headF] at hf
   generalize rdOf ByteArray.empty names x = s at hx0 hf
   obtain ⟨⟨j, b⟩, hbs, hf⟩ := Option.bind_eq_some_iff.mp hf
   simp only at hf
   obtain ⟨vo, vv, hb, hg, hO, hV, hH⟩ := HI.out
   obtain ⟨Ah, ch, rfl⟩ := Kd.R_slice hH
   obtain ⟨_, hch, hCh⟩ := Kd.R_reads' hH
   have B1 := fun (W : World) (hW : Kd.C Kd.string W Ah cur.length cur) => slices_BinarySearch_string_string.calls k Ah ch cur s j b W hW hch hbs
   have hm3 : wr.cell? ⟨g, 3, none⟩ = some (.slice Ah cur.length ch) := (blk_cell hb 3).trans rfl
   have HXI := Aside0.mk hi
   have HH := Aside0.mk hH
   have HCh := Aside0.mk hCh
   have HBK := Aside0.mk hb
   have HOV := Aside0.mk (And.intro hg (And.intro hO hV))
   have hpp := eq_true hi.1
   have hqq := eq_true hi.2
   have hb0 : decide (x < (names.length : Int)) = true := decide_eq_true hi.2
   have HFX := Aside0.mk hf
   clear hdr hnw hb hg hO hV hH hCh hbs hf hi hch
   cases b with
   | true =>
    have hf := HFX.out
    rw [if_pos rfl] at hf
    have HF2 := Aside0.mk hf
    clear hf HFX
    go_wp2_with (go_at_call 90; (with_reducible refine (B1 _ ?side1).mono ?_); (case side1 => exact HCh.out); rintro e w2 ⟨rfl, ⟨nd, rfl⟩⟩)
    go_roundg k1
    case measure => have := HX.out; omega
    case rel => exact ⟨x + 1, _, cur, by have e_ : wrap64 (x + 1) = x + 1 := (by have := HXI.out; have := HM.out; unfold wrap64; omega); first | rfl | rw [e_] | (simp [e_]; done), ⟨by have := HX.out; omega⟩, ⟨by rw [show (x + 1).toNat = x.toNat + 1 by have := HXI.out; omega]; exact HF2.out⟩, ⟨⟨_, _, HBK.out, HOV.out.1, Kd.R_drewN HOV.out.2.1 _, Kd.R_drewN HOV.out.2.2 _, Kd.R_drewN HH.out _⟩⟩, ⟨pw_below_drewN HB.out _⟩, ⟨Kept.drewN HK.out _⟩, HV⟩
   | false =>
    have hf := HFX.out
    rw [if_neg (by decide)] at hf
    by_cases hj : 0 ≤ j ∧ j ≤ (cur.length : Int) ∧ cur.length < 8796093022207
    case neg => rw [if_neg hj] at hf; cases hf
    rw [if_pos hj] at hf
    have HF2 := Aside0.mk hf
    have HJ := Aside0.mk hj
    obtain ⟨jn, rfl⟩ := Int.eq_ofNat_of_zero_le hj.1
    have I1 := fun (W : World) (hr : Kd.R Kd.string 9 W B (fun _ => True) (.slice Ah cur.length ch) cur) (hB : B ≤ W.heap.size) (vb : Nat) (hvb : W.heap[vb]? = some (.cells #[.string s] 9 (0, 0))) (hne : some vb ≠ (Value.slice Ah cur.length ch).ownBlock) => ins_calls (i := jn) hr (by have := HJ.out; omega) hvb hne hB (by have := HJ.out; omega)
    clear hf HFX hj
    go_wp2_with (first | (go_at_call 90; (with_reducible refine (B1 _ ?side2).mono ?_); (case side2 => exact HCh.out); rintro e w2 ⟨rfl, ⟨nd, rfl⟩⟩) | (go_at_call 91; (with_reducible refine (I1 _ ?side3 ?side4 wr.heap.size ?side5 ?side6).mono ?_); (case side3 => exact (zr HH.out)); (case side4 => exact Nat.le_trans HOV.out.1 (by have := blk_lt HBK.out; simp; omega)); (case side5 => exact heap_alloc_new _ _); (case side6 => exact fun he => by have := Kd.R_lt HH.out _ he.symm; omega); rintro e w3 ⟨A3, c3, rfl, hR, hB3, hK3, hV3⟩; have hz := blk_kept (((below_alloc (pw_below_drewN (Below.refl wr.heap.size wr) nd) (.cells #[.string s] 9)).block g (blk_lt HBK.out)).trans HBK.out) hK3 (fun he => Kd.R_ne HH.out HBK.out (by decide) he.symm); have HZ := Aside0.mk hz; have q3 := (blk_cell hz 3).trans rfl; have f3 := blk_frozen hz 3; have HR3 := Aside0.mk hR; have HB3 := Aside0.mk hB3; have HK3 := Aside0.mk hK3; have HV3 := Aside0.mk hV3; clear hz hR hB3 hK3 hV3))
    go_roundg k1
    case measure => have := HX.out; omega
    case rel =>
     have hW := pw_below_drewN (Below.refl wr.heap.size wr) nd
     have hW2 := below_alloc hW (.cells #[.string s] 9)
     have hO := Kd.R_mono (Kd.R_kept (Kd.R_apartR (Kd.R_below HOV.out.2.1 hW2) (Kd.R_below HH.out hW2) (by decide)) HK3.out (fun q hq hs => hq.2 hs.symm)) (fun _ _ => trivial)
     have hV := Kd.R_mono (Kd.R_kept (Kd.R_apartR (Kd.R_below HOV.out.2.2 hW2) (Kd.R_below HH.out hW2) (by decide)) HK3.out (fun q hq hs => hq.2 hs.symm)) (fun _ _ => trivial)
     have hsz := hW2.size
     have hws := HK.out.1
     refine ⟨x + 1, .slice A3 (cur.length + 1) c3, insAt cur jn s, by have e_ : wrap64 (x + 1) = x + 1 := (by have := HXI.out; have := HM.out; unfold wrap64; omega); first | rfl | rw [e_] | (simp [e_]; done), ⟨by have := HX.out; omega⟩, ⟨by rw [show (x + 1).toNat = x.toNat + 1 by have := HXI.out; omega]; exact HF2.out⟩, ⟨⟨_, _, by simpa using blk_set HZ.out 3 (.slice A3 (cur.length + 1) c3), HOV.out.1, Kd.R_set hO HZ.out (by decide) 3 _, Kd.R_set hV HZ.out (by decide) 3 _, Kd.R_set HR3.out HZ.out (by decide) 3 _⟩⟩, ⟨(below_trB (below_trB HB.out (below_less hW2 (Nat.le_trans HOV.out.1 (Nat.le_of_lt (blk_lt HBK.out))))) HB3.out).setCell (p := ⟨g, 3, none⟩) HOV.out.1 _⟩, ⟨Kept.setCell (Kept.then_ (Kept.below HK.out hW2) HK3.out (fun q hq => (HV.out q hq).elim (fun h => .inl (.inr h)) .inr)) (.inl (.inl rfl)) _⟩, ⟨fun q hq => (HV3.out q hq).elim (fun h => HV.out q h) (fun h => .inr (by omega))⟩⟩
  | zero =>
   have hb0 : decide (x < (names.length : Int)) = false := decide_eq_false (by have := HX.out; omega)
   have hf := HF.out
   rw [List.drop_eq_nil_of_le (by have := HX.out; omega), headF] at hf
   obtain rfl := Option.some.inj hf
   clear hf HF
   go_wp2
   (first | refine bodyPost_ret (results_none rfl _ _ _) rfl ?_ | refine bodyPost_end (results_none rfl _ _ _) rfl ?_)
   exact ⟨rfl, isMc_iff.2 ⟨_, HI.out⟩, HB.out, HK.out⟩
end Go.Proofs.Ytdlkhpfgkghhmaa.P

-- ==== PM
/- A map from strings to ints that the call makes, read as a list of its stores, the latest first: what the walk asks of it. -/
namespace Go.Proofs.Ytdlkhpfgkghhmaa.P
open Go.RowKit Go.WideMaps Go.Maps Go.Proofs.YtdlkhpfgkghhmaaW.PrintWords

def mapHas (m : List S54) (s : ByteArray) : Bool := m.any (fun x => x.f0.data.toList == s.data.toList)
def mapAt (m : List S54) (s : ByteArray) : Int := match m.find? (fun x => x.f0.data.toList == s.data.toList) with
 | some x => x.f1
 | none => 0
def mapPut (m : List S54) (s : ByteArray) (a : Int) : List S54 := ⟨s, a⟩ :: m

def Mapped (base : Nat) (W w1 : World) : Prop := ∃ b es clock, base ≤ b ∧ W.heap[b]? = some (.map es clock) ∧ W.grownBy w1 (some b)

theorem below_mapped {w W w1 : World} {base : Nat} (h : Below base w W) (hm : Mapped base W w1) : Below base w w1 := by
 obtain ⟨b, es, clock, hb, hh, hg⟩ := hm
 refine ⟨hg.os.trans h.os, hg.tape.trans h.tape, hg.output.trans h.output, Nat.le_trans h.size hg.size, fun i hi => ?_⟩
 have := blk_lt hh
 exact (hg.block i (by omega) (by intro e; injection e with e; omega)).trans (h.block i hi)
theorem blk_mapped {W w1 : World} {base g : Nat} {o : Obj} (h : W.heap[g]? = some o) (hm : Mapped base W w1) (hne : ∀ es clock, o ≠ .map es clock := by intro _ _ h_; cases h_) : w1.heap[g]? = some o := by
 obtain ⟨b, es, clock, hb, hh, hg⟩ := hm
 refine (hg.block g (blk_lt h) (fun e => ?_)).trans h
 injection e with e
 subst e
 rw [h] at hh
 injection hh with hh
 exact hne _ _ hh

namespace Kd
section
variable {α : Type} {d : Kd α} {e base base' : Nat} {ok : Nat → Prop} {W w1 : World} {v : Value} {xs : List α}
theorem R_mapped (h : d.R e W base ok v xs) (hm : Mapped base' W w1) : d.R e w1 base ok v xs := by
 obtain ⟨b, es, clock, hb, hh, hg⟩ := hm
 refine Kd.R_mono (Kd.R_move (Kd.R_bound h) (fun k hk => hg.block k hk.2.2.1 (fun he => ?_))) (fun _ hk => hk.1)
 obtain ⟨_, _, _, q, hq, cells, hc⟩ := hk
 injection he with he
 subst he
 rw [hc] at hh
 cases hh
theorem S_mapped (h : Kd.S d e W base ok v xs) (hm : Mapped base' W w1) : Kd.S d e w1 base ok v xs := by
 obtain ⟨f, h⟩ := h
 exact ⟨f, R_mapped h hm⟩
end

def P (d : Kd S54) (e : Nat) (w : World) (base : Nat) (ok : Nat → Prop) (v : Value) (m : List S54) : Prop :=
 ∃ b, ∃ D : DataW Unit, v = .map (some b) ∧ ok b ∧ base ≤ b ∧ w.ownsMap Try.prog 9 (plainElem Try.prog 3) b m.length D ∧ IsMap D ∧
  ∀ s : ByteArray, Maps.has D (.string s.data.toList) = mapHas m s ∧ D.atKey (.string s.data.toList) (.lit (.int .i64 0)) = .lit (.int .i64 (mapAt m s))
section
variable {d : Kd S54} {e e' base base' : Nat} {ok ok' : Nat → Prop} {w w1 W : World} {v u : Value} {m : List S54}
theorem P_step (h : Kd.P d e w base ok v m) (hm : ∀ b es clock, ok b → w.heap[b]? = some (.map es clock) → w1.heap[b]? = w.heap[b]?) : Kd.P d e w1 base ok v m := by
 obtain ⟨b, D, rfl, ho, hb, ⟨es, clock, hh, hf⟩, hD, hs⟩ := h
 exact ⟨b, D, rfl, ho, hb, ⟨es, clock, (hm b es clock ho hh).trans hh, hf⟩, hD, hs⟩
theorem P_mono (h : Kd.P d e w base ok v m) (hk : ∀ k, ok k → ok' k) : Kd.P d e w base ok' v m := by
 obtain ⟨b, D, rfl, ho, r⟩ := h
 exact ⟨b, D, rfl, hk _ ho, r⟩
theorem P_lower (h : Kd.P d e w base ok v m) (hb : base' ≤ base) : Kd.P d e w base' ok v m := by
 obtain ⟨b, D, rfl, ho, h1, r⟩ := h
 exact ⟨b, D, rfl, ho, Nat.le_trans hb h1, r⟩
theorem P_below (h : Kd.P d e w base ok v m) (hb : Below w.heap.size w w1) : Kd.P d e w1 base ok v m := P_step h (fun b es clock _ hh => hb.block b (blk_lt hh))
theorem P_drew (h : Kd.P d e w base ok v m) : Kd.P d e w.drew base ok v m := P_below h (below_drew (Below.refl _ _))
theorem P_drewN (h : Kd.P d e w base ok v m) (n : Nat) : Kd.P d e (w.drewN n) base ok v m := P_below h (pw_below_drewN (Below.refl _ _) n)
theorem P_far (h : Kd.P d e w base ok v m) {p : Addr} (hok : ∀ k, ok k → k ≠ p.block) (x : Value) : Kd.P d e (w.setCell p x) base ok v m := P_step h (fun b _ _ ho _ => Below.heap_setCell w p x b (hok b ho))
theorem P_types (h : Kd.P d e w base ok v m) {g t : Nat} {cells : Array Value} (hb : w.heap[g]? = some (.cells cells t (0, 0))) (_ht : ∀ q, q ∈ e :: d.E → q ≠ t) : Kd.P d e w base (fun k => ok k ∧ k ≠ g) v m := by
 obtain ⟨b, D, rfl, ho, h1, ⟨es, clock, hh, hf⟩, r⟩ := h
 refine ⟨b, D, rfl, ⟨ho, fun he => ?_⟩, h1, ⟨es, clock, hh, hf⟩, r⟩
 subst he
 rw [hb] at hh
 cases hh
theorem P_over' (h : Kd.P d e W base ok u m) (hty : ∀ k, v.ownBlock = some k → ∃ cells, W.heap[k]? = some (.cells cells e' (0, 0))) (_ht : ∀ q, q ∈ e :: d.E → q ≠ e') (hg : W.grownBy w1 v.ownBlock) : Kd.P d e w1 base ok u m :=
 P_step h (fun b es clock _ hh => hg.block b (blk_lt hh) (fun he => by
  obtain ⟨cells, hc⟩ := hty b he.symm
  rw [hc] at hh
  cases hh))
end

section
variable {ops : Array Oper} {rest : List Oper} {o : Oper} {a : Act} {Q : Exit → Act → World → Prop} {W : World}
theorem P_make (d : Kd S54) {N : Tmp} (hg : o.guard = none) (hop : o.op = Op.makeMap 150 none) (_hN : o.dst = some N)
 (h : ∀ v w1, Kd.P d 150 w1 W.heap.size (fun _ => True) v [] → Below W.heap.size W w1 → wpList Try.prog ops Q rest (a.put o.dst v) w1) : wpList Try.prog ops Q (o :: rest) a W := by
 refine wpList_plain hg fun K hK => ?_
 unfold Oper.wp
 simp only [execOp, hop, Sem.run_bind, Sem.run_pure, Result.andThen]
 refine hK _ _ (h _ _ ⟨W.heap.size, .map [], rfl, trivial, Nat.le_refl _, World.ownsMap_made _ _ _ _, isMap_empty, fun s => ⟨rfl, rfl⟩⟩ (below_alloc (Below.refl _ _) _))
theorem P_look {d : Kd S54} {e base : Nat} {ok : Nat → Prop} {v : Value} {m : List S54} {s : ByteArray} {x y : Operand} (hg : o.guard = none) (hop : o.op = Op.lookup 150 x y true) (hm : a.eval x = v) (hx : a.eval y = .string s)
 (hs : s.size ≤ 9223372036854775807) (h : Kd.P d e W base ok v m) (hK : wpList Try.prog ops Q rest (a.put o.dst (.tuple #[.int .i64 (mapAt m s), .bool (mapHas m s)])) W) : wpList Try.prog ops Q (o :: rest) a W := by
 obtain ⟨b, D, rfl, _, _, hown, hD, hsp⟩ := h
 have hml : maxLen = 9223372036854775807 := by decide
 have zr : (zeroValue 3).run Try.prog W = .ok (.int .i64 0) W := by kernel_rfl
 refine wpList_lookup_own_ok_int (H := Unit) W hg x y 150 hop 9 3 .i64 (string_keyed Try.underlying9) Try.underlying150 Try.underlying3 zr b _ D hm hown (.string s) _ hx (keyOf_string_mk Try.underlying9 (by rw [hml]; exact hs)) ?_
 intro c hc _
 rw [(hsp s).2] at hc
 rw [(hsp s).1]
 have hc' : mapAt m s = c := (Lit.int.inj (DataW.lit.inj hc)).2
 rw [← hc']
 exact hK
theorem P_put {d : Kd S54} {e base : Nat} {ok : Nat → Prop} {v : Value} {m : List S54} {s : ByteArray} {n : Int} {x y z : Operand} (hg : o.guard = none) (hop : o.op = Op.mapUpdate 150 x y z) (hm : a.eval x = v) (hx : a.eval y = .string s) (hz : a.eval z = .int .i64 n)
 (hl : m.length < 9223372036854775807 ∧ s.size ≤ 9223372036854775807 ∧ 0 ≤ n ∧ n ≤ 9223372036854775807) (h : Kd.P d e W base ok v m)
 (hK : ∀ w1, Kd.P d e w1 base ok v (mapPut m s n) → Mapped base W w1 → wpList Try.prog ops Q rest (a.put o.dst undef) w1) : wpList Try.prog ops Q (o :: rest) a W := by
 obtain ⟨b, D, rfl, ho, hb, hown, hD, hsp⟩ := h
 have hml : maxLen = 9223372036854775807 := by decide
 refine wpList_mapUpdate_own (H := Unit) W hg x y z 150 hop 9 3 (string_keyed Try.underlying9) Try.underlying150 _ b _ D hm hown (by rw [hml]; exact hl.1) (.string s) (.int .i64 n) (.string s.data.toList) hx hz (keyOf_string_mk Try.underlying9 (by rw [hml]; exact hl.2.1)) _ [] (plainElem_int Try.underlying3 (WalkArith.wf_i64 (by omega))) ?_
 intro w1 h1 hgw
 obtain ⟨es, clock, hh, _⟩ := hown
 refine hK w1 ⟨b, _, rfl, ho, hb, h1, hD.put _ _, fun t => ?_⟩ ⟨b, es, clock, hb, hh, hgw⟩
 by_cases ht : s.data.toList = t.data.toList
 ·
  rw [← ht]
  refine ⟨?_, ?_⟩
  ·
   rw [has_put_same (k := .string s.data.toList) hD trivial]
   simp only [mapHas, mapPut, List.any_cons, ht, beq_self_eq_true, Bool.true_or]
  ·
   rw [atKey_put_same (k := .string s.data.toList) hD trivial]
   simp only [mapAt, mapPut, List.find?_cons, ht, beq_self_eq_true]
 ·
  have hne : (Lit.string t.data.toList) ≠ .string s.data.toList := fun he => ht (by injection he with he; exact he.symm)
  have hb' : (s.data.toList == t.data.toList) = false := by simpa using ht
  refine ⟨?_, ?_⟩
  ·
   rw [has_put_other hne, (hsp t).1]
   simp only [mapHas, mapPut, List.any_cons, hb', Bool.false_or]
  ·
   rw [atKey_put_other hne, (hsp t).2]
   simp only [mapAt, mapPut, List.find?_cons, hb']
end
end Kd
end Go.Proofs.Ytdlkhpfgkghhmaa.P
