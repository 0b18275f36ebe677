/- RewriteRuns: the law answers true at every input that the given row speaks of. Conditions: those of the given row, none besides. (Part 2 of 5; written by programs of this session, which drive the kit's print, and by hand.) -/
import Derived.Test.YtdlkhpfgkghhmaaZRewriteRunsU0
set_option maxHeartbeats 8000000
set_option maxRecDepth 100000
set_option linter.unusedVariables false
set_option linter.unusedSimpArgs false
-- ==== PF55
namespace Go.Proofs.Ytdlkhpfgkghhmaa.P
open Go.RowKit Go.Proofs.YtdlkhpfgkghhmaaW.PrintWords Go.Proofs.YtdlkhpfgkghhmaaW.PrintLast Go.Proofs.YtdlkhpfgkghhmaaW.PrintMore
attribute [local go_sem] max2_int min2_int max_two min_two max_three min_three max_four min_four

def aumbryref07_First.l0 : Nat → List (S73) → List (S54) → Int → Int → Option (Int × (List (S104)))
 | 0, _, _, _, _ => none
 | k + 1, x0, x1, x10, x11 => if x11 < x10 then (if 0 ≤ x11 then (if x11 < (x0.length : Int) then ((aumbryref05_Fit.f k ((rd_T73 x0 x11).f1) x1 ([] : List (S104))).bind fun bt102 => (if bt102.2 = true then (some (x11, bt102.1)) else (aumbryref07_First.l0 k x0 x1 x10 (wrap64 (x11 + 1))))) else (none)) else (none)) else (some ((-1), ([] : List (S104))))
def aumbryref07_First.f (k : Nat) (l0 : List (S73)) (l1 : List (S54)) : Option (Int × (List (S104))) := aumbryref07_First.l0 k l0 l1 (l0.length : Int) 0
theorem aumbryref07_First.calls (k : Nat) (A0 : Option Addr) (c0 : Nat) (l0 : List (S73)) (A1 : Option Addr) (c1 : Nat) (l1 : List (S54)) (r1 : Int) (r2 : List (S104)) (w : World) (hr0 : Kd.C k73 w A0 l0.length l0) (hc0 : l0.length ≤ c0) (hr1 : Kd.C k54 w A1 l1.length l1) (hc1 : l1.length ≤ c1) (h : aumbryref07_First.f k l0 l1 = some (r1, r2)) :
 Calls Try.prog 55 #[.slice A0 l0.length c0, .slice A1 l1.length c1] w fun e w' => ∃ v1_ : Value, e = .returned (.tuple #[.int .i64 r1, v1_]) ∧ Kd.S k104 104 w' w.heap.size (fun _ => True) v1_ r2 ∧ Below w.heap.size w w' := by
 have HR0 := zM hr0
 have HC0 := zM hc0
 clear hr0 hc0
 have HR1 := zM hr1
 have HC1 := zM hc1
 clear hr1 hc1
 have HB := zM (Below.refl w.heap.size w)
 have H : (aumbryref07_First.l0 k l0 l1 (l0.length : Int) 0) = some (r1, r2) := h
 clear h
 have H' := zM H
 clear H
 go_enter Try.func55, Try.ntmps55
 go_wp2
 go_loopg [11] k (fun kq v11 w' => ∃ (x11_1 : Int), v11 = .int .i64 x11_1 ∧ Aside0 (aumbryref07_First.l0 kq l0 l1 (l0.length : Int) x11_1 = some (r1, r2)) ∧ Aside0 (kq ≤ k) ∧ Aside0 (Below w.heap.size w w'))
 case atStart => exact ⟨(0), zy, H', ⟨Nat.le_refl _⟩, ⟨zb⟩⟩
 case round =>
  clear H'
  try clear c1
  try clear p2
  obtain ⟨x11_1, rfl, HA, HK1, HB⟩ := hrel
  cases gk with
  | zero => exact absurd HA.out (by simp [aumbryref07_First.l0])
  | succ k1 =>
   have H := HA.out
   clear HA
   simp only [aumbryref07_First.l0] at H
   by_cases c3 : x11_1 < (l0.length : Int)
   ·
    rw [if_pos c3] at H
    have c3b0 : decide (x11_1 < (l0.length : Int)) = true := zQ c3
    clear c3
    by_cases c4 : 0 ≤ x11_1
    ·
     rw [if_pos c4] at H
     have c4b0 : decide (0 ≤ x11_1) = true := zQ c4
     clear c4
     by_cases c5 : x11_1 < (l0.length : Int)
     ·
      rw [if_pos c5] at H
      have c5b0 : decide (x11_1 < (l0.length : Int)) = true := zQ c5
      clear c5
      replace H := zB H
      obtain ⟨⟨t102, t105⟩, A60, H⟩ := H
      try dsimp only at H
      have A6 := zM A60
      clear A60
      by_cases c7 : t105 = true
      ·
       subst c7
       rw [if_pos rfl] at H
       simp only [Option.some.injEq, Prod.mk.injEq] at H
       obtain ⟨rfl, rfl⟩ := H
       have p101 : 0 ≤ (x11_1 : Int) := zT zv
       have q101 : x11_1 < (l0.length : Int) := zT zv
       obtain ⟨ad101, A101_1, c101_1, A101_2, c101_2, e101, hx101_0, hx101_1, hx101_2, hl101_1, hi101_1, hl101_2, hi101_2⟩ := at_T73 HR0.out x11_1 p101 q101
       cases e101
       replace hx101_0 := (HB.out.cell (World.block_lt_of_cell? w _ hx101_0)).trans hx101_0
       replace hx101_1 := (HB.out.cell (World.block_lt_of_cell? w _ hx101_1)).trans hx101_1
       replace hx101_2 := (HB.out.cell (World.block_lt_of_cell? w _ hx101_2)).trans hx101_2
       have HR101_1 := zM hi101_1
       have HC101_1 := zM hl101_1
       clear hi101_1 hl101_1
       have HR101_2 := zM hi101_2
       have HC101_2 := zM hl101_2
       clear hi101_2 hl101_2
       replace p101 := eq_true p101
       replace q101 := eq_true q101
       go_wp2_with (first | ((with_reducible refine gate_callee (f := 79) rfl ?_); refine goesL_ (some 21) rfl rfl Try.func79 (by kernel_rfl) rfl #[.slice A101_1 ((rd_T73 l0 x11_1).f1).length c101_1, .slice A1 l1.length c1, .slice none 0 0] rfl zl ?_; (refine (aumbryref05_Fit.calls k1 _ _ ((rd_T73 l0 x11_1).f1) _ _ l1 (fun k_ => some k_ = (.slice none 0 0 : Value).ownBlock) (.slice none 0 0) ([] : List (S104)) t102 true w _ ?side1 ?side2 ?side3 ?side4 ?side5 ?side6 A6.out).mono ?_); (case side1 => exact zb); (case side2 => exact Kd.C_kept_came k54_heap HR101_1.out zb (fun k_ hs_ => (fun e_ => by simp [Value.ownBlock] at e_) hs_)); (case side3 => exact HC101_1.out); (case side4 => exact Kd.C_kept_came k54_heap HR1.out zb (fun k_ hs_ => (fun e_ => by simp [Value.ownBlock] at e_) hs_)); (case side5 => exact HC1.out); (case side6 => exact Kd.S_nil _ _ _ _ _); rintro e w8 ⟨v103, rfl, ho0, hb, hkp⟩; refine ⟨_, rfl, ?_⟩; have HO104 := zM (Kd.S_mono (ok' := fun k_ => True) ho0 (fun k_ hk_ => trivial)); replace HB := zM (hb); (try clear hb); (try clear hkp); (try clear ho0)))
       go_ret2
       exact ⟨_, zw, Kd.S_below HO104.out zg, zb⟩
      ·
       replace c7 := zI c7
       subst c7
       rw [if_neg (show ¬ (false = true) by decide)] at H
       have H' := zM H
       clear H
       have p101 : 0 ≤ (x11_1 : Int) := zT zv
       have q101 : x11_1 < (l0.length : Int) := zT zv
       obtain ⟨ad101, A101_1, c101_1, A101_2, c101_2, e101, hx101_0, hx101_1, hx101_2, hl101_1, hi101_1, hl101_2, hi101_2⟩ := at_T73 HR0.out x11_1 p101 q101
       cases e101
       replace hx101_0 := (HB.out.cell (World.block_lt_of_cell? w _ hx101_0)).trans hx101_0
       replace hx101_1 := (HB.out.cell (World.block_lt_of_cell? w _ hx101_1)).trans hx101_1
       replace hx101_2 := (HB.out.cell (World.block_lt_of_cell? w _ hx101_2)).trans hx101_2
       have HR101_1 := zM hi101_1
       have HC101_1 := zM hl101_1
       clear hi101_1 hl101_1
       have HR101_2 := zM hi101_2
       have HC101_2 := zM hl101_2
       clear hi101_2 hl101_2
       replace p101 := eq_true p101
       replace q101 := eq_true q101
       go_wp2_with (first | ((with_reducible refine gate_callee (f := 79) rfl ?_); refine goesL_ (some 21) rfl rfl Try.func79 (by kernel_rfl) rfl #[.slice A101_1 ((rd_T73 l0 x11_1).f1).length c101_1, .slice A1 l1.length c1, .slice none 0 0] rfl zl ?_; (refine (aumbryref05_Fit.calls k1 _ _ ((rd_T73 l0 x11_1).f1) _ _ l1 (fun k_ => some k_ = (.slice none 0 0 : Value).ownBlock) (.slice none 0 0) ([] : List (S104)) t102 false w _ ?side1 ?side2 ?side3 ?side4 ?side5 ?side6 A6.out).mono ?_); (case side1 => exact zb); (case side2 => exact Kd.C_kept_came k54_heap HR101_1.out zb (fun k_ hs_ => (fun e_ => by simp [Value.ownBlock] at e_) hs_)); (case side3 => exact HC101_1.out); (case side4 => exact Kd.C_kept_came k54_heap HR1.out zb (fun k_ hs_ => (fun e_ => by simp [Value.ownBlock] at e_) hs_)); (case side5 => exact HC1.out); (case side6 => exact Kd.S_nil _ _ _ _ _); rintro e w9 ⟨v103, rfl, ho0, hb, hkp⟩; refine ⟨_, rfl, ?_⟩; have HO104 := zM (Kd.S_mono (ok' := fun k_ => True) ho0 (fun k_ hk_ => trivial)); replace HB := zM (hb); (try clear hb); (try clear hkp); (try clear ho0)))
       go_roundg k1
       case measure => have := HK1.out; omega
       case rel => exact ⟨(wrap64 (x11_1 + 1)), zy, H', ⟨by have := HK1.out; omega⟩, ⟨zb⟩⟩
     ·
      rw [if_neg c5] at H
      exact absurd H (by simp)
    ·
     rw [if_neg c4] at H
     exact absurd H (by simp)
   ·
    rw [if_neg c3] at H
    have c3b0 : decide (x11_1 < (l0.length : Int)) = false := zR c3
    clear c3
    simp only [Option.some.injEq, Prod.mk.injEq] at H
    obtain ⟨rfl, rfl⟩ := H
    go_wp2
    go_ret2
    exact ⟨_, zw, by first | exact Kd.S_nil _ _ _ _ _ | exact Kd.N_nil _ _ _ _ _ | exact Kd.V_nil _ _ _ _ _ | exact Kd.Q_nil _ _ _ _ _ | exact Kd.R_nil _ _ _ _ _, zb⟩


-- ==== PF36

mutual
def aumbryref07_Todo.l0 : Nat → List (S54) → List (S104) → List (S70) → List (List (S54)) → Int → Int → Option ((List (S70)))
 | 0, _, _, _, _, _, _ => none
 | k + 1, x0, x1, x5, x6, x26, x27 => if x27 < x26 then (if 0 ≤ x27 then (if x27 < (x6.length : Int) then ((aumbryref07_Todo.f k (rd_L3 x6 x27) x1).bind fun t115 => (if x5.length + t115.length < 2513169434916 then (aumbryref07_Todo.l0 k x0 x1 (x5 ++ t115) x6 x26 (wrap64 (x27 + 1))) else (none))) else (none)) else (none)) else (if 0 < (x0.length : Int) then (if x5.length < 2513169434916 then (some (x5 ++ [(⟨1, (⟨(rd_T54 x0 0).f0, (rd_T54 x0 0).f1⟩ : S54), ([] : List (S54))⟩ : S70)])) else (none)) else (none))
def aumbryref07_Todo.f : Nat → List (S54) → List (S104) → Option ((List (S70)))
 | 0, _, _ => none
 | k + 1, l0, l1 => (aumbryref05_Var.f k l0).bind fun t101 => (if t101 = true then (if 0 < (l0.length : Int) then ((aumbryref05_At.f k l1 ((rd_T54 l0 0).f0)).bind fun t103 => (if 0 ≤ t103 then (if t103 < (l1.length : Int) then ((aumbryref04_Copy.f ((rd_T104 l1 t103).f1)).bind fun t105 => (some (([(⟨2, (⟨(⟨#[]⟩ : ByteArray), 0⟩ : S54), t105⟩ : S70)] : List (S70))))) else (none)) else (none))) else (none)) else ((aumbryref04_Kids.f k l0).bind fun t111 => (aumbryref07_Todo.l0 k l0 l1 ([] : List (S70)) t111 (t111.length : Int) 0)))
end
theorem aumbryref07_Todo.calls (k : Nat) : ∀ (A0 : Option Addr) (c0 : Nat) (l0 : List (S54)) (A1 : Option Addr) (c1 : Nat) (l1 : List (S104)) (r : List (S70)) (w : World) (hr0 : Kd.C k54 w A0 l0.length l0) (hc0 : l0.length ≤ c0) (hr1 : Kd.C k104 w A1 l1.length l1) (hc1 : l1.length ≤ c1) (h : aumbryref07_Todo.f k l0 l1 = some r),
 Calls Try.prog 36 #[.slice A0 l0.length c0, .slice A1 l1.length c1] w fun e w' => ∃ v0_ : Value, e = .returned (v0_) ∧ Kd.N k70 70 w' w.heap.size (fun k_ => (w.heap.size ≤ k_)) v0_ r ∧ Below w.heap.size w w' := by
 induction k using Nat.strongRecOn with
 | _ k ih =>
 intro A0 c0 l0 A1 c1 l1 r w hr0 hc0 hr1 hc1 h
 cases k with
 | zero => exact absurd h (by simp [aumbryref07_Todo.f])
 | succ k =>
 simp only [aumbryref07_Todo.f] at h
 have hu70 := Try.underlying70
 have hu54 := Try.underlying54
 have HR0 := zM hr0
 have HC0 := zM hc0
 clear hr0 hc0
 have HR1 := zM hr1
 have HC1 := zM hc1
 clear hr1 hc1
 have HB := zM (Below.refl w.heap.size w)
 have H : ((aumbryref05_Var.f k l0).bind fun t101 => (if t101 = true then (if 0 < (l0.length : Int) then ((aumbryref05_At.f k l1 ((rd_T54 l0 0).f0)).bind fun t103 => (if 0 ≤ t103 then (if t103 < (l1.length : Int) then ((aumbryref04_Copy.f ((rd_T104 l1 t103).f1)).bind fun t105 => (some (([(⟨2, (⟨(⟨#[]⟩ : ByteArray), 0⟩ : S54), t105⟩ : S70)] : List (S70))))) else (none)) else (none))) else (none)) else ((aumbryref04_Kids.f k l0).bind fun t111 => (aumbryref07_Todo.l0 k l0 l1 ([] : List (S70)) t111 (t111.length : Int) 0)))) = some r := h
 clear h
 replace H := zB H
 obtain ⟨t101, A30, H⟩ := H
 try dsimp only at H
 have A3 := zM A30
 clear A30
 by_cases c4 : t101 = true
 ·
  subst c4
  rw [if_pos rfl] at H
  by_cases c5 : 0 < (l0.length : Int)
  ·
   rw [if_pos c5] at H
   have c5b0 : decide (0 < (l0.length : Int)) = true := zQ c5
   have c5b1 : decide (0 < l0.length) = true := zQ (by omega)
   clear c5
   replace H := zB H
   obtain ⟨t103, A60, H⟩ := H
   try dsimp only at H
   have A6 := zM A60
   clear A60
   by_cases c7 : 0 ≤ t103
   ·
    rw [if_pos c7] at H
    have c7b0 : decide (0 ≤ t103) = true := zQ c7
    clear c7
    by_cases c8 : t103 < (l1.length : Int)
    ·
     rw [if_pos c8] at H
     have c8b0 : decide (t103 < (l1.length : Int)) = true := zQ c8
     clear c8
     replace H := zB H
     obtain ⟨t105, A90, H⟩ := H
     try dsimp only at H
     have A9 := zM A90
     clear A90
     obtain ⟨y108, hy108⟩ : ∃ y_ : List (S70), y_ = (([(⟨2, (⟨(⟨#[]⟩ : ByteArray), 0⟩ : S54), t105⟩ : S70)] : List (S70))) := ⟨_, rfl⟩
     replace H : (some y108) = some r := by first | (rw [hy108]; with_reducible exact H) | (have H2_ := (Option.bind_some _ _).symm.trans H; rw [hy108]; with_reducible exact H2_) | (have H2_ := (Option.bind_some _ _).symm.trans H; with_reducible exact H2_) | with_reducible exact H | (rw [hy108]; exact H) | exact H
     have Ny108 := zM hy108
     clear hy108
     obtain rfl := zS H
     go_enter Try.func36, Try.ntmps36
     go_wp2_with (first | ((with_reducible refine gate_callee (f := 56) rfl ?_); refine goesL_ (some 9) rfl rfl Try.func56 (by kernel_rfl) rfl #[.slice A0 l0.length c0] rfl zl ?_; (with_reducible refine (aumbryref05_Var.calls k _ _ l0 true _ ?side1 ?side2 A3.out).mono ?_); (case side1 => exact Kd.C_below HR0.out zg); (case side2 => exact HC0.out); rintro e w' ⟨rfl, ⟨nd, rfl⟩⟩; refine ⟨_, rfl, ?_⟩; have p102 : 0 ≤ (0 : Int) := (by omega); have q102 : 0 < (l0.length : Int) := zT zv; obtain ⟨ad102, e102, hx102_0, hx102_1⟩ := at_T54 HR0.out 0 p102 q102; cases e102; have qi102 : (0 < l0.length) = True := eq_true (by omega); (try rw [show ((0 : Int)).toNat = 0 from rfl] at hx102_0); (try rw [show 0 * 2 = 0 from rfl] at hx102_0); (try rw [Addr.add_zero'] at hx102_0); (try rw [show ((0 : Int)).toNat = 0 from rfl] at hx102_1); (try rw [show 0 * 2 = 0 from rfl] at hx102_1); (try rw [Addr.add_zero'] at hx102_1); replace p102 := eq_true p102; replace q102 := eq_true q102) | ((with_reducible refine gate_callee (f := 57) rfl ?_); refine goesL_ (some 16) rfl rfl Try.func57 (by kernel_rfl) rfl #[.slice A1 l1.length c1, .string ((rd_T54 l0 0).f0)] rfl zl ?_; (with_reducible refine (aumbryref05_At.calls k _ _ l1 ((rd_T54 l0 0).f0) t103 _ ?side1 ?side2 A6.out).mono ?_); (case side1 => exact Kd.C_below HR1.out zg); (case side2 => exact HC1.out); rintro e w' ⟨rfl, ⟨nd, rfl⟩⟩; refine ⟨_, rfl, ?_⟩; have p104 : 0 ≤ (t103 : Int) := zT zv; have q104 : t103 < (l1.length : Int) := zT zv; obtain ⟨ad104, A104_1, c104_1, e104, hx104_0, hx104_1, hl104_1, hi104_1⟩ := at_T104 HR1.out t103 p104 q104; cases e104; have HR104_1 := zM hi104_1; have HC104_1 := zM hl104_1; clear hi104_1 hl104_1; replace p104 := eq_true p104; replace q104 := eq_true q104) | ((with_reducible refine gate_callee (f := 13) rfl ?_); refine goesL_ (some 20) rfl rfl Try.func13 (by kernel_rfl) rfl #[.slice A104_1 ((rd_T104 l1 t103).f1).length c104_1] rfl zl ?_; (with_reducible refine (aumbryref04_Copy.calls _ _ ((rd_T104 l1 t103).f1) t105 _ ?side1 ?side2 A9.out).mono ?_); (case side1 => exact Kd.C_below HR104_1.out zg); (case side2 => exact HC104_1.out); rintro e w10 ⟨v106, rfl, ho0, hb⟩; refine ⟨_, rfl, ?_⟩; have HO107 := zM (Kd.R_lower (Kd.R_newM (M := fun k_ => (w.heap.size ≤ k_)) ho0 (below_size zb) (fun k_ h_ => h_)) (below_size zb)); replace HB := zM (below_step zb hb); (try clear hb); (try clear ho0); obtain ⟨Ao11, co11, eo11⟩ := Kd.R_slice HO107.out; subst eo11) | ((with_reducible refine gate_dst (N := 22) rfl ?_); refine Kd.N_lit k70 _ 70 ?hg (N' := 22) ?hd (xs := ([(⟨2, (⟨(⟨#[]⟩ : ByteArray), 0⟩ : S54), t105⟩ : S70)] : List (S70))) (inner := [.int .i64 2, .string (⟨#[]⟩ : ByteArray), .int .i64 0, .slice Ao11 t105.length co11]) (ok := (fun k_ => (w.heap.size ≤ k_))) (okp := (fun k_ => (w.heap.size ≤ k_))) ?hr ?hp (fun _ hk => hk) ((show ∀ k_, w10.heap.size ≤ k_ → (fun k_ => (w.heap.size ≤ k_)) k_ from fun k_ hk => (Nat.le_trans (below_size zb) hk)) _ (Nat.le_refl _)) (Below.refl _ _) (Nat.le_refl _) (by simp) ?_; (case hd => rfl); (case hg => rfl); (case hr => first | (go_simp; done) | (go_simp; rfl)); (case hp => exact (Reps.c4 (show Kd.FK k70 _ _ (⟨2, (⟨(⟨#[]⟩ : ByteArray), 0⟩ : S54), t105⟩ : S70) [.int .i64 2, .string (⟨#[]⟩ : ByteArray), .int .i64 0, .slice Ao11 t105.length co11] from (k70_mkF _ _ (⟨2, (⟨(⟨#[]⟩ : ByteArray), 0⟩ : S54), t105⟩ : S70) (Kd.R_reads' (Kd.R_mono (ok' := (fun k_ => (w.heap.size ≤ k_))) (HO107.out) (fun k_ hk => hk.1))).2.1 (Kd.R_F (Kd.R_mono (ok' := (fun k_ => (w.heap.size ≤ k_))) (HO107.out) (fun k_ hk => hk.1))))) (Reps.none _ _))); intro v109 w12 ho13 hb hg_ hnew_; clear hg_ hnew_; (first | rw [← Ny108.out] at ho13 | (simp only [Int.reduceToNat] at ho13; rw [← Ny108.out] at ho13)); have HO110 := zM (Kd.N_lower ho13 (below_size zb)); replace HB := zM (below_step zb hb); clear HO107; clear hb ho13))
     go_ret
     exact ⟨_, zw, Kd.N_below HO110.out zg, zb⟩
    ·
     rw [if_neg c8] at H
     exact absurd H (by simp)
   ·
    rw [if_neg c7] at H
    exact absurd H (by simp)
  ·
   rw [if_neg c5] at H
   exact absurd H (by simp)
 ·
  replace c4 := zI c4
  subst c4
  rw [if_neg (show ¬ (false = true) by decide)] at H
  replace H := zB H
  obtain ⟨t111, A140, H⟩ := H
  try dsimp only at H
  have A14 := zM A140
  clear A140
  have H' := zM H
  clear H
  go_enter Try.func36, Try.ntmps36
  go_wp2_with (first | ((with_reducible refine gate_callee (f := 56) rfl ?_); refine goesL_ (some 9) rfl rfl Try.func56 (by kernel_rfl) rfl #[.slice A0 l0.length c0] rfl zl ?_; (with_reducible refine (aumbryref05_Var.calls k _ _ l0 false _ ?side1 ?side2 A3.out).mono ?_); (case side1 => exact Kd.C_below HR0.out zg); (case side2 => exact HC0.out); rintro e w' ⟨rfl, ⟨nd, rfl⟩⟩; refine ⟨_, rfl, ?_⟩) | ((with_reducible refine gate_callee (f := 54) rfl ?_); refine goesL_ (some 24) rfl rfl Try.func54 (by kernel_rfl) rfl #[.slice A0 l0.length c0] rfl zl ?_; (with_reducible refine (aumbryref04_Kids.calls k _ _ l0 t111 _ ?side1 ?side2 A14.out).mono ?_); (case side1 => exact Kd.C_below HR0.out zg); (case side2 => exact HC0.out); rintro e w15 ⟨v112, rfl, ho0, hb⟩; refine ⟨_, rfl, ?_⟩; have HO113 := zM (Kd.N_lower (Kd.N_mono (ok' := fun k_ => (w.heap.size ≤ k_)) (Kd.S_N (Kd.S_bound ho0)) (fun k_ hk_ => (Nat.le_trans (below_size zb) hk_.2.1))) (below_size zb)); replace HB := zM (below_step zb hb); (try clear hb); (try clear ho0); obtain ⟨Ao16, co16, eo16⟩ := Kd.N_slice HO113.out; subst eo16))
  go_loopg [5, 27] k (fun kq v5 v27 w' => ∃ (x5_1 : List (S70)) (x27_1 : Int), v27 = .int .i64 x27_1 ∧ Aside0 (aumbryref07_Todo.l0 kq l0 l1 x5_1 t111 (t111.length : Int) x27_1 = some r) ∧ Aside0 (kq ≤ k) ∧ Aside0 (Kd.N k70 70 w' w.heap.size (fun k_ => (w.heap.size ≤ k_) ∧ some k_ ≠ ((.slice Ao16 t111.length co16) : Value).ownBlock) v5 x5_1) ∧ Aside0 (Kd.N (Kd.slice 54 k54) 23 w' w.heap.size (fun k_ => (w.heap.size ≤ k_) ∧ some k_ ≠ (v5 : Value).ownBlock) (.slice Ao16 t111.length co16) t111) ∧ Aside0 (Below w.heap.size w w'))
  case atStart => exact ⟨(([] : List (S70))), (0), zy, H', ⟨Nat.le_refl _⟩, ⟨by first | exact Kd.S_nil _ _ _ _ _ | exact Kd.N_nil _ _ _ _ _ | exact Kd.V_nil _ _ _ _ _ | exact Kd.Q_nil _ _ _ _ _ | exact Kd.R_nil _ _ _ _ _⟩, ⟨by (with_reducible repeat (first | apply Kd.N_alloc | apply Kd.N_drewN | apply Kd.N_drew)); exact Kd.N_mono HO113.out (fun _ hk => ⟨hk, (by simp [Value.ownBlock])⟩)⟩, ⟨zb⟩⟩
  case round =>
   clear H'
   try clear c1
   try clear p1
   try clear q1
   try clear hx1
   try clear qi1
   try clear p2
   try clear c3
   try clear c4
   try clear c5
   try clear c5b0
   try clear c5b1
   try clear c7
   try clear c7b0
   try clear c8
   try clear c8b0
   try clear c10
   try clear p10
   try clear q10
   try clear hx10
   try clear qi10
   try clear c13
   try clear hx102_0
   try clear hx102_1
   try clear hx104_0
   try clear hx104_1
   try clear p102
   try clear p104
   try clear q102
   try clear q104
   obtain ⟨x5_1, x27_1, rfl, HA, HK1, HO_5, HO_6, HB⟩ := hrel
   cases gk with
   | zero => exact absurd HA.out (by simp [aumbryref07_Todo.l0])
   | succ k1 =>
    have H := HA.out
    clear HA
    simp only [aumbryref07_Todo.l0] at H
    by_cases c17 : x27_1 < (t111.length : Int)
    ·
     rw [if_pos c17] at H
     have c17b0 : decide (x27_1 < (t111.length : Int)) = true := zQ c17
     clear c17
     by_cases c18 : 0 ≤ x27_1
     ·
      rw [if_pos c18] at H
      have c18b0 : decide (0 ≤ x27_1) = true := zQ c18
      clear c18
      by_cases c19 : x27_1 < (t111.length : Int)
      ·
       rw [if_pos c19] at H
       have c19b0 : decide (x27_1 < (t111.length : Int)) = true := zQ c19
       clear c19
       replace H := zB H
       obtain ⟨t115, A200, H⟩ := H
       try dsimp only at H
       have A20 := zM A200
       clear A200
       by_cases c21 : x5_1.length + t115.length < 2513169434916
       ·
        rw [if_pos c21] at H
        have LMc21 := zM c21
        clear c21
        obtain ⟨y118, hy118⟩ : ∃ y_ : List (S70), y_ = (x5_1 ++ t115) := ⟨_, rfl⟩
        replace H : (aumbryref07_Todo.l0 k1 l0 l1 y118 t111 (t111.length : Int) (wrap64 (x27_1 + 1))) = some r := by first | (rw [hy118]; with_reducible exact H) | (have H2_ := (Option.bind_some _ _).symm.trans H; rw [hy118]; with_reducible exact H2_) | (have H2_ := (Option.bind_some _ _).symm.trans H; with_reducible exact H2_) | with_reducible exact H | (rw [hy118]; exact H) | exact H
        have Ny118 := zM hy118
        clear hy118
        have H' := zM H
        clear H
        have p114 : 0 ≤ (x27_1 : Int) := zT zv
        have q114 : x27_1 < (t111.length : Int) := zT zv
        obtain ⟨ad114, A114_0, c114_0, e114, hx114_0, hl114_0, hi114_0⟩ := at_L3 (Kd.N_reads' HO_6.out).2.2 x27_1 p114 q114
        cases e114
        obtain ⟨ce114, hce114, hMe114, hcc114⟩ := Kd.N_get HO_6.out [] x27_1 p114 (by first | exact q114 | exact zT zv | (have e_ := (Kd.N_reads' HO_6.out).1; omega))
        obtain ⟨ua114_0, uc114_0, rfl, ul114_0, ge114_0⟩ := Kd.FK_slice_open hMe114
        have hv114_0 := hcc114 0 _ rfl
        rw [Nat.add_zero, show ((Kd.slice 54 k54)).sz = 1 from rfl, Nat.mul_one] at hv114_0
        replace hv114_0 := zS (hv114_0.symm.trans hx114_0)
        injection hv114_0 with hva_ hvn_ hvc_
        rw [hva_] at ge114_0
        rw [hvc_] at ul114_0
        have HL114_0 := zM (show Kd.V k54 54 _ w.heap.size _ _ (rd_L3 t111 x27_1) from Kd.V_mk ul114_0 ge114_0)
        clear hva_ hvn_ hvc_ ge114_0 ul114_0
        clear hcc114 hce114
        have HR114_0 := zM hi114_0
        have HC114_0 := zM hl114_0
        clear hi114_0 hl114_0
        replace p114 := eq_true p114
        replace q114 := eq_true q114
        go_wp2_with (first | ((with_reducible refine gate_callee (f := 36) rfl ?_); refine goesL_ (some 36) rfl rfl Try.func36 (by kernel_rfl) rfl #[.slice A114_0 (rd_L3 t111 x27_1).length c114_0, .slice A1 l1.length c1] rfl zl ?_; (with_reducible refine (ih k1 (by have := HK1.out; omega) _ _ (rd_L3 t111 x27_1) _ _ l1 t115 _ ?side1 ?side2 ?side3 ?side4 A20.out).mono ?_); (case side1 => repeat (first | exact (by repeat (first | (with_reducible exact HR114_0.out) | (with_reducible first | refine Kd.C_alloc ?_ _ | refine Kd.C_drewN ?_ _ | refine Kd.C_drew ?_) | exact HR114_0.out)) | (with_reducible first | refine Kd.C_alloc ?_ _ | refine Kd.C_drewN ?_ _ | refine Kd.C_drew ?_))); (case side2 => exact HC114_0.out); (case side3 => exact Kd.C_below HR1.out zb); (case side4 => exact HC1.out); rintro e w22 ⟨v116, rfl, ho0, hb⟩; refine ⟨_, rfl, ?_⟩; replace HL114_0 := zM (Kd.V_elder' (Kd.V_below HL114_0.out zg) (Kd.N_base ho0) hb); have HO117 := zM (Kd.N_lower (Kd.N_mono (ok' := fun k_ => (w.heap.size ≤ k_) ∧ some k_ ≠ (u5 : Value).ownBlock ∧ some k_ ≠ (.slice (some ad114) t111.length co16 : Value).ownBlock) ho0 (fun k_ hk_ => ⟨(Nat.le_trans (below_size zb) hk_), (Kd.fresh' (Kd.N_lt (Kd.N_below HO_5.out zg)) k_ hk_), (Kd.fresh' (Kd.N_lt (Kd.N_below HO_6.out zg)) k_ hk_)⟩)) (below_size zb)); replace HO_5 := zM (Kd.N_elder' (Kd.N_below HO_5.out zg) (Kd.N_base ho0) hb); replace HO_6 := zM (Kd.N_elder' (Kd.N_below HO_6.out zg) (Kd.N_base ho0) hb); replace HR114_0 := zM (Kd.C_below (by repeat (first | (with_reducible exact HR114_0.out) | (with_reducible first | refine Kd.C_alloc ?_ _ | refine Kd.C_drewN ?_ _ | refine Kd.C_drew ?_) | exact HR114_0.out)) hb); replace HB := zM (below_step zb hb); (try clear hb); (try clear ho0); obtain ⟨Ao24, co24, eo24⟩ := Kd.N_slice HO117.out; subst eo24) | ((with_reducible refine gate_builtin (b := .append) (xs := #[.tmp 30, .tmp 36]) rfl ?_); at_builtin; refine Kd.N_append_rows k70 (w0 := w) w.heap.size rfl (.tmp 30) (.tmp 36) 24 70 (.agg #[(.int .i64 0), (.string ⟨#[]⟩), (.int .i64 0), (.slice none 0 0)]) 56 rfl Try.underlying24 info70 rfl (by decide) (by omega) u5 x5_1 t115 _ _ _ (fun k_ => (w.heap.size ≤ k_) ∧ some k_ ≠ (.slice (some ad114) t111.length co16 : Value).ownBlock) (fun k_ => ((fun k_ => (w.heap.size ≤ k_) ∧ some k_ ≠ (.slice (some ad114) t111.length co16 : Value).ownBlock)) k_ ∧ some k_ ≠ (u5 : Value).ownBlock) rfl rfl ?aO ?aR (fun _ hk => hk) ?aF ?aB ?aS ?aL ?_; (case aR => exact (by skip; exact Kd.N_F (Kd.N_mono (ok' := (fun k_ => ((fun k_ => (w.heap.size ≤ k_) ∧ some k_ ≠ (.slice (some ad114) t111.length co16 : Value).ownBlock)) k_ ∧ some k_ ≠ (u5 : Value).ownBlock)) (HO117.out) (fun k_ hk => ⟨⟨hk.1, hk.2.2⟩, hk.2.1⟩)))); (case aB => exact zb); (case aF => exact (fun k_ hk => ⟨(Nat.le_trans (below_size zb) hk), Kd.fresh' (Kd.N_lt (Kd.N_below HO_6.out zg)) k_ hk⟩)); (case aO => exact (by (with_reducible repeat (first | apply Kd.N_alloc | apply Kd.N_drewN | apply Kd.N_drew)); exact Kd.N_mono HO_5.out (fun _ hk => ⟨hk.1.1, hk.1.2⟩))); (case aS => exact (below_size zb)); (case aL => have := LMc21.out; omega); intro v119 w23 ho hb hg hat; rw [← Ny118.out] at ho; replace HO_6 := zM (Kd.N_afterv (ok := (fun k_ => (w.heap.size ≤ k_) ∧ some k_ ≠ (.slice Ao24 t115.length co24 : Value).ownBlock)) (by (with_reducible repeat (first | apply Kd.N_alloc | apply Kd.N_drewN | apply Kd.N_drew)); exact Kd.N_mono HO_6.out (fun _ hk => ⟨⟨hk.1.1, hk.2⟩, hk.1.2⟩)) hg hat); replace HL114_0 := zM (Kd.V_afterv (ok := (fun k_ => (w.heap.size ≤ k_) ∧ some k_ ≠ (.slice (some ad114) t111.length co16 : Value).ownBlock ∧ some k_ ≠ (.slice Ao24 t115.length co24 : Value).ownBlock)) (by (with_reducible repeat (first | apply Kd.V_alloc | apply Kd.V_drewN | apply Kd.V_drew)); exact Kd.V_mono HL114_0.out (fun _ hk => ⟨⟨hk.1.1.1, ⟨hk.1.2, hk.2⟩⟩, hk.1.1.2⟩)) hg hat); replace HO117 := zM (Kd.N_afterv (ok := (fun k_ => (w.heap.size ≤ k_) ∧ some k_ ≠ (.slice (some ad114) t111.length co16 : Value).ownBlock)) (by (with_reducible repeat (first | apply Kd.N_alloc | apply Kd.N_drewN | apply Kd.N_drew)); exact Kd.N_mono HO117.out (fun _ hk => ⟨⟨hk.1, hk.2.2⟩, hk.2.1⟩)) hg hat); replace HB := zM (hb); have HO120 := zM (ho); clear HO_5; clear ho hb hg hat))
        go_roundg k1
        case measure => have := HK1.out; omega
        case rel => exact ⟨(y118), (wrap64 (x27_1 + 1)), zy, H', ⟨by have := HK1.out; omega⟩, ⟨Kd.N_below HO120.out zg⟩, ⟨by (with_reducible repeat (first | apply Kd.N_alloc | apply Kd.N_drewN | apply Kd.N_drew)); exact Kd.N_mono HO_6.out (fun _ hk => ⟨hk.1.1, hk.2⟩)⟩, ⟨zb⟩⟩
       ·
        rw [if_neg c21] at H
        exact absurd H (by simp)
      ·
       rw [if_neg c19] at H
       exact absurd H (by simp)
     ·
      rw [if_neg c18] at H
      exact absurd H (by simp)
    ·
     rw [if_neg c17] at H
     have c17b0 : decide (x27_1 < (t111.length : Int)) = false := zR c17
     clear c17
     by_cases c25 : 0 < (l0.length : Int)
     ·
      rw [if_pos c25] at H
      have c25b0 : decide (0 < (l0.length : Int)) = true := zQ c25
      have c25b1 : decide (0 < l0.length) = true := zQ (by omega)
      clear c25
      by_cases c26 : x5_1.length < 2513169434916
      ·
       rw [if_pos c26] at H
       have LMc26 := zM c26
       clear c26
       obtain ⟨y122, hy122⟩ : ∃ y_ : List (S70), y_ = (x5_1 ++ [(⟨1, (⟨(rd_T54 l0 0).f0, (rd_T54 l0 0).f1⟩ : S54), ([] : List (S54))⟩ : S70)]) := ⟨_, rfl⟩
       replace H : (some y122) = some r := by first | (rw [hy122]; with_reducible exact H) | (have H2_ := (Option.bind_some _ _).symm.trans H; rw [hy122]; with_reducible exact H2_) | (have H2_ := (Option.bind_some _ _).symm.trans H; with_reducible exact H2_) | with_reducible exact H | (rw [hy122]; exact H) | exact H
       have Ny122 := zM hy122
       clear hy122
       obtain rfl := zS H
       have p121 : 0 ≤ (0 : Int) := (by omega)
       have q121 : 0 < (l0.length : Int) := zT zv
       obtain ⟨ad121, e121, hx121_0, hx121_1⟩ := at_T54 HR0.out 0 p121 q121
       cases e121
       have qi121 : (0 < l0.length) = True := eq_true (by omega)
       (try rw [show ((0 : Int)).toNat = 0 from rfl] at hx121_0)
       (try rw [show 0 * 2 = 0 from rfl] at hx121_0)
       (try rw [Addr.add_zero'] at hx121_0)
       (try rw [show ((0 : Int)).toNat = 0 from rfl] at hx121_1)
       (try rw [show 0 * 2 = 0 from rfl] at hx121_1)
       (try rw [Addr.add_zero'] at hx121_1)
       replace hx121_0 := (HB.out.cell (World.block_lt_of_cell? w _ hx121_0)).trans hx121_0
       replace hx121_1 := (HB.out.cell (World.block_lt_of_cell? w _ hx121_1)).trans hx121_1
       replace p121 := eq_true p121
       replace q121 := eq_true q121
       go_wp2_with (first | ((with_reducible refine gate_builtin (b := .append) (xs := #[.tmp 39, .tmp 44]) rfl ?_); at_builtin; refine Kd.N_append k70 (w0 := w) w.heap.size rfl (.tmp 39) (.tmp 44) 24 70 (.agg #[(.int .i64 0), (.string ⟨#[]⟩), (.int .i64 0), (.slice none 0 0)]) 56 rfl Try.underlying24 info70 rfl (by decide) (by omega) u5 x5_1 (⟨1, (⟨(rd_T54 l0 0).f0, (rd_T54 l0 0).f1⟩ : S54), ([] : List (S54))⟩ : S70) [.int .i64 1, .string ((rd_T54 l0 0).f0), .int .i64 ((rd_T54 l0 0).f1), .slice none 0 0] (fun k_ => (w.heap.size ≤ k_) ∧ some k_ ≠ (.slice Ao16 t111.length co16 : Value).ownBlock) (fun k_ => ((fun k_ => (w.heap.size ≤ k_) ∧ some k_ ≠ (.slice Ao16 t111.length co16 : Value).ownBlock)) k_ ∧ some k_ ≠ (u5 : Value).ownBlock) rfl rfl ?aP (fun _ hk => hk) ?aF ?aO ?aB ?aS ?aL ?_; (case aP => exact (k70_mkF _ _ (⟨1, (⟨(rd_T54 l0 0).f0, (rd_T54 l0 0).f1⟩ : S54), ([] : List (S54))⟩ : S70) (Nat.le_refl _) (Kd.F_nil _ _ _))); (case aB => exact zb); (case aF => exact (fun k_ hk => ⟨(Nat.le_trans (below_size zb) hk), Kd.fresh' (Kd.N_lt (Kd.N_below HO_6.out zg)) k_ hk⟩)); (case aO => exact (Kd.N_below HO_5.out zg)); (case aS => exact (below_size zb)); (case aL => have := LMc26.out; omega); intro v123 w27 ho hb hg hat; rw [← Ny122.out] at ho; replace HO_6 := zM (Kd.N_afterv (ok := (fun k_ => (w.heap.size ≤ k_))) (Kd.N_below HO_6.out zg) hg hat); replace HB := zM (hb); have HO124 := zM (ho); clear HO_5; clear ho hb hg hat))
       go_ret
       exact ⟨_, zw, by (with_reducible repeat (first | apply Kd.N_alloc | apply Kd.N_drewN | apply Kd.N_drew)); exact Kd.N_mono HO124.out (fun _ hk => hk.1), zb⟩
      ·
       rw [if_neg c26] at H
       exact absurd H (by simp)
     ·
      rw [if_neg c25] at H
      exact absurd H (by simp)


-- ==== PF34

def aumbryref04_Check.l0 : Nat → List (S54) → Int → Int → Option (Int)
 | 0, _, _, _ => none
 | k + 1, x0, x9, x10 => if x10 < x9 then (if 0 ≤ x10 then (if x10 < (x0.length : Int) then ((aumbryref03_Kind.f k ((rd_T54 x0 x10).f0)).bind fun t103 => (if t103 = 0 then (some 4) else (if ((rd_T54 x0 x10).f1) < 0 then (some 5) else (if ((rd_T54 x0 x10).f1) > 4 then (some 5) else (if t103 = 2 then (if ((rd_T54 x0 x10).f1) = 0 then (aumbryref04_Check.l0 k x0 x9 (wrap64 (x10 + 1))) else (some 5)) else (aumbryref04_Check.l0 k x0 x9 (wrap64 (x10 + 1)))))))) else (none)) else (none)) else ((aumbryref04_Behind.f k x0 0).bind fun t101 => (if t101 = (x0.length : Int) then (some 0) else (some 3)))
def aumbryref04_Check.f (k : Nat) (l0 : List (S54)) : Option (Int) := if (l0.length : Int) > 64 then (some 6) else (aumbryref04_Check.l0 k l0 (l0.length : Int) 0)
theorem aumbryref04_Check.calls (k : Nat) (A0 : Option Addr) (c0 : Nat) (l0 : List (S54)) (r : Int) (w : World) (hr0 : Kd.C k54 w A0 l0.length l0) (hc0 : l0.length ≤ c0) (h : aumbryref04_Check.f k l0 = some r) :
 Calls Try.prog 34 #[.slice A0 l0.length c0] w fun e w' => e = .returned (.int .i64 r) ∧ Drawn0 w w' := by
 have HR0 := zM hr0
 have HC0 := zM hc0
 clear hr0 hc0
 have H : (if (l0.length : Int) > 64 then (some 6) else (aumbryref04_Check.l0 k l0 (l0.length : Int) 0)) = some r := h
 clear h
 by_cases c2 : (l0.length : Int) > 64
 ·
  rw [if_pos c2] at H
  have c2b0 : decide (64 < (l0.length : Int)) = true := zQ c2
  have c2b1 : decide (64 < l0.length) = true := zQ (by omega)
  clear c2
  obtain rfl := zS H
  go_enter Try.func34, Try.ntmps34
  go_wp2
  go_ret
  exact ⟨zy, zd⟩
 ·
  rw [if_neg c2] at H
  have c2b0 : decide (64 < (l0.length : Int)) = false := zR c2
  have c2b1 : decide (64 < l0.length) = false := zR (by omega)
  clear c2
  have H' := zM H
  clear H
  go_enter Try.func34, Try.ntmps34
  go_wp2
  go_loopg [10] k (fun kq v10 w' => ∃ (x10_1 : Int), v10 = .int .i64 x10_1 ∧ Aside0 (aumbryref04_Check.l0 kq l0 (l0.length : Int) x10_1 = some r) ∧ Aside0 (kq ≤ k) ∧ Drawn0 w w')
  case atStart => exact ⟨(0), zy, H', ⟨Nat.le_refl _⟩, zd⟩
  case round =>
   clear H'
   try clear c2
   try clear c2b0
   try clear c2b1
   try clear p2
   obtain ⟨x10_1, rfl, HA, HK1, ⟨m1, rfl⟩⟩ := hrel
   cases gk with
   | zero => exact absurd HA.out (by simp [aumbryref04_Check.l0])
   | succ k1 =>
    have H := HA.out
    clear HA
    simp only [aumbryref04_Check.l0] at H
    by_cases c3 : x10_1 < (l0.length : Int)
    ·
     rw [if_pos c3] at H
     have c3b0 : decide (x10_1 < (l0.length : Int)) = true := zQ c3
     clear c3
     by_cases c4 : 0 ≤ x10_1
     ·
      rw [if_pos c4] at H
      have c4b0 : decide (0 ≤ x10_1) = true := zQ c4
      clear c4
      by_cases c5 : x10_1 < (l0.length : Int)
      ·
       rw [if_pos c5] at H
       have c5b0 : decide (x10_1 < (l0.length : Int)) = true := zQ c5
       clear c5
       replace H := zB H
       obtain ⟨t103, A60, H⟩ := H
       try dsimp only at H
       have A6 := zM A60
       clear A60
       by_cases c7 : t103 = 0
       ·
        rw [if_pos c7] at H
        have c7b0 : (t103 == 0) = true := zG c7
        have c7b1 : (t103 != 0) = false := zH c7
        clear c7
        obtain rfl := zS H
        have p102 : 0 ≤ (x10_1 : Int) := zT zv
        have q102 : x10_1 < (l0.length : Int) := zT zv
        obtain ⟨ad102, e102, hx102_0, hx102_1⟩ := at_T54 HR0.out x10_1 p102 q102
        cases e102
        replace p102 := eq_true p102
        replace q102 := eq_true q102
        go_wp2_with (first | ((with_reducible refine gate_callee (f := 45) rfl ?_); refine goesL_ (some 18) rfl rfl Try.func45 (by kernel_rfl) rfl #[.string ((rd_T54 l0 x10_1).f0)] rfl zl ?_; (with_reducible refine (aumbryref03_Kind.calls k1 ((rd_T54 l0 x10_1).f0) t103 _ A6.out).mono ?_); rintro e w' ⟨rfl, ⟨nd, rfl⟩⟩; refine ⟨_, rfl, ?_⟩))
        go_ret
        exact ⟨zy, zd⟩
       ·
        rw [if_neg c7] at H
        have c7b0 : (t103 == 0) = false := zE c7
        have c7b1 : (t103 != 0) = true := zF c7
        by_cases c8 : ((rd_T54 l0 x10_1).f1) < 0
        ·
         rw [if_pos c8] at H
         have c8b0 : decide (((rd_T54 l0 x10_1).f1) < 0) = true := zQ c8
         clear c8
         obtain rfl := zS H
         have p102 : 0 ≤ (x10_1 : Int) := zT zv
         have q102 : x10_1 < (l0.length : Int) := zT zv
         obtain ⟨ad102, e102, hx102_0, hx102_1⟩ := at_T54 HR0.out x10_1 p102 q102
         cases e102
         replace p102 := eq_true p102
         replace q102 := eq_true q102
         go_wp2_with (first | ((with_reducible refine gate_callee (f := 45) rfl ?_); refine goesL_ (some 18) rfl rfl Try.func45 (by kernel_rfl) rfl #[.string ((rd_T54 l0 x10_1).f0)] rfl zl ?_; (with_reducible refine (aumbryref03_Kind.calls k1 ((rd_T54 l0 x10_1).f0) t103 _ A6.out).mono ?_); rintro e w' ⟨rfl, ⟨nd, rfl⟩⟩; refine ⟨_, rfl, ?_⟩; have p104 : 0 ≤ (x10_1 : Int) := zT zv; have q104 : x10_1 < (l0.length : Int) := zT zv; obtain ⟨ad104, e104, hx104_0, hx104_1⟩ := at_T54 HR0.out x10_1 p104 q104; obtain rfl : ad102 = ad104 := (by injection e104); replace p104 := eq_true p104; replace q104 := eq_true q104))
         go_ret
         exact ⟨zy, zd⟩
        ·
         rw [if_neg c8] at H
         have c8b0 : decide (((rd_T54 l0 x10_1).f1) < 0) = false := zR c8
         clear c8
         by_cases c9 : ((rd_T54 l0 x10_1).f1) > 4
         ·
          rw [if_pos c9] at H
          have c9b0 : decide (4 < ((rd_T54 l0 x10_1).f1)) = true := zQ c9
          clear c9
          obtain rfl := zS H
          have p102 : 0 ≤ (x10_1 : Int) := zT zv
          have q102 : x10_1 < (l0.length : Int) := zT zv
          obtain ⟨ad102, e102, hx102_0, hx102_1⟩ := at_T54 HR0.out x10_1 p102 q102
          cases e102
          replace p102 := eq_true p102
          replace q102 := eq_true q102
          go_wp2_with (first | ((with_reducible refine gate_callee (f := 45) rfl ?_); refine goesL_ (some 18) rfl rfl Try.func45 (by kernel_rfl) rfl #[.string ((rd_T54 l0 x10_1).f0)] rfl zl ?_; (with_reducible refine (aumbryref03_Kind.calls k1 ((rd_T54 l0 x10_1).f0) t103 _ A6.out).mono ?_); rintro e w' ⟨rfl, ⟨nd, rfl⟩⟩; refine ⟨_, rfl, ?_⟩; have p104 : 0 ≤ (x10_1 : Int) := zT zv; have q104 : x10_1 < (l0.length : Int) := zT zv; obtain ⟨ad104, e104, hx104_0, hx104_1⟩ := at_T54 HR0.out x10_1 p104 q104; obtain rfl : ad102 = ad104 := (by injection e104); replace p104 := eq_true p104; replace q104 := eq_true q104; have p105 : 0 ≤ (x10_1 : Int) := zT zv; have q105 : x10_1 < (l0.length : Int) := zT zv; obtain ⟨ad105, e105, hx105_0, hx105_1⟩ := at_T54 HR0.out x10_1 p105 q105; obtain rfl : ad102 = ad105 := (by injection e105); replace p105 := eq_true p105; replace q105 := eq_true q105))
          go_ret
          exact ⟨zy, zd⟩
         ·
          rw [if_neg c9] at H
          have c9b0 : decide (4 < ((rd_T54 l0 x10_1).f1)) = false := zR c9
          clear c9
          by_cases c10 : t103 = 2
          ·
           rw [if_pos c10] at H
           have c10b0 : (t103 == 2) = true := zG c10
           have c10b1 : (t103 != 2) = false := zH c10
           clear c10
           by_cases c11 : ((rd_T54 l0 x10_1).f1) = 0
           ·
            rw [if_pos c11] at H
            have c11b0 : (((rd_T54 l0 x10_1).f1) == 0) = true := zG c11
            have c11b1 : (((rd_T54 l0 x10_1).f1) != 0) = false := zH c11
            clear c11
            have H' := zM H
            clear H
            have p102 : 0 ≤ (x10_1 : Int) := zT zv
            have q102 : x10_1 < (l0.length : Int) := zT zv
            obtain ⟨ad102, e102, hx102_0, hx102_1⟩ := at_T54 HR0.out x10_1 p102 q102
            cases e102
            replace p102 := eq_true p102
            replace q102 := eq_true q102
            go_wp2_with (first | ((with_reducible refine gate_callee (f := 45) rfl ?_); refine goesL_ (some 18) rfl rfl Try.func45 (by kernel_rfl) rfl #[.string ((rd_T54 l0 x10_1).f0)] rfl zl ?_; (with_reducible refine (aumbryref03_Kind.calls k1 ((rd_T54 l0 x10_1).f0) t103 _ A6.out).mono ?_); rintro e w' ⟨rfl, ⟨nd, rfl⟩⟩; refine ⟨_, rfl, ?_⟩; have p104 : 0 ≤ (x10_1 : Int) := zT zv; have q104 : x10_1 < (l0.length : Int) := zT zv; obtain ⟨ad104, e104, hx104_0, hx104_1⟩ := at_T54 HR0.out x10_1 p104 q104; obtain rfl : ad102 = ad104 := (by injection e104); replace p104 := eq_true p104; replace q104 := eq_true q104; have p105 : 0 ≤ (x10_1 : Int) := zT zv; have q105 : x10_1 < (l0.length : Int) := zT zv; obtain ⟨ad105, e105, hx105_0, hx105_1⟩ := at_T54 HR0.out x10_1 p105 q105; obtain rfl : ad102 = ad105 := (by injection e105); replace p105 := eq_true p105; replace q105 := eq_true q105; have p106 : 0 ≤ (x10_1 : Int) := zT zv; have q106 : x10_1 < (l0.length : Int) := zT zv; obtain ⟨ad106, e106, hx106_0, hx106_1⟩ := at_T54 HR0.out x10_1 p106 q106; obtain rfl : ad102 = ad106 := (by injection e106); replace p106 := eq_true p106; replace q106 := eq_true q106))
            go_roundg k1
            case measure => have := HK1.out; omega
            case rel => exact ⟨(wrap64 (x10_1 + 1)), zy, H', ⟨by have := HK1.out; omega⟩, zd⟩
           ·
            rw [if_neg c11] at H
            have c11b0 : (((rd_T54 l0 x10_1).f1) == 0) = false := zE c11
            have c11b1 : (((rd_T54 l0 x10_1).f1) != 0) = true := zF c11
            obtain rfl := zS H
            have p102 : 0 ≤ (x10_1 : Int) := zT zv
            have q102 : x10_1 < (l0.length : Int) := zT zv
            obtain ⟨ad102, e102, hx102_0, hx102_1⟩ := at_T54 HR0.out x10_1 p102 q102
            cases e102
            replace p102 := eq_true p102
            replace q102 := eq_true q102
            go_wp2_with (first | ((with_reducible refine gate_callee (f := 45) rfl ?_); refine goesL_ (some 18) rfl rfl Try.func45 (by kernel_rfl) rfl #[.string ((rd_T54 l0 x10_1).f0)] rfl zl ?_; (with_reducible refine (aumbryref03_Kind.calls k1 ((rd_T54 l0 x10_1).f0) t103 _ A6.out).mono ?_); rintro e w' ⟨rfl, ⟨nd, rfl⟩⟩; refine ⟨_, rfl, ?_⟩; have p104 : 0 ≤ (x10_1 : Int) := zT zv; have q104 : x10_1 < (l0.length : Int) := zT zv; obtain ⟨ad104, e104, hx104_0, hx104_1⟩ := at_T54 HR0.out x10_1 p104 q104; obtain rfl : ad102 = ad104 := (by injection e104); replace p104 := eq_true p104; replace q104 := eq_true q104; have p105 : 0 ≤ (x10_1 : Int) := zT zv; have q105 : x10_1 < (l0.length : Int) := zT zv; obtain ⟨ad105, e105, hx105_0, hx105_1⟩ := at_T54 HR0.out x10_1 p105 q105; obtain rfl : ad102 = ad105 := (by injection e105); replace p105 := eq_true p105; replace q105 := eq_true q105; have p106 : 0 ≤ (x10_1 : Int) := zT zv; have q106 : x10_1 < (l0.length : Int) := zT zv; obtain ⟨ad106, e106, hx106_0, hx106_1⟩ := at_T54 HR0.out x10_1 p106 q106; obtain rfl : ad102 = ad106 := (by injection e106); replace p106 := eq_true p106; replace q106 := eq_true q106))
            go_ret
            exact ⟨zy, zd⟩
          ·
           rw [if_neg c10] at H
           have c10b0 : (t103 == 2) = false := zE c10
           have c10b1 : (t103 != 2) = true := zF c10
           have H' := zM H
           clear H
           have p102 : 0 ≤ (x10_1 : Int) := zT zv
           have q102 : x10_1 < (l0.length : Int) := zT zv
           obtain ⟨ad102, e102, hx102_0, hx102_1⟩ := at_T54 HR0.out x10_1 p102 q102
           cases e102
           replace p102 := eq_true p102
           replace q102 := eq_true q102
           go_wp2_with (first | ((with_reducible refine gate_callee (f := 45) rfl ?_); refine goesL_ (some 18) rfl rfl Try.func45 (by kernel_rfl) rfl #[.string ((rd_T54 l0 x10_1).f0)] rfl zl ?_; (with_reducible refine (aumbryref03_Kind.calls k1 ((rd_T54 l0 x10_1).f0) t103 _ A6.out).mono ?_); rintro e w' ⟨rfl, ⟨nd, rfl⟩⟩; refine ⟨_, rfl, ?_⟩; have p104 : 0 ≤ (x10_1 : Int) := zT zv; have q104 : x10_1 < (l0.length : Int) := zT zv; obtain ⟨ad104, e104, hx104_0, hx104_1⟩ := at_T54 HR0.out x10_1 p104 q104; obtain rfl : ad102 = ad104 := (by injection e104); replace p104 := eq_true p104; replace q104 := eq_true q104; have p105 : 0 ≤ (x10_1 : Int) := zT zv; have q105 : x10_1 < (l0.length : Int) := zT zv; obtain ⟨ad105, e105, hx105_0, hx105_1⟩ := at_T54 HR0.out x10_1 p105 q105; obtain rfl : ad102 = ad105 := (by injection e105); replace p105 := eq_true p105; replace q105 := eq_true q105))
           go_roundg k1
           case measure => have := HK1.out; omega
           case rel => exact ⟨(wrap64 (x10_1 + 1)), zy, H', ⟨by have := HK1.out; omega⟩, zd⟩
      ·
       rw [if_neg c5] at H
       exact absurd H (by simp)
     ·
      rw [if_neg c4] at H
      exact absurd H (by simp)
    ·
     rw [if_neg c3] at H
     have c3b0 : decide (x10_1 < (l0.length : Int)) = false := zR c3
     clear c3
     replace H := zB H
     obtain ⟨t101, A120, H⟩ := H
     try dsimp only at H
     have A12 := zM A120
     clear A120
     by_cases c13 : t101 = (l0.length : Int)
     ·
      rw [if_pos c13] at H
      have c13b0 : (t101 == (l0.length : Int)) = true := zG c13
      have c13b1 : (t101 != (l0.length : Int)) = false := zH c13
      clear c13
      obtain rfl := zS H
      go_wp2_with (first | ((with_reducible refine gate_callee (f := 65) rfl ?_); refine goesL_ (some 49) rfl rfl Try.func65 (by kernel_rfl) rfl #[.slice A0 l0.length c0, .int .i64 0] rfl zl ?_; (with_reducible refine (aumbryref04_Behind.calls k1 _ _ l0 0 t101 _ ?side1 ?side2 A12.out).mono ?_); (case side1 => exact Kd.C_below HR0.out zg); (case side2 => exact HC0.out); rintro e w' ⟨rfl, ⟨nd, rfl⟩⟩; refine ⟨_, rfl, ?_⟩))
      go_ret
      exact ⟨zy, zd⟩
     ·
      rw [if_neg c13] at H
      have c13b0 : (t101 == (l0.length : Int)) = false := zE c13
      have c13b1 : (t101 != (l0.length : Int)) = true := zF c13
      obtain rfl := zS H
      go_wp2_with (first | ((with_reducible refine gate_callee (f := 65) rfl ?_); refine goesL_ (some 49) rfl rfl Try.func65 (by kernel_rfl) rfl #[.slice A0 l0.length c0, .int .i64 0] rfl zl ?_; (with_reducible refine (aumbryref04_Behind.calls k1 _ _ l0 0 t101 _ ?side1 ?side2 A12.out).mono ?_); (case side1 => exact Kd.C_below HR0.out zg); (case side2 => exact HC0.out); rintro e w' ⟨rfl, ⟨nd, rfl⟩⟩; refine ⟨_, rfl, ?_⟩))
      go_ret
      exact ⟨zy, zd⟩


-- ==== PF78

def aumbryref03_Has.l0 : Nat → List ByteArray → ByteArray → Int → Int → Option (Bool)
 | 0, _, _, _, _ => none
 | k + 1, x0, x1, x7, x8 => if x8 < x7 then (if 0 ≤ x8 then (if x8 < (x0.length : Int) then (if (rdOf ByteArray.empty x0 x8).toList = x1.toList then (some true) else (aumbryref03_Has.l0 k x0 x1 x7 (wrap64 (x8 + 1)))) else (none)) else (none)) else (some false)
def aumbryref03_Has.f (k : Nat) (l0 : List ByteArray) (a1 : ByteArray) : Option (Bool) := aumbryref03_Has.l0 k l0 a1 (l0.length : Int) 0
theorem aumbryref03_Has.calls (k : Nat) (A0 : Option Addr) (c0 : Nat) (l0 : List ByteArray) (a1 : ByteArray) (r : Bool) (w : World) (hr0 : Kd.C Kd.string w A0 l0.length l0) (hc0 : l0.length ≤ c0) (h : aumbryref03_Has.f k l0 a1 = some r) :
 Calls Try.prog 78 #[.slice A0 l0.length c0, .string a1] w fun e w' => e = .returned (.bool r) ∧ Drawn0 w w' := by
 have HR0 := zM hr0
 have HC0 := zM hc0
 clear hr0 hc0
 have H : (aumbryref03_Has.l0 k l0 a1 (l0.length : Int) 0) = some r := h
 clear h
 have H' := zM H
 clear H
 go_enter Try.func78, Try.ntmps78
 go_wp2
 go_loopg [8] k (fun kq v8 w' => ∃ (x8_1 : Int), v8 = .int .i64 x8_1 ∧ Aside0 (aumbryref03_Has.l0 kq l0 a1 (l0.length : Int) x8_1 = some r) ∧ Aside0 (kq ≤ k) ∧ Drawn0 w w')
 case atStart => exact ⟨(0), zy, H', ⟨Nat.le_refl _⟩, zd⟩
 case round =>
  clear H'
  try clear p2
  obtain ⟨x8_1, rfl, HA, HK1, ⟨m1, rfl⟩⟩ := hrel
  cases gk with
  | zero => exact absurd HA.out (by simp [aumbryref03_Has.l0])
  | succ k1 =>
   have H := HA.out
   clear HA
   simp only [aumbryref03_Has.l0] at H
   by_cases c3 : x8_1 < (l0.length : Int)
   ·
    rw [if_pos c3] at H
    have c3b0 : decide (x8_1 < (l0.length : Int)) = true := zQ c3
    clear c3
    by_cases c4 : 0 ≤ x8_1
    ·
     rw [if_pos c4] at H
     have c4b0 : decide (0 ≤ x8_1) = true := zQ c4
     clear c4
     by_cases c5 : x8_1 < (l0.length : Int)
     ·
      rw [if_pos c5] at H
      have c5b0 : decide (x8_1 < (l0.length : Int)) = true := zQ c5
      clear c5
      by_cases c6 : (rdOf ByteArray.empty l0 x8_1).toList = a1.toList
      ·
       rw [if_pos c6] at H
       have c6b0 : ((rdOf ByteArray.empty l0 x8_1).toList == a1.toList) = true := zG c6
       have c6b1 : ((rdOf ByteArray.empty l0 x8_1).toList != a1.toList) = false := zH c6
       clear c6
       obtain rfl := zS H
       have p101 : 0 ≤ (x8_1 : Int) := zT zv
       have q101 : x8_1 < (l0.length : Int) := zT zv
       obtain ⟨ad101, e101, hx101_0⟩ := Kd.at_string HR0.out x8_1 p101 q101
       cases e101
       replace p101 := eq_true p101
       replace q101 := eq_true q101
       go_wp2
       go_ret
       exact ⟨zy, zd⟩
      ·
       rw [if_neg c6] at H
       have c6b0 : ((rdOf ByteArray.empty l0 x8_1).toList == a1.toList) = false := zE c6
       have c6b1 : ((rdOf ByteArray.empty l0 x8_1).toList != a1.toList) = true := zF c6
       have H' := zM H
       clear H
       have p101 : 0 ≤ (x8_1 : Int) := zT zv
       have q101 : x8_1 < (l0.length : Int) := zT zv
       obtain ⟨ad101, e101, hx101_0⟩ := Kd.at_string HR0.out x8_1 p101 q101
       cases e101
       replace p101 := eq_true p101
       replace q101 := eq_true q101
       go_wp2
       go_roundg k1
       case measure => have := HK1.out; omega
       case rel => exact ⟨(wrap64 (x8_1 + 1)), zy, H', ⟨by have := HK1.out; omega⟩, zd⟩
     ·
      rw [if_neg c5] at H
      exact absurd H (by simp)
    ·
     rw [if_neg c4] at H
     exact absurd H (by simp)
   ·
    rw [if_neg c3] at H
    have c3b0 : decide (x8_1 < (l0.length : Int)) = false := zR c3
    clear c3
    obtain rfl := zS H
    go_wp2
    go_ret
    exact ⟨zy, zd⟩


-- ==== PF52

def aumbryref04_Vars.l0 : Nat → List (S54) → List ByteArray → Int → Int → Option (List ByteArray)
 | 0, _, _, _, _ => none
 | k + 1, x0, x3, x6, x7 => if x7 < x6 then (if 0 ≤ x7 then (if x7 < (x0.length : Int) then ((aumbryref03_Kind.f k ((rd_T54 x0 x7).f0)).bind fun t102 => (if t102 = 2 then ((aumbryref03_Has.f k x3 ((rd_T54 x0 x7).f0)).bind fun t104 => (if t104 = true then (aumbryref04_Vars.l0 k x0 x3 x6 (wrap64 (x7 + 1))) else (if x3.length < 8796093022208 then (aumbryref04_Vars.l0 k x0 (x3 ++ [(rd_T54 x0 x7).f0]) x6 (wrap64 (x7 + 1))) else (none)))) else (aumbryref04_Vars.l0 k x0 x3 x6 (wrap64 (x7 + 1))))) else (none)) else (none)) else (some x3)
def aumbryref04_Vars.f (k : Nat) (l0 : List (S54)) : Option (List ByteArray) := aumbryref04_Vars.l0 k l0 ([] : List ByteArray) (l0.length : Int) 0
theorem aumbryref04_Vars.calls (k : Nat) (A0 : Option Addr) (c0 : Nat) (l0 : List (S54)) (r : List ByteArray) (w : World) (hr0 : Kd.C k54 w A0 l0.length l0) (hc0 : l0.length ≤ c0) (h : aumbryref04_Vars.f k l0 = some r) :
 Calls Try.prog 52 #[.slice A0 l0.length c0] w fun e w' => ∃ v0_ : Value, e = .returned (v0_) ∧ Kd.R Kd.string 9 w' w.heap.size (fun _ => True) v0_ r ∧ Below w.heap.size w w' := by
 have HR0 := zM hr0
 have HC0 := zM hc0
 clear hr0 hc0
 have HB := zM (Below.refl w.heap.size w)
 have H : (aumbryref04_Vars.l0 k l0 ([] : List ByteArray) (l0.length : Int) 0) = some r := h
 clear h
 have H' := zM H
 clear H
 go_enter Try.func52, Try.ntmps52
 go_wp2
 go_loopg [3, 7] k (fun kq v3 v7 w' => ∃ (x3_1 : List ByteArray) (x7_1 : Int), v7 = .int .i64 x7_1 ∧ Aside0 (aumbryref04_Vars.l0 kq l0 x3_1 (l0.length : Int) x7_1 = some r) ∧ Aside0 (kq ≤ k) ∧ Aside0 (Kd.R Kd.string 9 w' w.heap.size (fun _ => True) v3 x3_1) ∧ Aside0 (Below w.heap.size w w'))
 case atStart => exact ⟨(([] : List ByteArray)), (0), zy, H', ⟨Nat.le_refl _⟩, ⟨by first | exact Kd.R_nil _ _ _ _ _ | exact Kd.N_nil _ _ _ _ _ | exact Kd.V_nil _ _ _ _ _ | exact Kd.Q_nil _ _ _ _ _ | exact Kd.S_nil _ _ _ _ _⟩, ⟨zb⟩⟩
 case round =>
  clear H'
  obtain ⟨x3_1, x7_1, rfl, HA, HK1, HO_3, HB⟩ := hrel
  cases gk with
  | zero => exact absurd HA.out (by simp [aumbryref04_Vars.l0])
  | succ k1 =>
   have H := HA.out
   clear HA
   simp only [aumbryref04_Vars.l0] at H
   by_cases c2 : x7_1 < (l0.length : Int)
   ·
    rw [if_pos c2] at H
    have c2b0 : decide (x7_1 < (l0.length : Int)) = true := zQ c2
    clear c2
    by_cases c3 : 0 ≤ x7_1
    ·
     rw [if_pos c3] at H
     have c3b0 : decide (0 ≤ x7_1) = true := zQ c3
     clear c3
     by_cases c4 : x7_1 < (l0.length : Int)
     ·
      rw [if_pos c4] at H
      have c4b0 : decide (x7_1 < (l0.length : Int)) = true := zQ c4
      clear c4
      replace H := zB H
      obtain ⟨t102, A50, H⟩ := H
      try dsimp only at H
      have A5 := zM A50
      clear A50
      by_cases c6 : t102 = 2
      ·
       rw [if_pos c6] at H
       have c6b0 : (t102 == 2) = true := zG c6
       have c6b1 : (t102 != 2) = false := zH c6
       clear c6
       replace H := zB H
       obtain ⟨t104, A70, H⟩ := H
       try dsimp only at H
       have A7 := zM A70
       clear A70
       by_cases c8 : t104 = true
       ·
        subst c8
        rw [if_pos rfl] at H
        have H' := zM H
        clear H
        have p101 : 0 ≤ (x7_1 : Int) := zT zv
        have q101 : x7_1 < (l0.length : Int) := zT zv
        obtain ⟨ad101, e101, hx101_0, hx101_1⟩ := at_T54 HR0.out x7_1 p101 q101
        cases e101
        replace hx101_0 := (HB.out.cell (World.block_lt_of_cell? w _ hx101_0)).trans hx101_0
        replace hx101_1 := (HB.out.cell (World.block_lt_of_cell? w _ hx101_1)).trans hx101_1
        replace p101 := eq_true p101
        replace q101 := eq_true q101
        go_wp2_with (first | ((with_reducible refine gate_callee (f := 45) rfl ?_); refine goesL_ (some 15) rfl rfl Try.func45 (by kernel_rfl) rfl #[.string ((rd_T54 l0 x7_1).f0)] rfl zl ?_; (with_reducible refine (aumbryref03_Kind.calls k1 ((rd_T54 l0 x7_1).f0) t102 _ A5.out).mono ?_); rintro e w' ⟨rfl, ⟨nd, rfl⟩⟩; refine ⟨_, rfl, ?_⟩; have p103 : 0 ≤ (x7_1 : Int) := zT zv; have q103 : x7_1 < (l0.length : Int) := zT zv; obtain ⟨ad103, e103, hx103_0, hx103_1⟩ := at_T54 HR0.out x7_1 p103 q103; obtain rfl : ad101 = ad103 := (by injection e103); replace hx103_0 := (HB.out.cell (World.block_lt_of_cell? w _ hx103_0)).trans hx103_0; replace hx103_1 := (HB.out.cell (World.block_lt_of_cell? w _ hx103_1)).trans hx103_1; replace p103 := eq_true p103; replace q103 := eq_true q103; obtain ⟨Ao9, co9, eo9⟩ := Kd.R_slice HO_3.out; subst eo9) | (go_at_call 78; (with_reducible refine (aumbryref03_Has.calls k1 _ _ x3_1 ((rd_T54 l0 x7_1).f0) true _ ?side1 ?side2 A7.out).mono ?_); (case side1 => exact Kd.C_below (Kd.R_reads' HO_3.out).2.2 zg); (case side2 => exact (Kd.R_reads' HO_3.out).2.1); rintro e w' ⟨rfl, ⟨nd, rfl⟩⟩))
        go_roundg k1
        case measure => have := HK1.out; omega
        case rel => exact ⟨(x3_1), (wrap64 (x7_1 + 1)), zy, H', ⟨by have := HK1.out; omega⟩, ⟨zr HO_3.out⟩, ⟨zb⟩⟩
       ·
        replace c8 := zI c8
        subst c8
        rw [if_neg (show ¬ (false = true) by decide)] at H
        by_cases c10 : x3_1.length < 8796093022208
        ·
         rw [if_pos c10] at H
         have LMc10 := zM c10
         clear c10
         obtain ⟨y106, hy106⟩ : ∃ y_ : List ByteArray, y_ = (x3_1 ++ [(rd_T54 l0 x7_1).f0]) := ⟨_, rfl⟩
         replace H : (aumbryref04_Vars.l0 k1 l0 y106 (l0.length : Int) (wrap64 (x7_1 + 1))) = some r := by first | (rw [hy106]; with_reducible exact H) | (have H2_ := (Option.bind_some _ _).symm.trans H; rw [hy106]; with_reducible exact H2_) | (have H2_ := (Option.bind_some _ _).symm.trans H; with_reducible exact H2_) | with_reducible exact H | (rw [hy106]; exact H) | exact H
         have Ny106 := zM hy106
         clear hy106
         have H' := zM H
         clear H
         have p101 : 0 ≤ (x7_1 : Int) := zT zv
         have q101 : x7_1 < (l0.length : Int) := zT zv
         obtain ⟨ad101, e101, hx101_0, hx101_1⟩ := at_T54 HR0.out x7_1 p101 q101
         cases e101
         replace hx101_0 := (HB.out.cell (World.block_lt_of_cell? w _ hx101_0)).trans hx101_0
         replace hx101_1 := (HB.out.cell (World.block_lt_of_cell? w _ hx101_1)).trans hx101_1
         replace p101 := eq_true p101
         replace q101 := eq_true q101
         go_wp2_with (first | ((with_reducible refine gate_callee (f := 45) rfl ?_); refine goesL_ (some 15) rfl rfl Try.func45 (by kernel_rfl) rfl #[.string ((rd_T54 l0 x7_1).f0)] rfl zl ?_; (with_reducible refine (aumbryref03_Kind.calls k1 ((rd_T54 l0 x7_1).f0) t102 _ A5.out).mono ?_); rintro e w' ⟨rfl, ⟨nd, rfl⟩⟩; refine ⟨_, rfl, ?_⟩; have p103 : 0 ≤ (x7_1 : Int) := zT zv; have q103 : x7_1 < (l0.length : Int) := zT zv; obtain ⟨ad103, e103, hx103_0, hx103_1⟩ := at_T54 HR0.out x7_1 p103 q103; obtain rfl : ad101 = ad103 := (by injection e103); replace hx103_0 := (HB.out.cell (World.block_lt_of_cell? w _ hx103_0)).trans hx103_0; replace hx103_1 := (HB.out.cell (World.block_lt_of_cell? w _ hx103_1)).trans hx103_1; replace p103 := eq_true p103; replace q103 := eq_true q103; obtain ⟨Ao11, co11, eo11⟩ := Kd.R_slice HO_3.out; subst eo11) | (go_at_call 78; (with_reducible refine (aumbryref03_Has.calls k1 _ _ x3_1 ((rd_T54 l0 x7_1).f0) false _ ?side1 ?side2 A7.out).mono ?_); (case side1 => exact Kd.C_below (Kd.R_reads' HO_3.out).2.2 zg); (case side2 => exact (Kd.R_reads' HO_3.out).2.1); rintro e w' ⟨rfl, ⟨nd, rfl⟩⟩; have p105 : 0 ≤ (x7_1 : Int) := zT zv; have q105 : x7_1 < (l0.length : Int) := zT zv; obtain ⟨ad105, e105, hx105_0, hx105_1⟩ := at_T54 HR0.out x7_1 p105 q105; obtain rfl : ad101 = ad105 := (by injection e105); replace hx105_0 := (HB.out.cell (World.block_lt_of_cell? w _ hx105_0)).trans hx105_0; replace hx105_1 := (HB.out.cell (World.block_lt_of_cell? w _ hx105_1)).trans hx105_1; replace p105 := eq_true p105; replace q105 := eq_true q105) | ((with_reducible refine gate_builtin (b := .append) (xs := #[.tmp 27, .tmp 33]) rfl ?_); at_builtin; refine Kd.R_append Kd.string (w0 := w) w.heap.size rfl (.tmp 27) (.tmp 33) 26 9 (.string ⟨#[]⟩) 16 rfl Try.underlying26 info9 rfl (by decide) (by omega) (.slice Ao11 x3_1.length co11) x3_1 ((rd_T54 l0 x7_1).f0) [.string ((rd_T54 l0 x7_1).f0)] (fun _ => True) (fun _ => False) rfl rfl ?aP (fun _ hk => hk.elim) ?aF ?aO ?aB ?aS ?aL ?_; (case aP => exact rfl); (case aB => exact zb); (case aF => exact (fun _ _ => trivial)); (case aO => exact (zr HO_3.out)); (case aS => exact (below_size zb)); (case aL => have := LMc10.out; omega); intro v107 w12 ho hb hg hat; rw [← Ny106.out] at ho; replace HB := zM (hb); have HO108 := zM (ho); clear HO_3; clear ho hb hg hat))
         go_roundg k1
         case measure => have := HK1.out; omega
         case rel => exact ⟨(y106), (wrap64 (x7_1 + 1)), zy, H', ⟨by have := HK1.out; omega⟩, ⟨zr HO108.out⟩, ⟨zb⟩⟩
        ·
         rw [if_neg c10] at H
         exact absurd H (by simp)
      ·
       rw [if_neg c6] at H
       have c6b0 : (t102 == 2) = false := zE c6
       have c6b1 : (t102 != 2) = true := zF c6
       have H' := zM H
       clear H
       have p101 : 0 ≤ (x7_1 : Int) := zT zv
       have q101 : x7_1 < (l0.length : Int) := zT zv
       obtain ⟨ad101, e101, hx101_0, hx101_1⟩ := at_T54 HR0.out x7_1 p101 q101
       cases e101
       replace hx101_0 := (HB.out.cell (World.block_lt_of_cell? w _ hx101_0)).trans hx101_0
       replace hx101_1 := (HB.out.cell (World.block_lt_of_cell? w _ hx101_1)).trans hx101_1
       replace p101 := eq_true p101
       replace q101 := eq_true q101
       go_wp2_with (first | ((with_reducible refine gate_callee (f := 45) rfl ?_); refine goesL_ (some 15) rfl rfl Try.func45 (by kernel_rfl) rfl #[.string ((rd_T54 l0 x7_1).f0)] rfl zl ?_; (with_reducible refine (aumbryref03_Kind.calls k1 ((rd_T54 l0 x7_1).f0) t102 _ A5.out).mono ?_); rintro e w' ⟨rfl, ⟨nd, rfl⟩⟩; refine ⟨_, rfl, ?_⟩))
       go_roundg k1
       case measure => have := HK1.out; omega
       case rel => exact ⟨(x3_1), (wrap64 (x7_1 + 1)), zy, H', ⟨by have := HK1.out; omega⟩, ⟨zr HO_3.out⟩, ⟨zb⟩⟩
     ·
      rw [if_neg c4] at H
      exact absurd H (by simp)
    ·
     rw [if_neg c3] at H
     exact absurd H (by simp)
   ·
    rw [if_neg c2] at H
    have c2b0 : decide (x7_1 < (l0.length : Int)) = false := zR c2
    clear c2
    obtain rfl := zS H
    go_wp2
    go_ret
    exact ⟨_, zw, zr HO_3.out, zb⟩


-- ==== PF23

def aumbryref07_Ground.f (k : Nat) (l0 : List (S54)) : Option (Bool) := (aumbryref04_Check.f k l0).bind fun t101 => (if t101 = 0 then ((aumbryref04_Vars.f k l0).bind fun t102 => (some ((t102.length : Int) == 0))) else (some false))
theorem aumbryref07_Ground.calls (k : Nat) (A0 : Option Addr) (c0 : Nat) (l0 : List (S54)) (r : Bool) (w : World) (hr0 : Kd.C k54 w A0 l0.length l0) (hc0 : l0.length ≤ c0) (h : aumbryref07_Ground.f k l0 = some r) :
 Calls Try.prog 23 #[.slice A0 l0.length c0] w fun e w' => e = .returned (.bool r) ∧ Below w.heap.size w w' := by
 have HR0 := zM hr0
 have HC0 := zM hc0
 clear hr0 hc0
 have HB := zM (Below.refl w.heap.size w)
 have H : ((aumbryref04_Check.f k l0).bind fun t101 => (if t101 = 0 then ((aumbryref04_Vars.f k l0).bind fun t102 => (some ((t102.length : Int) == 0))) else (some false))) = some r := h
 clear h
 replace H := zB H
 obtain ⟨t101, A20, H⟩ := H
 try dsimp only at H
 have A2 := zM A20
 clear A20
 by_cases c3 : t101 = 0
 ·
  rw [if_pos c3] at H
  have c3b0 : (t101 == 0) = true := zG c3
  have c3b1 : (t101 != 0) = false := zH c3
  clear c3
  replace H := zB H
  obtain ⟨t102, A40, H⟩ := H
  try dsimp only at H
  have A4 := zM A40
  clear A40
  obtain rfl := zS H
  go_enter Try.func23, Try.ntmps23
  go_wp2_with (first | ((with_reducible refine gate_callee (f := 34) rfl ?_); refine goesL_ (some 4) rfl rfl Try.func34 (by kernel_rfl) rfl #[.slice A0 l0.length c0] rfl zl ?_; (with_reducible refine (aumbryref04_Check.calls k _ _ l0 t101 _ ?side1 ?side2 A2.out).mono ?_); (case side1 => exact Kd.C_below HR0.out zg); (case side2 => exact HC0.out); rintro e w' ⟨rfl, ⟨nd, rfl⟩⟩; refine ⟨_, rfl, ?_⟩) | (go_at_call 52; (with_reducible refine (aumbryref04_Vars.calls k _ _ l0 t102 _ ?side1 ?side2 A4.out).mono ?_); (case side1 => exact Kd.C_below HR0.out zg); (case side2 => exact HC0.out); rintro e w5 ⟨v103, rfl, ho0, hb⟩; have HO104 := zM (Kd.R_lower ho0 (below_size zb)); replace HB := zM (below_step zb hb); (try clear hb); (try clear ho0); obtain ⟨Ao6, co6, eo6⟩ := Kd.R_slice HO104.out; subst eo6))
  go_ret
  exact ⟨zw, zb⟩
 ·
  rw [if_neg c3] at H
  have c3b0 : (t101 == 0) = false := zE c3
  have c3b1 : (t101 != 0) = true := zF c3
  obtain rfl := zS H
  go_enter Try.func23, Try.ntmps23
  go_wp2_with (first | ((with_reducible refine gate_callee (f := 34) rfl ?_); refine goesL_ (some 4) rfl rfl Try.func34 (by kernel_rfl) rfl #[.slice A0 l0.length c0] rfl zl ?_; (with_reducible refine (aumbryref04_Check.calls k _ _ l0 t101 _ ?side1 ?side2 A2.out).mono ?_); (case side1 => exact Kd.C_below HR0.out zg); (case side2 => exact HC0.out); rintro e w' ⟨rfl, ⟨nd, rfl⟩⟩; refine ⟨_, rfl, ?_⟩))
  go_ret
  exact ⟨zw, zb⟩


-- ==== PF53

mutual
def aumbryref06_Check.j0 : Nat → Bool → Int → List (S54) → List (S54) → Option (Int)
 | 0, _, _, _, _ => none
 | k + 1, x15, x102000, x102001, x102002 => if x15 = true then (some 1) else ((aumbryref04_Check.f k x102001).bind fun t102 => (if t102 = 0 then ((aumbryref04_Check.f k x102002).bind fun t103 => (if t103 = 0 then (if (x102001.length : Int) > 8 then (aumbryref06_Check.j1 k true x102000 x102001 x102002) else (aumbryref06_Check.j1 k (decide ((x102002.length : Int) > 8)) x102000 x102001 x102002)) else (some t103))) else (some t102)))
def aumbryref06_Check.j1 : Nat → Bool → Int → List (S54) → List (S54) → Option (Int)
 | 0, _, _, _, _ => none
 | k + 1, x37, x102000, x102001, x102002 => if x37 = true then (some 6) else ((aumbryref05_Var.f k x102001).bind fun t104 => (if t104 = true then (some 20) else ((aumbryref04_Vars.f k x102001).bind fun t105 => ((aumbryref04_Vars.f k x102002).bind fun t108 => (aumbryref06_Check.l0 k t105 t108 (t108.length : Int) 0)))))
def aumbryref06_Check.l0 : Nat → List ByteArray → List ByteArray → Int → Int → Option (Int)
 | 0, _, _, _, _ => none
 | k + 1, x5, x6, x48, x49 => if x49 < x48 then (if 0 ≤ x49 then (if x49 < (x6.length : Int) then ((aumbryref03_Has.f k x5 (rdOf ByteArray.empty x6 x49)).bind fun t112 => (if t112 = true then (aumbryref06_Check.l0 k x5 x6 x48 (wrap64 (x49 + 1))) else (some 7))) else (none)) else (none)) else (some 0)
end
def aumbryref06_Check.f (k : Nat) (a0_0 : Int) (l0_1 : List (S54)) (l0_2 : List (S54)) : Option (Int) := if a0_0 < 0 then (aumbryref06_Check.j0 k true a0_0 l0_1 l0_2) else (aumbryref06_Check.j0 k (decide (a0_0 > 65535)) a0_0 l0_1 l0_2)
def aumbryref06_Check.T13 : Bool × List (List Nat × List Nat) := (true, [([], []), ([0], [0]), ([1], [1]), ([], []), ([3], [3]), ([4, 2], [4]), ([2, 5, 0, 1, 2], [2]), ([5, 6, 0, 1, 2, 3, 4, 5, 6], [5])])
def aumbryref06_Check.B13 : List Nat := [0, 1, 3, 0, 8, 31, 63, 127]
theorem aumbryref06_Check.tab13 : rtab .any (opsOf Try.f53 13) = aumbryref06_Check.T13 := by kernel_rfl
theorem aumbryref06_Check.bits13 : waitsOk aumbryref06_Check.T13.2 aumbryref06_Check.B13 = true := by kernel_rfl
theorem aumbryref06_Check.calls (k : Nat) (a0_0 : Int) (A0_1 : Option Addr) (c0_1 : Nat) (l0_1 : List (S54)) (A0_2 : Option Addr) (c0_2 : Nat) (l0_2 : List (S54)) (r : Int) (w : World) (hr0_1 : Kd.C k54 w A0_1 l0_1.length l0_1) (hc0_1 : l0_1.length ≤ c0_1) (hr0_2 : Kd.C k54 w A0_2 l0_2.length l0_2) (hc0_2 : l0_2.length ≤ c0_2) (h : aumbryref06_Check.f k a0_0 l0_1 l0_2 = some r) :
 Calls Try.prog 53 #[.agg #[.int .i64 a0_0, .slice A0_1 l0_1.length c0_1, .slice A0_2 l0_2.length c0_2]] w fun e w' => e = .returned (.int .i64 r) ∧ Below w.heap.size w w' := by
 have hu73 := Try.underlying73
 have HR0_1 := zM hr0_1
 have HC0_1 := zM hc0_1
 clear hr0_1 hc0_1
 have HR0_2 := zM hr0_2
 have HC0_2 := zM hc0_2
 clear hr0_2 hc0_2
 have HB := zM (Below.refl w.heap.size w)
 have H : (if a0_0 < 0 then (aumbryref06_Check.j0 k true a0_0 l0_1 l0_2) else (aumbryref06_Check.j0 k (decide (a0_0 > 65535)) a0_0 l0_1 l0_2)) = some r := h
 clear h
 have HC2 := zM H
 clear H
 go_enter Try.func53, Try.ntmps53
 go_upto_region 1 with (first | ((with_reducible refine gate_dst (N := 1) rfl ?_); (try (refine gate_guard (by rfl) ?_; dsimp only)); refine box_event ?hg (N := 1) ?hd (cs := #[.int .i64 a0_0, .slice A0_1 l0_1.length c0_1, .slice A0_2 l0_2.length c0_2]) (t := 73) ?hr ?_; (case hd => rfl); (case hg => rfl); (case hr => first | (go_simp; done) | (go_simp; rfl)); intro gb101 hg w3 hbox hb; have BK101 := zM (hbox); have GW101 := zM (zh hg : w.heap.size ≤ gb101); have GE101 := zM (zh hg : w.heap.size ≤ gb101); replace HB := zM (below_step zb hb); clear hb hbox hg))
 (try simp only [Act.put, List.setIfInBounds_toArray, List.set_cons_zero, List.set_cons_succ])
 go_cut [15] (fun v15 wc => ∃ (kq : Nat) (x15_1 : Bool), v15 = .bool x15_1 ∧ Aside0 (aumbryref06_Check.j0 kq x15_1 a0_0 l0_1 l0_2 = some r) ∧ Aside0 (kq ≤ k) ∧ Aside0 (wc.heap[gb101]? = some (.cells #[.int .i64 a0_0, (.slice A0_1 l0_1.length c0_1), (.slice A0_2 l0_2.length c0_2)] 73 (0, 0))) ∧ Aside0 (Below w.heap.size w wc))
 case first =>
  have H := HC2.out
  clear HC2
  by_cases c4 : a0_0 < 0
  ·
   rw [if_pos c4] at H
   have c4b0 : decide (a0_0 < 0) = true := zQ c4
   clear c4
   (first | rw [c4b0] | (simp only [i64_w, i32_w]; rw [c4b0]) | skip)
   have H' := zM H
   clear H
   have hcz5_0 : w3.cell? ⟨gb101, 0, none⟩ = some (.int .i64 a0_0) := (zX BK101.out 0).trans rfl
   have hcz5_1 : w3.cell? ⟨gb101, 1, none⟩ = some (.slice A0_1 l0_1.length c0_1) := (zX BK101.out 1).trans rfl
   have hcz5_2 : w3.cell? ⟨gb101, 2, none⟩ = some (.slice A0_2 l0_2.length c0_2) := (zX BK101.out 2).trans rfl
   have hfz5_0 := zY BK101.out 0
   have hfz5_1 := zY BK101.out 1
   have hfz5_2 := zY BK101.out 2
   go_wp2
   go_meet
   case rel => exact ⟨_, (true), zy, H', ⟨by first | omega | exact Nat.le_refl _⟩, ⟨by refine zk ?_; exact BK101.out⟩, ⟨zb⟩⟩
  ·
   rw [if_neg c4] at H
   have c4b0 : decide (a0_0 < 0) = false := zR c4
   clear c4
   (first | rw [c4b0] | (simp only [i64_w, i32_w]; rw [c4b0]) | skip)
   have H' := zM H
   clear H
   have hcz6_0 : w3.cell? ⟨gb101, 0, none⟩ = some (.int .i64 a0_0) := (zX BK101.out 0).trans rfl
   have hcz6_1 : w3.cell? ⟨gb101, 1, none⟩ = some (.slice A0_1 l0_1.length c0_1) := (zX BK101.out 1).trans rfl
   have hcz6_2 : w3.cell? ⟨gb101, 2, none⟩ = some (.slice A0_2 l0_2.length c0_2) := (zX BK101.out 2).trans rfl
   have hfz6_0 := zY BK101.out 0
   have hfz6_1 := zY BK101.out 1
   have hfz6_2 := zY BK101.out 2
   go_wp2
   go_meet
   case rel => exact ⟨_, (decide (a0_0 > 65535)), zy, H', ⟨by first | omega | exact Nat.le_refl _⟩, ⟨by refine zk ?_; exact BK101.out⟩, ⟨zb⟩⟩
 case rest =>
  clear HC2
  try clear p2
  try clear c4
  try clear c4b0
  try clear c5
  try clear hcz5_0
  try clear hcz5_1
  try clear hcz5_2
  try clear hcz6_0
  try clear hcz6_1
  try clear hcz6_2
  try clear hfz5_0
  try clear hfz5_1
  try clear hfz5_2
  try clear hfz6_0
  try clear hfz6_1
  try clear hfz6_2
  obtain ⟨kq, x15_1, rfl, HA, HJ1, BK101, HB⟩ := hcut
  cases kq with
  | zero => exact absurd HA.out (by simp [aumbryref06_Check.j0])
  | succ kj1 =>
   have H := HA.out
   clear HA
   simp only [aumbryref06_Check.j0] at H
   by_cases c7 : x15_1 = true
   ·
    subst c7
    rw [if_pos rfl] at H
    obtain rfl := zS H
    go_wp2
    go_ret
    exact ⟨zw, zb⟩
   ·
    replace c7 := zI c7
    subst c7
    rw [if_neg (show ¬ (false = true) by decide)] at H
    replace H := zB H
    obtain ⟨t102, A80, H⟩ := H
    try dsimp only at H
    have A8 := zM A80
    clear A80
    by_cases c9 : t102 = 0
    ·
     rw [if_pos c9] at H
     have c9b0 : (t102 == 0) = true := zG c9
     have c9b1 : (t102 != 0) = false := zH c9
     clear c9
     replace H := zB H
     obtain ⟨t103, A100, H⟩ := H
     try dsimp only at H
     have A10 := zM A100
     clear A100
     by_cases c11 : t103 = 0
     ·
      rw [if_pos c11] at H
      have c11b0 : (t103 == 0) = true := zG c11
      have c11b1 : (t103 != 0) = false := zH c11
      clear c11
      have HC12 := zM H
      clear H
      have hcz13_0 : wc.cell? ⟨gb101, 0, none⟩ = some (.int .i64 a0_0) := (zX BK101.out 0).trans rfl
      have hcz13_1 : wc.cell? ⟨gb101, 1, none⟩ = some (.slice A0_1 l0_1.length c0_1) := (zX BK101.out 1).trans rfl
      have hcz13_2 : wc.cell? ⟨gb101, 2, none⟩ = some (.slice A0_2 l0_2.length c0_2) := (zX BK101.out 2).trans rfl
      have hfz13_0 := zY BK101.out 0
      have hfz13_1 := zY BK101.out 1
      have hfz13_2 := zY BK101.out 2
      go_upto_region 9 with (first | ((with_reducible refine gate_callee (f := 34) rfl ?_); refine goesL_ (some 18) rfl rfl Try.func34 (by kernel_rfl) rfl #[.slice A0_1 l0_1.length c0_1] rfl zl ?_; (with_reducible refine (aumbryref04_Check.calls kj1 _ _ l0_1 t102 _ ?side1 ?side2 A8.out).mono ?_); (case side1 => exact Kd.C_below HR0_1.out zb); (case side2 => exact HC0_1.out); rintro e w' ⟨rfl, ⟨nd, rfl⟩⟩; refine ⟨_, rfl, ?_⟩) | ((with_reducible refine gate_callee (f := 34) rfl ?_); refine goesL_ (some 24) rfl rfl Try.func34 (by kernel_rfl) rfl #[.slice A0_2 l0_2.length c0_2] rfl zl ?_; (with_reducible refine (aumbryref04_Check.calls kj1 _ _ l0_2 t103 _ ?side1 ?side2 A10.out).mono ?_); (case side1 => exact Kd.C_below (Kd.C_below HR0_2.out zb) zg); (case side2 => exact HC0_2.out); rintro e w' ⟨rfl, ⟨nd, rfl⟩⟩; refine ⟨_, rfl, ?_⟩))
      (try simp only [Act.put, List.setIfInBounds_toArray, List.set_cons_zero, List.set_cons_succ])
      go_cut [37] (fun v37 wc => ∃ (kq : Nat) (x37_11 : Bool), v37 = .bool x37_11 ∧ Aside0 (aumbryref06_Check.j1 kq x37_11 a0_0 l0_1 l0_2 = some r) ∧ Aside0 (kq ≤ kj1) ∧ Aside0 (wc.heap[gb101]? = some (.cells #[.int .i64 a0_0, (.slice A0_1 l0_1.length c0_1), (.slice A0_2 l0_2.length c0_2)] 73 (0, 0))) ∧ Aside0 (Below w.heap.size w wc))
      case first =>
       have H := HC12.out
       clear HC12
       by_cases c14 : (l0_1.length : Int) > 8
       ·
        rw [if_pos c14] at H
        have c14b0 : decide (8 < (l0_1.length : Int)) = true := zQ c14
        have c14b1 : decide (8 < l0_1.length) = true := zQ (by omega)
        clear c14
        (first | rw [c14b0] | (simp only [i64_w, i32_w]; rw [c14b0]) | skip)
        have H' := zM H
        clear H
        have hcz15_0 : wc.cell? ⟨gb101, 0, none⟩ = some (.int .i64 a0_0) := (zX BK101.out 0).trans rfl
        have hcz15_1 : wc.cell? ⟨gb101, 1, none⟩ = some (.slice A0_1 l0_1.length c0_1) := (zX BK101.out 1).trans rfl
        have hcz15_2 : wc.cell? ⟨gb101, 2, none⟩ = some (.slice A0_2 l0_2.length c0_2) := (zX BK101.out 2).trans rfl
        have hfz15_0 := zY BK101.out 0
        have hfz15_1 := zY BK101.out 1
        have hfz15_2 := zY BK101.out 2
        go_wp2
        go_meet
        case rel => exact ⟨_, (true), zy, H', ⟨by have := HJ1.out; first | omega | exact Nat.le_refl _⟩, ⟨by refine zk ?_; exact BK101.out⟩, ⟨zb⟩⟩
       ·
        rw [if_neg c14] at H
        have c14b0 : decide (8 < (l0_1.length : Int)) = false := zR c14
        have c14b1 : decide (8 < l0_1.length) = false := zR (by omega)
        clear c14
        (first | rw [c14b0] | (simp only [i64_w, i32_w]; rw [c14b0]) | skip)
        have H' := zM H
        clear H
        have hcz16_0 : wc.cell? ⟨gb101, 0, none⟩ = some (.int .i64 a0_0) := (zX BK101.out 0).trans rfl
        have hcz16_1 : wc.cell? ⟨gb101, 1, none⟩ = some (.slice A0_1 l0_1.length c0_1) := (zX BK101.out 1).trans rfl
        have hcz16_2 : wc.cell? ⟨gb101, 2, none⟩ = some (.slice A0_2 l0_2.length c0_2) := (zX BK101.out 2).trans rfl
        have hfz16_0 := zY BK101.out 0
        have hfz16_1 := zY BK101.out 1
        have hfz16_2 := zY BK101.out 2
        go_wp2
        go_meet
        case rel => exact ⟨_, (decide ((l0_2.length : Int) > 8)), zy, H', ⟨by have := HJ1.out; first | omega | exact Nat.le_refl _⟩, ⟨by refine zk ?_; exact BK101.out⟩, ⟨zb⟩⟩
      case rest =>
       clear HC12
       try clear c1
       try clear p2
       try clear c3
       try clear c4
       try clear c4b0
       try clear c5
       try clear c7
       try clear c9
       try clear c9b0
       try clear c9b1
       try clear c11
       try clear c11b0
       try clear c11b1
       try clear c14
       try clear c14b0
       try clear c14b1
       try clear hcz13_0
       try clear hcz13_1
       try clear hcz13_2
       try clear hcz15_0
       try clear hcz15_1
       try clear hcz15_2
       try clear hcz16_0
       try clear hcz16_1
       try clear hcz16_2
       try clear hcz5_0
       try clear hcz5_1
       try clear hcz5_2
       try clear hcz6_0
       try clear hcz6_1
       try clear hcz6_2
       try clear hfz13_0
       try clear hfz13_1
       try clear hfz13_2
       try clear hfz15_0
       try clear hfz15_1
       try clear hfz15_2
       try clear hfz16_0
       try clear hfz16_1
       try clear hfz16_2
       try clear hfz5_0
       try clear hfz5_1
       try clear hfz5_2
       try clear hfz6_0
       try clear hfz6_1
       try clear hfz6_2
       try clear p2
       obtain ⟨kq, x37_11, rfl, HA, HJ11, BK101, HB⟩ := hcut
       cases kq with
       | zero => exact absurd HA.out (by simp [aumbryref06_Check.j1])
       | succ kj11 =>
        have H := HA.out
        clear HA
        simp only [aumbryref06_Check.j1] at H
        by_cases c17 : x37_11 = true
        ·
         subst c17
         rw [if_pos rfl] at H
         obtain rfl := zS H
         go_wp2
         go_ret
         exact ⟨zw, zb⟩
        ·
         replace c17 := zI c17
         subst c17
         rw [if_neg (show ¬ (false = true) by decide)] at H
         replace H := zB H
         obtain ⟨t104, A180, H⟩ := H
         try dsimp only at H
         have A18 := zM A180
         clear A180
         by_cases c19 : t104 = true
         ·
          subst c19
          rw [if_pos rfl] at H
          obtain rfl := zS H
          have hcz20_0 : wc.cell? ⟨gb101, 0, none⟩ = some (.int .i64 a0_0) := (zX BK101.out 0).trans rfl
          have hcz20_1 : wc.cell? ⟨gb101, 1, none⟩ = some (.slice A0_1 l0_1.length c0_1) := (zX BK101.out 1).trans rfl
          have hcz20_2 : wc.cell? ⟨gb101, 2, none⟩ = some (.slice A0_2 l0_2.length c0_2) := (zX BK101.out 2).trans rfl
          have hfz20_0 := zY BK101.out 0
          have hfz20_1 := zY BK101.out 1
          have hfz20_2 := zY BK101.out 2
          go_wp2_with (first | ((with_reducible refine gate_callee (f := 56) rfl ?_); refine goesL_ (some 40) rfl rfl Try.func56 (by kernel_rfl) rfl #[.slice A0_1 l0_1.length c0_1] rfl zl ?_; (with_reducible refine (aumbryref05_Var.calls kj11 _ _ l0_1 true _ ?side1 ?side2 A18.out).mono ?_); (case side1 => exact Kd.C_below HR0_1.out zb); (case side2 => exact HC0_1.out); rintro e w' ⟨rfl, ⟨nd, rfl⟩⟩; refine ⟨_, rfl, ?_⟩))
          go_ret
          exact ⟨zw, zb⟩
         ·
          replace c19 := zI c19
          subst c19
          rw [if_neg (show ¬ (false = true) by decide)] at H
          replace H := zB H
          obtain ⟨t105, A210, H⟩ := H
          try dsimp only at H
          have A21 := zM A210
          clear A210
          replace H := zB H
          obtain ⟨t108, A220, H⟩ := H
          try dsimp only at H
          have A22 := zM A220
          clear A220
          have H' := zM H
          clear H
          have hcz23_0 : wc.cell? ⟨gb101, 0, none⟩ = some (.int .i64 a0_0) := (zX BK101.out 0).trans rfl
          have hcz23_1 : wc.cell? ⟨gb101, 1, none⟩ = some (.slice A0_1 l0_1.length c0_1) := (zX BK101.out 1).trans rfl
          have hcz23_2 : wc.cell? ⟨gb101, 2, none⟩ = some (.slice A0_2 l0_2.length c0_2) := (zX BK101.out 2).trans rfl
          have hfz23_0 := zY BK101.out 0
          have hfz23_1 := zY BK101.out 1
          have hfz23_2 := zY BK101.out 2
          try go_wp2_with (first | ((with_reducible refine gate_callee (f := 56) rfl ?_); refine goesL_ (some 40) rfl rfl Try.func56 (by kernel_rfl) rfl #[.slice A0_1 l0_1.length c0_1] rfl zl ?_; (with_reducible refine (aumbryref05_Var.calls kj11 _ _ l0_1 false _ ?side1 ?side2 A18.out).mono ?_); (case side1 => exact Kd.C_below HR0_1.out zb); (case side2 => exact HC0_1.out); rintro e w' ⟨rfl, ⟨nd, rfl⟩⟩; refine ⟨_, rfl, ?_⟩))
          (try (rw [drewN_self wc]; generalize hq_ : World.drewN wc _ = wc; have n0_ : Aside0 (wc.heap[gb101]? = some (.cells #[.int .i64 a0_0, .slice A0_1 l0_1.length c0_1, .slice A0_2 l0_2.length c0_2] 73 (0, 0))) := ⟨by rw [← hq_]; exact (zk BK101.out)⟩; have n1_ : Aside0 (Below w.heap.size w wc) := ⟨by rw [← hq_]; exact zb⟩; clear BK101 HB hq_; have BK101 := n0_; have HB := n1_; clear n0_ n1_))
          have n0_ := zM (blk_drew BK101.out)
          have n1_ := zM (zD HB.out)
          clear BK101
          clear HB
          have BK101 := n0_
          have HB := n1_
          clear n0_ n1_
          refine start_ (n := 8) (S := fun w' => w'.cell? ⟨gb101, 0, none⟩ = some (.int .i64 a0_0) ∧ w'.cell? ⟨gb101, 1, none⟩ = some (.slice A0_1 l0_1.length c0_1) ∧ w'.cell? ⟨gb101, 2, none⟩ = some (.slice A0_2 l0_2.length c0_2)) (ds := []) #[false, false, false, false, false, false, false, false] (by kernel_rfl) rfl rfl ⟨(zX BK101.out 0).trans rfl, (zX BK101.out 1).trans rfl, (zX BK101.out 2).trans rfl⟩ (fun hHeld => ?_); refine with_tabW aumbryref06_Check.tab13 aumbryref06_Check.bits13 (fun HT_ HW_ => ?_)
          generalize wc.drew = w24 at BK101 HB hHeld ⊢
          refine pure_ (i := 0) (N := some 41) (v := ?_) (a' := ?_) #[true, false, false, false, false, false, false, false] rfl rfl (any_of HT_.out (by kernel_rfl)) (fun _ _ _ h => h) (Or.inl ⟨by rfl, ?_⟩) ?_ ?_
          rotate_left
          ·
           intro w'
           go_simp
           with_reducible rfl
          rotate_left
          ·
           simp only [Act.put, zp1, zp2, zp3, i64_w, i32_w]
           rfl
          refine pure_ (i := 3) (N := some 44) (v := ?_) (a' := ?_) #[true, false, false, true, false, false, false, false] rfl rfl (any_of HT_.out (by kernel_rfl)) (fun _ _ _ h => h) (Or.inl ⟨by rfl, ?_⟩) ?_ ?_
          rotate_left
          ·
           intro w'
           go_simp
           with_reducible rfl
          rotate_left
          ·
           simp only [Act.put, zp1, zp2, zp3, i64_w, i32_w]
           rfl
          refine take_ (i := 1) (N := some 42) (v := ?_) (a' := ?_) #[true, true, false, true, false, false, false, false] rfl rfl (take_ofW HT_.out HW_.out (by kernel_rfl)) (fun _ _ _ h => h) (Or.inl ⟨by rfl, ?_⟩) hHeld ?_ ?_
          rotate_left
          ·
           rintro w' ⟨s0, s1, s2⟩
           go_simp
           with_reducible rfl
          rotate_left
          ·
           simp only [Act.put, zp1, zp2, zp3, i64_w, i32_w]
           rfl
          refine take_ (i := 4) (N := some 45) (v := ?_) (a' := ?_) #[true, true, false, true, true, false, false, false] rfl rfl (take_ofW HT_.out HW_.out (by kernel_rfl)) (fun _ _ _ h => h) (Or.inl ⟨by rfl, ?_⟩) hHeld ?_ ?_
          rotate_left
          ·
           rintro w' ⟨s0, s1, s2⟩
           go_simp
           with_reducible rfl
          rotate_left
          ·
           simp only [Act.put, zp1, zp2, zp3, i64_w, i32_w]
           rfl
          refine one_ (i := 2) (N := some 43) #[true, true, true, true, true, false, false, false] rfl rfl (one_of HT_.out (by kernel_rfl)) (by decide) (fun K hK => ?_)
          refine goes_ Try.func52 (by kernel_rfl) rfl #[.slice A0_1 l0_1.length c0_1] (by rfl) rfl rfl zl ?_
          with_reducible refine (aumbryref04_Vars.calls kj11 _ _ l0_1 t105 _ ?side1 ?side2 A21.out).mono ?_
          (case side1 => exact Kd.C_below HR0_1.out zb)
          (case side2 => exact HC0_1.out)
          rintro e w25 ⟨v106, rfl, ho0, hb⟩
          refine ⟨_, rfl, ?_⟩
          have n0_ := zM (Kd.R_lower ho0 (below_size zb))
          have n1_ := zM (blk_below (zk BK101.out) hb)
          have n2_ := zM (below_step zb hb)
          clear BK101
          clear HB
          have HO107 := n0_
          have BK101 := n1_
          have HB := n2_
          clear n0_ n1_ n2_
          (try clear hb)
          (try clear hb2)
          (try clear hk)
          (try clear hi)
          (try clear ho0)
          refine hK.out _ _ ⟨(zX BK101.out 0).trans rfl, (zX BK101.out 1).trans rfl, (zX BK101.out 2).trans rfl⟩ (fun hHeld => ?_)
          clear hK K
          refine norm_ (a' := ?_) ?_ ?_
          rotate_left
          ·
           show Act.put _ (some 43) _ = _
           simp only [Act.put, zp1, zp2, zp3, i64_w, i32_w]
           rfl
          refine one_ (i := 5) (N := some 46) #[true, true, true, true, true, true, false, false] rfl rfl (one_of HT_.out (by kernel_rfl)) (by decide) (fun K hK => ?_)
          refine goes_ Try.func52 (by kernel_rfl) rfl #[.slice A0_2 l0_2.length c0_2] (by rfl) rfl rfl zl ?_
          with_reducible refine (aumbryref04_Vars.calls kj11 _ _ l0_2 t108 _ ?side1 ?side2 A22.out).mono ?_
          (case side1 => exact Kd.C_below HR0_2.out zb)
          (case side2 => exact HC0_2.out)
          rintro e w26 ⟨v109, rfl, ho0, hb⟩
          refine ⟨_, rfl, ?_⟩
          have n0_ := zM (Kd.R_elder' (zr HO107.out) (Kd.R_base ho0) hb)
          have n1_ := zM (Kd.R_lower (Kd.R_new' ho0 (Kd.R_lt (zr HO107.out))) (below_size zb))
          have n2_ := zM (blk_below (zk BK101.out) hb)
          have n3_ := zM (below_step zb hb)
          clear HO107
          clear BK101
          clear HB
          have HO107 := n0_
          have HO110 := n1_
          have BK101 := n2_
          have HB := n3_
          clear n0_ n1_ n2_ n3_
          (try clear hb)
          (try clear hb2)
          (try clear hk)
          (try clear hi)
          (try clear ho0)
          refine hK.out _ _ ⟨(zX BK101.out 0).trans rfl, (zX BK101.out 1).trans rfl, (zX BK101.out 2).trans rfl⟩ (fun hHeld => ?_)
          clear hK K
          refine norm_ (a' := ?_) ?_ ?_
          rotate_left
          ·
           show Act.put _ (some 46) _ = _
           simp only [Act.put, zp1, zp2, zp3, i64_w, i32_w]
           rfl
          refine pure_ (i := 6) (N := some 5) (v := ?_) (a' := ?_) #[true, true, true, true, true, true, true, false] rfl rfl (any_of HT_.out (by kernel_rfl)) (fun _ _ _ h => h) (Or.inl ⟨by rfl, ?_⟩) ?_ ?_
          rotate_left
          ·
           intro w'
           go_simp
           with_reducible rfl
          rotate_left
          ·
           simp only [Act.put, zp1, zp2, zp3, i64_w, i32_w]
           rfl
          refine pure_ (i := 7) (N := some 6) (v := ?_) (a' := ?_) #[true, true, true, true, true, true, true, true] rfl rfl (any_of HT_.out (by kernel_rfl)) (fun _ _ _ h => h) (Or.inl ⟨by rfl, ?_⟩) ?_ ?_
          rotate_left
          ·
           intro w'
           go_simp
           with_reducible rfl
          rotate_left
          ·
           simp only [Act.put, zp1, zp2, zp3, i64_w, i32_w]
           rfl
          refine done_ (done_of HT_.out (by kernel_rfl)) ?_
          obtain ⟨Ao27, co27, eo27⟩ := Kd.R_slice HO110.out
          subst eo27
          try go_wp2
          go_loopg [49] kj11 (fun kq v49 w' => ∃ (x49_3 : Int), v49 = .int .i64 x49_3 ∧ Aside0 (aumbryref06_Check.l0 kq t105 t108 (t108.length : Int) x49_3 = some r) ∧ Aside0 (kq ≤ kj11) ∧ Aside0 (Kd.R Kd.string 9 w' w.heap.size (fun k_ => some k_ ≠ ((.slice Ao27 t108.length co27) : Value).ownBlock) v106 t105) ∧ Aside0 (Kd.R Kd.string 9 w' w.heap.size (fun k_ => some k_ ≠ (v106 : Value).ownBlock) (.slice Ao27 t108.length co27) t108) ∧ Aside0 (w'.heap[gb101]? = some (.cells #[.int .i64 a0_0, (.slice A0_1 l0_1.length c0_1), (.slice A0_2 l0_2.length c0_2)] 73 (0, 0))) ∧ Aside0 (Below w.heap.size w w'))
          case atStart => exact ⟨(0), zy, H', ⟨Nat.le_refl _⟩, ⟨by (with_reducible repeat (first | apply Kd.R_alloc | apply Kd.R_drewN | apply Kd.R_drew)); exact Kd.R_mono HO107.out (fun _ hk => hk.2)⟩, ⟨by (with_reducible repeat (first | apply Kd.R_alloc | apply Kd.R_drewN | apply Kd.R_drew)); exact Kd.R_mono HO110.out (fun _ hk => hk.2)⟩, ⟨by refine zk ?_; exact BK101.out⟩, ⟨zb⟩⟩
          case round =>
           clear H'
           try clear c1
           try clear p2
           try clear c3
           try clear c4
           try clear c4b0
           try clear c5
           try clear c7
           try clear c9
           try clear c9b0
           try clear c9b1
           try clear c11
           try clear c11b0
           try clear c11b1
           try clear c14
           try clear c14b0
           try clear c14b1
           try clear c17
           try clear c19
           try clear hcz13_0
           try clear hcz13_1
           try clear hcz13_2
           try clear hcz15_0
           try clear hcz15_1
           try clear hcz15_2
           try clear hcz16_0
           try clear hcz16_1
           try clear hcz16_2
           try clear hcz20_0
           try clear hcz20_1
           try clear hcz20_2
           try clear hcz23_0
           try clear hcz23_1
           try clear hcz23_2
           try clear hcz5_0
           try clear hcz5_1
           try clear hcz5_2
           try clear hcz6_0
           try clear hcz6_1
           try clear hcz6_2
           try clear hfz13_0
           try clear hfz13_1
           try clear hfz13_2
           try clear hfz15_0
           try clear hfz15_1
           try clear hfz15_2
           try clear hfz16_0
           try clear hfz16_1
           try clear hfz16_2
           try clear hfz20_0
           try clear hfz20_1
           try clear hfz20_2
           try clear hfz23_0
           try clear hfz23_1
           try clear hfz23_2
           try clear hfz5_0
           try clear hfz5_1
           try clear hfz5_2
           try clear hfz6_0
           try clear hfz6_1
           try clear hfz6_2
           try clear p2
           obtain ⟨x49_3, rfl, HA, HK3, HO_5, HO_6, BK101, HB⟩ := hrel
           cases gk with
           | zero => exact absurd HA.out (by simp [aumbryref06_Check.l0])
           | succ k3 =>
            have H := HA.out
            clear HA
            simp only [aumbryref06_Check.l0] at H
            by_cases c28 : x49_3 < (t108.length : Int)
            ·
             rw [if_pos c28] at H
             have c28b0 : decide (x49_3 < (t108.length : Int)) = true := zQ c28
             clear c28
             by_cases c29 : 0 ≤ x49_3
             ·
              rw [if_pos c29] at H
              have c29b0 : decide (0 ≤ x49_3) = true := zQ c29
              clear c29
              by_cases c30 : x49_3 < (t108.length : Int)
              ·
               rw [if_pos c30] at H
               have c30b0 : decide (x49_3 < (t108.length : Int)) = true := zQ c30
               clear c30
               replace H := zB H
               obtain ⟨t112, A310, H⟩ := H
               try dsimp only at H
               have A31 := zM A310
               clear A310
               by_cases c32 : t112 = true
               ·
                subst c32
                rw [if_pos rfl] at H
                have H' := zM H
                clear H
                have p111 : 0 ≤ (x49_3 : Int) := zT zv
                have q111 : x49_3 < (t108.length : Int) := zT zv
                obtain ⟨ad111, e111, hx111_0⟩ := Kd.at_string (Kd.R_reads' HO_6.out).2.2 x49_3 p111 q111
                cases e111
                replace p111 := eq_true p111
                replace q111 := eq_true q111
                obtain ⟨Ao33, co33, eo33⟩ := Kd.R_slice HO_5.out
                subst eo33
                go_wp2_with (first | ((with_reducible refine gate_callee (f := 78) rfl ?_); refine goesL_ (some 57) rfl rfl Try.func78 (by kernel_rfl) rfl #[.slice Ao33 t105.length co33, .string (rdOf ByteArray.empty t108 x49_3)] rfl zl ?_; (with_reducible refine (aumbryref03_Has.calls k3 _ _ t105 (rdOf ByteArray.empty t108 x49_3) true _ ?side1 ?side2 A31.out).mono ?_); (case side1 => exact Kd.C_below (Kd.R_reads' HO_5.out).2.2 zg); (case side2 => exact (Kd.R_reads' HO_5.out).2.1); rintro e w' ⟨rfl, ⟨nd, rfl⟩⟩; refine ⟨_, rfl, ?_⟩))
                go_roundg k3
                case measure => have := HJ1.out; have := HJ11.out; have := HK3.out; omega
                case rel => exact ⟨(wrap64 (x49_3 + 1)), zy, H', ⟨by have := HJ1.out; have := HJ11.out; have := HK3.out; omega⟩, ⟨zr HO_5.out⟩, ⟨zr HO_6.out⟩, ⟨by refine zk ?_; exact BK101.out⟩, ⟨zb⟩⟩
               ·
                replace c32 := zI c32
                subst c32
                rw [if_neg (show ¬ (false = true) by decide)] at H
                obtain rfl := zS H
                have p111 : 0 ≤ (x49_3 : Int) := zT zv
                have q111 : x49_3 < (t108.length : Int) := zT zv
                obtain ⟨ad111, e111, hx111_0⟩ := Kd.at_string (Kd.R_reads' HO_6.out).2.2 x49_3 p111 q111
                cases e111
                replace p111 := eq_true p111
                replace q111 := eq_true q111
                obtain ⟨Ao34, co34, eo34⟩ := Kd.R_slice HO_5.out
                subst eo34
                go_wp2_with (first | ((with_reducible refine gate_callee (f := 78) rfl ?_); refine goesL_ (some 57) rfl rfl Try.func78 (by kernel_rfl) rfl #[.slice Ao34 t105.length co34, .string (rdOf ByteArray.empty t108 x49_3)] rfl zl ?_; (with_reducible refine (aumbryref03_Has.calls k3 _ _ t105 (rdOf ByteArray.empty t108 x49_3) false _ ?side1 ?side2 A31.out).mono ?_); (case side1 => exact Kd.C_below (Kd.R_reads' HO_5.out).2.2 zg); (case side2 => exact (Kd.R_reads' HO_5.out).2.1); rintro e w' ⟨rfl, ⟨nd, rfl⟩⟩; refine ⟨_, rfl, ?_⟩))
                go_ret
                exact ⟨zw, zb⟩
              ·
               rw [if_neg c30] at H
               exact absurd H (by simp)
             ·
              rw [if_neg c29] at H
              exact absurd H (by simp)
            ·
             rw [if_neg c28] at H
             have c28b0 : decide (x49_3 < (t108.length : Int)) = false := zR c28
             clear c28
             obtain rfl := zS H
             go_wp2
             go_ret
             exact ⟨zw, zb⟩
     ·
      rw [if_neg c11] at H
      have c11b0 : (t103 == 0) = false := zE c11
      have c11b1 : (t103 != 0) = true := zF c11
      obtain rfl := zS H
      have hcz35_0 : wc.cell? ⟨gb101, 0, none⟩ = some (.int .i64 a0_0) := (zX BK101.out 0).trans rfl
      have hcz35_1 : wc.cell? ⟨gb101, 1, none⟩ = some (.slice A0_1 l0_1.length c0_1) := (zX BK101.out 1).trans rfl
      have hcz35_2 : wc.cell? ⟨gb101, 2, none⟩ = some (.slice A0_2 l0_2.length c0_2) := (zX BK101.out 2).trans rfl
      have hfz35_0 := zY BK101.out 0
      have hfz35_1 := zY BK101.out 1
      have hfz35_2 := zY BK101.out 2
      go_wp2_with (first | ((with_reducible refine gate_callee (f := 34) rfl ?_); refine goesL_ (some 18) rfl rfl Try.func34 (by kernel_rfl) rfl #[.slice A0_1 l0_1.length c0_1] rfl zl ?_; (with_reducible refine (aumbryref04_Check.calls kj1 _ _ l0_1 t102 _ ?side1 ?side2 A8.out).mono ?_); (case side1 => exact Kd.C_below HR0_1.out zb); (case side2 => exact HC0_1.out); rintro e w' ⟨rfl, ⟨nd, rfl⟩⟩; refine ⟨_, rfl, ?_⟩) | ((with_reducible refine gate_callee (f := 34) rfl ?_); refine goesL_ (some 24) rfl rfl Try.func34 (by kernel_rfl) rfl #[.slice A0_2 l0_2.length c0_2] rfl zl ?_; (with_reducible refine (aumbryref04_Check.calls kj1 _ _ l0_2 t103 _ ?side1 ?side2 A10.out).mono ?_); (case side1 => exact Kd.C_below (Kd.C_below HR0_2.out zb) zg); (case side2 => exact HC0_2.out); rintro e w' ⟨rfl, ⟨nd, rfl⟩⟩; refine ⟨_, rfl, ?_⟩))
      go_ret
      exact ⟨zw, zb⟩
    ·
     rw [if_neg c9] at H
     have c9b0 : (t102 == 0) = false := zE c9
     have c9b1 : (t102 != 0) = true := zF c9
     obtain rfl := zS H
     have hcz36_0 : wc.cell? ⟨gb101, 0, none⟩ = some (.int .i64 a0_0) := (zX BK101.out 0).trans rfl
     have hcz36_1 : wc.cell? ⟨gb101, 1, none⟩ = some (.slice A0_1 l0_1.length c0_1) := (zX BK101.out 1).trans rfl
     have hcz36_2 : wc.cell? ⟨gb101, 2, none⟩ = some (.slice A0_2 l0_2.length c0_2) := (zX BK101.out 2).trans rfl
     have hfz36_0 := zY BK101.out 0
     have hfz36_1 := zY BK101.out 1
     have hfz36_2 := zY BK101.out 2
     go_wp2_with (first | ((with_reducible refine gate_callee (f := 34) rfl ?_); refine goesL_ (some 18) rfl rfl Try.func34 (by kernel_rfl) rfl #[.slice A0_1 l0_1.length c0_1] rfl zl ?_; (with_reducible refine (aumbryref04_Check.calls kj1 _ _ l0_1 t102 _ ?side1 ?side2 A8.out).mono ?_); (case side1 => exact Kd.C_below HR0_1.out zb); (case side2 => exact HC0_1.out); rintro e w' ⟨rfl, ⟨nd, rfl⟩⟩; refine ⟨_, rfl, ?_⟩))
     go_ret
     exact ⟨zw, zb⟩


-- ==== PF25

mutual
def aumbryref07_Together.l0 : Nat → List (S73) → Int → Int → Option (Int)
 | 0, _, _, _ => none
 | k + 1, x0, x7, x8 => if x8 < x7 then (if 0 ≤ x8 then (if x8 < (x0.length : Int) then ((aumbryref06_Check.f k ((rd_T73 x0 x8).f0) ((rd_T73 x0 x8).f1) ((rd_T73 x0 x8).f2)).bind fun t102 => (if t102 = 0 then (aumbryref07_Together.l0 k x0 x7 (wrap64 (x8 + 1))) else (some t102))) else (none)) else (none)) else (aumbryref07_Together.l1 k x0 (x0.length : Int) 0)
def aumbryref07_Together.l1 : Nat → List (S73) → Int → Int → Option (Int)
 | 0, _, _, _ => none
 | k + 1, x0, x21, x22 => if x22 < x21 then (if x22 > 0 then (if 0 ≤ (wrap64 (x22 - 1)) then (if (wrap64 (x22 - 1)) < (x0.length : Int) then (if 0 ≤ x22 then (if x22 < (x0.length : Int) then (if ((rd_T73 x0 (wrap64 (x22 - 1))).f0) ≥ ((rd_T73 x0 x22).f0) then (some 19) else (aumbryref07_Together.l1 k x0 x21 (wrap64 (x22 + 1)))) else (none)) else (none)) else (none)) else (none)) else (aumbryref07_Together.l1 k x0 x21 (wrap64 (x22 + 1)))) else (some 0)
end
def aumbryref07_Together.f (k : Nat) (l0 : List (S73)) : Option (Int) := aumbryref07_Together.l0 k l0 (l0.length : Int) 0
theorem aumbryref07_Together.calls (k : Nat) (A0 : Option Addr) (c0 : Nat) (l0 : List (S73)) (r : Int) (w : World) (hr0 : Kd.C k73 w A0 l0.length l0) (hc0 : l0.length ≤ c0) (h : aumbryref07_Together.f k l0 = some r) :
 Calls Try.prog 25 #[.slice A0 l0.length c0] w fun e w' => e = .returned (.int .i64 r) ∧ Below w.heap.size w w' := by
 have hu73 := Try.underlying73
 have HR0 := zM hr0
 have HC0 := zM hc0
 clear hr0 hc0
 have HB := zM (Below.refl w.heap.size w)
 have H : (aumbryref07_Together.l0 k l0 (l0.length : Int) 0) = some r := h
 clear h
 have H' := zM H
 clear H
 go_enter Try.func25, Try.ntmps25
 go_wp2
 repeat (go_quiet (fail); try go_wp2)
 go_loopg [8] k (fun kq v8 w' => ∃ (x8_1 : Int), v8 = .int .i64 x8_1 ∧ Aside0 (aumbryref07_Together.l0 kq l0 (l0.length : Int) x8_1 = some r) ∧ Aside0 (kq ≤ k) ∧ Aside0 (Below w.heap.size w w'))
 case atStart => exact ⟨(0), zy, H', ⟨Nat.le_refl _⟩, ⟨zb⟩⟩
 case round =>
  clear H'
  obtain ⟨x8_1, rfl, HA, HK1, HB⟩ := hrel
  cases gk with
  | zero => exact absurd HA.out (by simp [aumbryref07_Together.l0])
  | succ k1 =>
   have H := HA.out
   clear HA
   simp only [aumbryref07_Together.l0] at H
   by_cases c2 : x8_1 < (l0.length : Int)
   ·
    rw [if_pos c2] at H
    have c2b0 : decide (x8_1 < (l0.length : Int)) = true := zQ c2
    clear c2
    by_cases c3 : 0 ≤ x8_1
    ·
     rw [if_pos c3] at H
     have c3b0 : decide (0 ≤ x8_1) = true := zQ c3
     clear c3
     by_cases c4 : x8_1 < (l0.length : Int)
     ·
      rw [if_pos c4] at H
      have c4b0 : decide (x8_1 < (l0.length : Int)) = true := zQ c4
      clear c4
      replace H := zB H
      obtain ⟨t102, A50, H⟩ := H
      try dsimp only at H
      have A5 := zM A50
      clear A50
      by_cases c6 : t102 = 0
      ·
       rw [if_pos c6] at H
       have c6b0 : (t102 == 0) = true := zG c6
       have c6b1 : (t102 != 0) = false := zH c6
       clear c6
       have H' := zM H
       clear H
       have p101 : 0 ≤ (x8_1 : Int) := zT zv
       have q101 : x8_1 < (l0.length : Int) := zT zv
       obtain ⟨ad101, A101_1, c101_1, A101_2, c101_2, e101, hx101_0, hx101_1, hx101_2, hl101_1, hi101_1, hl101_2, hi101_2⟩ := at_T73 HR0.out x8_1 p101 q101
       cases e101
       replace hx101_0 := (HB.out.cell (World.block_lt_of_cell? w _ hx101_0)).trans hx101_0
       replace hx101_1 := (HB.out.cell (World.block_lt_of_cell? w _ hx101_1)).trans hx101_1
       replace hx101_2 := (HB.out.cell (World.block_lt_of_cell? w _ hx101_2)).trans hx101_2
       have HR101_1 := zM hi101_1
       have HC101_1 := zM hl101_1
       clear hi101_1 hl101_1
       have HR101_2 := zM hi101_2
       have HC101_2 := zM hl101_2
       clear hi101_2 hl101_2
       replace p101 := eq_true p101
       replace q101 := eq_true q101
       go_wp2_with (first | (go_at_call 53; (with_reducible refine (aumbryref06_Check.calls k1 ((rd_T73 l0 x8_1).f0) _ _ ((rd_T73 l0 x8_1).f1) _ _ ((rd_T73 l0 x8_1).f2) t102 _ ?side1 ?side2 ?side3 ?side4 A5.out).mono ?_); (case side1 => exact Kd.C_below HR101_1.out zb); (case side2 => exact HC101_1.out); (case side3 => exact Kd.C_below HR101_2.out zb); (case side4 => exact HC101_2.out); rintro e w7 ⟨rfl, hb⟩; replace HB := zM (below_step zb hb); (try clear hb)))
       repeat (go_quiet (first | (go_at_call 53; (with_reducible refine (aumbryref06_Check.calls k1 ((rd_T73 l0 x8_1).f0) _ _ ((rd_T73 l0 x8_1).f1) _ _ ((rd_T73 l0 x8_1).f2) t102 _ ?side1 ?side2 ?side3 ?side4 A5.out).mono ?_); (case side1 => exact Kd.C_below HR101_1.out zb); (case side2 => exact HC101_1.out); (case side3 => exact Kd.C_below HR101_2.out zb); (case side4 => exact HC101_2.out); rintro e w7 ⟨rfl, hb⟩; replace HB := zM (below_step zb hb); (try clear hb))); try go_wp2_with (first | (go_at_call 53; (with_reducible refine (aumbryref06_Check.calls k1 ((rd_T73 l0 x8_1).f0) _ _ ((rd_T73 l0 x8_1).f1) _ _ ((rd_T73 l0 x8_1).f2) t102 _ ?side1 ?side2 ?side3 ?side4 A5.out).mono ?_); (case side1 => exact Kd.C_below HR101_1.out zb); (case side2 => exact HC101_1.out); (case side3 => exact Kd.C_below HR101_2.out zb); (case side4 => exact HC101_2.out); rintro e w7 ⟨rfl, hb⟩; replace HB := zM (below_step zb hb); (try clear hb))))
       go_roundg k1
       case measure => have := HK1.out; omega
       case rel => exact ⟨(wrap64 (x8_1 + 1)), zy, H', ⟨by have := HK1.out; omega⟩, ⟨zb⟩⟩
      ·
       rw [if_neg c6] at H
       have c6b0 : (t102 == 0) = false := zE c6
       have c6b1 : (t102 != 0) = true := zF c6
       obtain rfl := zS H
       have p101 : 0 ≤ (x8_1 : Int) := zT zv
       have q101 : x8_1 < (l0.length : Int) := zT zv
       obtain ⟨ad101, A101_1, c101_1, A101_2, c101_2, e101, hx101_0, hx101_1, hx101_2, hl101_1, hi101_1, hl101_2, hi101_2⟩ := at_T73 HR0.out x8_1 p101 q101
       cases e101
       replace hx101_0 := (HB.out.cell (World.block_lt_of_cell? w _ hx101_0)).trans hx101_0
       replace hx101_1 := (HB.out.cell (World.block_lt_of_cell? w _ hx101_1)).trans hx101_1
       replace hx101_2 := (HB.out.cell (World.block_lt_of_cell? w _ hx101_2)).trans hx101_2
       have HR101_1 := zM hi101_1
       have HC101_1 := zM hl101_1
       clear hi101_1 hl101_1
       have HR101_2 := zM hi101_2
       have HC101_2 := zM hl101_2
       clear hi101_2 hl101_2
       replace p101 := eq_true p101
       replace q101 := eq_true q101
       go_wp2_with (first | (go_at_call 53; (with_reducible refine (aumbryref06_Check.calls k1 ((rd_T73 l0 x8_1).f0) _ _ ((rd_T73 l0 x8_1).f1) _ _ ((rd_T73 l0 x8_1).f2) t102 _ ?side1 ?side2 ?side3 ?side4 A5.out).mono ?_); (case side1 => exact Kd.C_below HR101_1.out zb); (case side2 => exact HC101_1.out); (case side3 => exact Kd.C_below HR101_2.out zb); (case side4 => exact HC101_2.out); rintro e w8 ⟨rfl, hb⟩; replace HB := zM (below_step zb hb); (try clear hb)))
       repeat (go_quiet (first | (go_at_call 53; (with_reducible refine (aumbryref06_Check.calls k1 ((rd_T73 l0 x8_1).f0) _ _ ((rd_T73 l0 x8_1).f1) _ _ ((rd_T73 l0 x8_1).f2) t102 _ ?side1 ?side2 ?side3 ?side4 A5.out).mono ?_); (case side1 => exact Kd.C_below HR101_1.out zb); (case side2 => exact HC101_1.out); (case side3 => exact Kd.C_below HR101_2.out zb); (case side4 => exact HC101_2.out); rintro e w8 ⟨rfl, hb⟩; replace HB := zM (below_step zb hb); (try clear hb))); try go_wp2_with (first | (go_at_call 53; (with_reducible refine (aumbryref06_Check.calls k1 ((rd_T73 l0 x8_1).f0) _ _ ((rd_T73 l0 x8_1).f1) _ _ ((rd_T73 l0 x8_1).f2) t102 _ ?side1 ?side2 ?side3 ?side4 A5.out).mono ?_); (case side1 => exact Kd.C_below HR101_1.out zb); (case side2 => exact HC101_1.out); (case side3 => exact Kd.C_below HR101_2.out zb); (case side4 => exact HC101_2.out); rintro e w8 ⟨rfl, hb⟩; replace HB := zM (below_step zb hb); (try clear hb))))
       go_ret
       exact ⟨zw, zb⟩
     ·
      rw [if_neg c4] at H
      exact absurd H (by simp)
    ·
     rw [if_neg c3] at H
     exact absurd H (by simp)
   ·
    rw [if_neg c2] at H
    have c2b0 : decide (x8_1 < (l0.length : Int)) = false := zR c2
    clear c2
    have H' := zM H
    clear H
    go_wp2
    repeat (go_quiet (fail); try go_wp2)
    go_loopg [22] k1 (fun kq v22 w' => ∃ (x22_2 : Int), v22 = .int .i64 x22_2 ∧ Aside0 (aumbryref07_Together.l1 kq l0 (l0.length : Int) x22_2 = some r) ∧ Aside0 (kq ≤ k1) ∧ Aside0 (Below w.heap.size w w'))
    case atStart => exact ⟨(0), zy, H', ⟨Nat.le_refl _⟩, ⟨zb⟩⟩
    case round =>
     clear H'
     try clear c1
     try clear p1
     try clear q1
     try clear hx1
     try clear c2
     try clear c2b0
     try clear p2
     try clear c3
     try clear c3b0
     try clear c4
     try clear c4b0
     try clear c6
     try clear c6b0
     try clear c6b1
     try clear p6
     try clear hx101_0
     try clear hx101_1
     try clear hx101_2
     try clear p101
     try clear q101
     obtain ⟨x22_2, rfl, HA, HK2, HB⟩ := hrel
     cases gk with
     | zero => exact absurd HA.out (by simp [aumbryref07_Together.l1])
     | succ k2 =>
      have H := HA.out
      clear HA
      simp only [aumbryref07_Together.l1] at H
      by_cases c9 : x22_2 < (l0.length : Int)
      ·
       rw [if_pos c9] at H
       have c9b0 : decide (x22_2 < (l0.length : Int)) = true := zQ c9
       clear c9
       by_cases c10 : x22_2 > 0
       ·
        rw [if_pos c10] at H
        have c10b0 : decide (0 < x22_2) = true := zQ c10
        clear c10
        obtain ⟨ji11, hji11⟩ : ∃ j_ : Int, (wrap64 (x22_2 - 1)) = j_ := ⟨_, rfl⟩
        replace H : (if 0 ≤ (ji11) then (if (ji11) < (l0.length : Int) then (if 0 ≤ x22_2 then (if x22_2 < (l0.length : Int) then (if ((rd_T73 l0 (ji11)).f0) ≥ ((rd_T73 l0 x22_2).f0) then (some 19) else (aumbryref07_Together.l1 k2 l0 (l0.length : Int) (wrap64 (x22_2 + 1)))) else (none)) else (none)) else (none)) else (none)) = some r := by first | (rw [hji11] at H; exact H) | (simp only [hji11] at H ⊢; exact H)
        have hji11w : (IntKind.i64.wrap (x22_2 - 1)) = ji11 := (i64_w _).trans hji11
        by_cases c12 : 0 ≤ (ji11)
        ·
         rw [if_pos c12] at H
         have c12b0 : decide (0 ≤ (ji11)) = true := zQ c12
         clear c12
         by_cases c13 : (ji11) < (l0.length : Int)
         ·
          rw [if_pos c13] at H
          have c13b0 : decide ((ji11) < (l0.length : Int)) = true := zQ c13
          clear c13
          by_cases c14 : 0 ≤ x22_2
          ·
           rw [if_pos c14] at H
           have c14b0 : decide (0 ≤ x22_2) = true := zQ c14
           clear c14
           by_cases c15 : x22_2 < (l0.length : Int)
           ·
            rw [if_pos c15] at H
            have c15b0 : decide (x22_2 < (l0.length : Int)) = true := zQ c15
            clear c15
            by_cases c16 : ((rd_T73 l0 (ji11)).f0) ≥ ((rd_T73 l0 x22_2).f0)
            ·
             rw [if_pos c16] at H
             have c16b0 : decide (((rd_T73 l0 x22_2).f0) ≤ ((rd_T73 l0 (ji11)).f0)) = true := zQ c16
             clear c16
             obtain rfl := zS H
             have p103 : 0 ≤ ((ji11) : Int) := zT zv
             have q103 : (ji11) < (l0.length : Int) := zT zv
             obtain ⟨ad103, A103_1, c103_1, A103_2, c103_2, e103, hx103_0, hx103_1, hx103_2, hl103_1, hi103_1, hl103_2, hi103_2⟩ := at_T73 HR0.out (ji11) p103 q103
             cases e103
             replace hx103_0 := (HB.out.cell (World.block_lt_of_cell? w _ hx103_0)).trans hx103_0
             replace hx103_1 := (HB.out.cell (World.block_lt_of_cell? w _ hx103_1)).trans hx103_1
             replace hx103_2 := (HB.out.cell (World.block_lt_of_cell? w _ hx103_2)).trans hx103_2
             have HR103_1 := zM hi103_1
             have HC103_1 := zM hl103_1
             clear hi103_1 hl103_1
             have HR103_2 := zM hi103_2
             have HC103_2 := zM hl103_2
             clear hi103_2 hl103_2
             replace p103 := eq_true p103
             replace q103 := eq_true q103
             have p104 : 0 ≤ (x22_2 : Int) := zT zv
             have q104 : x22_2 < (l0.length : Int) := zT zv
             obtain ⟨ad104, A104_1, c104_1, A104_2, c104_2, e104, hx104_0, hx104_1, hx104_2, hl104_1, hi104_1, hl104_2, hi104_2⟩ := at_T73 HR0.out x22_2 p104 q104
             obtain rfl : ad103 = ad104 := (by injection e104)
             replace hx104_0 := (HB.out.cell (World.block_lt_of_cell? w _ hx104_0)).trans hx104_0
             replace hx104_1 := (HB.out.cell (World.block_lt_of_cell? w _ hx104_1)).trans hx104_1
             replace hx104_2 := (HB.out.cell (World.block_lt_of_cell? w _ hx104_2)).trans hx104_2
             have HR104_1 := zM hi104_1
             have HC104_1 := zM hl104_1
             clear hi104_1 hl104_1
             have HR104_2 := zM hi104_2
             have HC104_2 := zM hl104_2
             clear hi104_2 hl104_2
             replace p104 := eq_true p104
             replace q104 := eq_true q104
             go_wp2
             repeat (go_quiet (fail); try go_wp2)
             go_ret
             exact ⟨by first | rfl | (simp [errW_none, errW_some] <;> rfl) | (simp only [← hji11]; first | rfl | (simp [errW_none, errW_some] <;> rfl)) | (simp [*, errW_none, errW_some] <;> rfl), zb⟩
            ·
             rw [if_neg c16] at H
             have c16b0 : decide (((rd_T73 l0 x22_2).f0) ≤ ((rd_T73 l0 (ji11)).f0)) = false := zR c16
             clear c16
             have H' := zM H
             clear H
             have p103 : 0 ≤ ((ji11) : Int) := zT zv
             have q103 : (ji11) < (l0.length : Int) := zT zv
             obtain ⟨ad103, A103_1, c103_1, A103_2, c103_2, e103, hx103_0, hx103_1, hx103_2, hl103_1, hi103_1, hl103_2, hi103_2⟩ := at_T73 HR0.out (ji11) p103 q103
             cases e103
             replace hx103_0 := (HB.out.cell (World.block_lt_of_cell? w _ hx103_0)).trans hx103_0
             replace hx103_1 := (HB.out.cell (World.block_lt_of_cell? w _ hx103_1)).trans hx103_1
             replace hx103_2 := (HB.out.cell (World.block_lt_of_cell? w _ hx103_2)).trans hx103_2
             have HR103_1 := zM hi103_1
             have HC103_1 := zM hl103_1
             clear hi103_1 hl103_1
             have HR103_2 := zM hi103_2
             have HC103_2 := zM hl103_2
             clear hi103_2 hl103_2
             replace p103 := eq_true p103
             replace q103 := eq_true q103
             have p104 : 0 ≤ (x22_2 : Int) := zT zv
             have q104 : x22_2 < (l0.length : Int) := zT zv
             obtain ⟨ad104, A104_1, c104_1, A104_2, c104_2, e104, hx104_0, hx104_1, hx104_2, hl104_1, hi104_1, hl104_2, hi104_2⟩ := at_T73 HR0.out x22_2 p104 q104
             obtain rfl : ad103 = ad104 := (by injection e104)
             replace hx104_0 := (HB.out.cell (World.block_lt_of_cell? w _ hx104_0)).trans hx104_0
             replace hx104_1 := (HB.out.cell (World.block_lt_of_cell? w _ hx104_1)).trans hx104_1
             replace hx104_2 := (HB.out.cell (World.block_lt_of_cell? w _ hx104_2)).trans hx104_2
             have HR104_1 := zM hi104_1
             have HC104_1 := zM hl104_1
             clear hi104_1 hl104_1
             have HR104_2 := zM hi104_2
             have HC104_2 := zM hl104_2
             clear hi104_2 hl104_2
             replace p104 := eq_true p104
             replace q104 := eq_true q104
             go_wp2
             repeat (go_quiet (fail); try go_wp2)
             go_roundg k2
             case measure => have := HK1.out; have := HK2.out; omega
             case rel => exact ⟨(wrap64 (x22_2 + 1)), zy, H', ⟨by have := HK1.out; have := HK2.out; omega⟩, ⟨zb⟩⟩
           ·
            rw [if_neg c15] at H
            exact absurd H (by simp)
          ·
           rw [if_neg c14] at H
           exact absurd H (by simp)
         ·
          rw [if_neg c13] at H
          exact absurd H (by simp)
        ·
         rw [if_neg c12] at H
         exact absurd H (by simp)
       ·
        rw [if_neg c10] at H
        have c10b0 : decide (0 < x22_2) = false := zR c10
        clear c10
        have H' := zM H
        clear H
        go_wp2
        repeat (go_quiet (fail); try go_wp2)
        go_roundg k2
        case measure => have := HK1.out; have := HK2.out; omega
        case rel => exact ⟨(wrap64 (x22_2 + 1)), zy, H', ⟨by have := HK1.out; have := HK2.out; omega⟩, ⟨zb⟩⟩
      ·
       rw [if_neg c9] at H
       have c9b0 : decide (x22_2 < (l0.length : Int)) = false := zR c9
       clear c9
       obtain rfl := zS H
       go_wp2
       repeat (go_quiet (fail); try go_wp2)
       go_ret
       exact ⟨zw, zb⟩


-- ==== PF37

def aumbryref03_Same.l0 : Nat → List ByteArray → List ByteArray → Int → Int → Option (Bool)
 | 0, _, _, _, _ => none
 | k + 1, x0, x1, x12, x13 => if x13 < x12 then (if 0 ≤ x13 then (if x13 < (x0.length : Int) then (if x13 < (x1.length : Int) then (if (rdOf ByteArray.empty x0 x13).toList = (rdOf ByteArray.empty x1 x13).toList then (aumbryref03_Same.l0 k x0 x1 x12 (wrap64 (x13 + 1))) else (some false)) else (none)) else (none)) else (none)) else (some true)
def aumbryref03_Same.f (k : Nat) (l0 : List ByteArray) (l1 : List ByteArray) : Option (Bool) := if (l0.length : Int) = (l1.length : Int) then (aumbryref03_Same.l0 k l0 l1 (l0.length : Int) 0) else (some false)
theorem aumbryref03_Same.calls (k : Nat) (A0 : Option Addr) (c0 : Nat) (l0 : List ByteArray) (A1 : Option Addr) (c1 : Nat) (l1 : List ByteArray) (r : Bool) (w : World) (hr0 : Kd.C Kd.string w A0 l0.length l0) (hc0 : l0.length ≤ c0) (hr1 : Kd.C Kd.string w A1 l1.length l1) (hc1 : l1.length ≤ c1) (h : aumbryref03_Same.f k l0 l1 = some r) :
 Calls Try.prog 37 #[.slice A0 l0.length c0, .slice A1 l1.length c1] w fun e w' => e = .returned (.bool r) ∧ Drawn0 w w' := by
 have HR0 := zM hr0
 have HC0 := zM hc0
 clear hr0 hc0
 have HR1 := zM hr1
 have HC1 := zM hc1
 clear hr1 hc1
 have H : (if (l0.length : Int) = (l1.length : Int) then (aumbryref03_Same.l0 k l0 l1 (l0.length : Int) 0) else (some false)) = some r := h
 clear h
 by_cases c3 : (l0.length : Int) = (l1.length : Int)
 ·
  rw [if_pos c3] at H
  have c3b0 : ((l0.length : Int) == (l1.length : Int)) = true := zG c3
  have c3b1 : ((l0.length : Int) != (l1.length : Int)) = false := zH c3
  have c3b2 : (l0.length == l1.length) = true := by first | simpa using c3 | (simp at c3 ⊢; omega)
  clear c3
  have H' := zM H
  clear H
  go_enter Try.func37, Try.ntmps37
  go_wp2
  repeat (go_quiet (fail); try go_wp2)
  go_loopg [13] k (fun kq v13 w' => ∃ (x13_1 : Int), v13 = .int .i64 x13_1 ∧ Aside0 (aumbryref03_Same.l0 kq l0 l1 (l0.length : Int) x13_1 = some r) ∧ Aside0 (kq ≤ k) ∧ Drawn0 w w')
  case atStart => exact ⟨(0), zy, H', ⟨Nat.le_refl _⟩, zd⟩
  case round =>
   clear H'
   try clear c1
   try clear p2
   try clear c3
   try clear c3b0
   try clear c3b1
   try clear c3b2
   obtain ⟨x13_1, rfl, HA, HK1, ⟨m1, rfl⟩⟩ := hrel
   cases gk with
   | zero => exact absurd HA.out (by simp [aumbryref03_Same.l0])
   | succ k1 =>
    have H := HA.out
    clear HA
    simp only [aumbryref03_Same.l0] at H
    by_cases c4 : x13_1 < (l0.length : Int)
    ·
     rw [if_pos c4] at H
     have c4b0 : decide (x13_1 < (l0.length : Int)) = true := zQ c4
     clear c4
     by_cases c5 : 0 ≤ x13_1
     ·
      rw [if_pos c5] at H
      have c5b0 : decide (0 ≤ x13_1) = true := zQ c5
      clear c5
      by_cases c6 : x13_1 < (l0.length : Int)
      ·
       rw [if_pos c6] at H
       have c6b0 : decide (x13_1 < (l0.length : Int)) = true := zQ c6
       clear c6
       by_cases c7 : x13_1 < (l1.length : Int)
       ·
        rw [if_pos c7] at H
        have c7b0 : decide (x13_1 < (l1.length : Int)) = true := zQ c7
        clear c7
        by_cases c8 : (rdOf ByteArray.empty l0 x13_1).toList = (rdOf ByteArray.empty l1 x13_1).toList
        ·
         rw [if_pos c8] at H
         have c8b0 : ((rdOf ByteArray.empty l0 x13_1).toList == (rdOf ByteArray.empty l1 x13_1).toList) = true := zG c8
         have c8b1 : ((rdOf ByteArray.empty l0 x13_1).toList != (rdOf ByteArray.empty l1 x13_1).toList) = false := zH c8
         clear c8
         have H' := zM H
         clear H
         have p101 : 0 ≤ (x13_1 : Int) := zT zv
         have q101 : x13_1 < (l0.length : Int) := zT zv
         obtain ⟨ad101, e101, hx101_0⟩ := Kd.at_string HR0.out x13_1 p101 q101
         cases e101
         replace p101 := eq_true p101
         replace q101 := eq_true q101
         have p102 : 0 ≤ (x13_1 : Int) := zT zv
         have q102 : x13_1 < (l1.length : Int) := zT zv
         obtain ⟨ad102, e102, hx102_0⟩ := Kd.at_string HR1.out x13_1 p102 q102
         cases e102
         replace p102 := eq_true p102
         replace q102 := eq_true q102
         go_wp2
         repeat (go_quiet (fail); try go_wp2)
         go_roundg k1
         case measure => have := HK1.out; omega
         case rel => exact ⟨(wrap64 (x13_1 + 1)), zy, H', ⟨by have := HK1.out; omega⟩, zd⟩
        ·
         rw [if_neg c8] at H
         have c8b0 : ((rdOf ByteArray.empty l0 x13_1).toList == (rdOf ByteArray.empty l1 x13_1).toList) = false := zE c8
         have c8b1 : ((rdOf ByteArray.empty l0 x13_1).toList != (rdOf ByteArray.empty l1 x13_1).toList) = true := zF c8
         obtain rfl := zS H
         have p101 : 0 ≤ (x13_1 : Int) := zT zv
         have q101 : x13_1 < (l0.length : Int) := zT zv
         obtain ⟨ad101, e101, hx101_0⟩ := Kd.at_string HR0.out x13_1 p101 q101
         cases e101
         replace p101 := eq_true p101
         replace q101 := eq_true q101
         have p102 : 0 ≤ (x13_1 : Int) := zT zv
         have q102 : x13_1 < (l1.length : Int) := zT zv
         obtain ⟨ad102, e102, hx102_0⟩ := Kd.at_string HR1.out x13_1 p102 q102
         cases e102
         replace p102 := eq_true p102
         replace q102 := eq_true q102
         go_wp2
         repeat (go_quiet (fail); try go_wp2)
         go_ret
         exact ⟨zy, zd⟩
       ·
        rw [if_neg c7] at H
        exact absurd H (by simp)
      ·
       rw [if_neg c6] at H
       exact absurd H (by simp)
     ·
      rw [if_neg c5] at H
      exact absurd H (by simp)
    ·
     rw [if_neg c4] at H
     have c4b0 : decide (x13_1 < (l0.length : Int)) = false := zR c4
     clear c4
     obtain rfl := zS H
     go_wp2
     repeat (go_quiet (fail); try go_wp2)
     go_ret
     exact ⟨zy, zd⟩
 ·
  rw [if_neg c3] at H
  have c3b0 : ((l0.length : Int) == (l1.length : Int)) = false := zE c3
  have c3b1 : ((l0.length : Int) != (l1.length : Int)) = true := zF c3
  have c3b2 : (l0.length == l1.length) = false := by first | simpa using c3 | (simp at c3 ⊢; omega)
  obtain rfl := zS H
  go_enter Try.func37, Try.ntmps37
  go_wp2
  repeat (go_quiet (fail); try go_wp2)
  go_ret
  exact ⟨zy, zd⟩


-- ==== PF38

def aumbryref04_SameAll.l0 : Nat → List (List (S54)) → List (List (S54)) → Int → Int → Option (Bool)
 | 0, _, _, _, _ => none
 | k + 1, x0, x1, x12, x13 => if x13 < x12 then (if 0 ≤ x13 then (if x13 < (x0.length : Int) then (if x13 < (x1.length : Int) then ((aumbryref04_Same.f k (rd_L3 x0 x13) (rd_L3 x1 x13)).bind fun t103 => (if t103 = true then (aumbryref04_SameAll.l0 k x0 x1 x12 (wrap64 (x13 + 1))) else (some false))) else (none)) else (none)) else (none)) else (some true)
def aumbryref04_SameAll.f (k : Nat) (l0 : List (List (S54))) (l1 : List (List (S54))) : Option (Bool) := if (l0.length : Int) = (l1.length : Int) then (aumbryref04_SameAll.l0 k l0 l1 (l0.length : Int) 0) else (some false)
theorem aumbryref04_SameAll.calls (k : Nat) (A0 : Option Addr) (c0 : Nat) (l0 : List (List (S54))) (A1 : Option Addr) (c1 : Nat) (l1 : List (List (S54))) (r : Bool) (w : World) (hr0 : Kd.C (Kd.slice 54 k54) w A0 l0.length l0) (hc0 : l0.length ≤ c0) (hr1 : Kd.C (Kd.slice 54 k54) w A1 l1.length l1) (hc1 : l1.length ≤ c1) (h : aumbryref04_SameAll.f k l0 l1 = some r) :
 Calls Try.prog 38 #[.slice A0 l0.length c0, .slice A1 l1.length c1] w fun e w' => e = .returned (.bool r) ∧ Drawn0 w w' := by
 have HR0 := zM hr0
 have HC0 := zM hc0
 clear hr0 hc0
 have HR1 := zM hr1
 have HC1 := zM hc1
 clear hr1 hc1
 have H : (if (l0.length : Int) = (l1.length : Int) then (aumbryref04_SameAll.l0 k l0 l1 (l0.length : Int) 0) else (some false)) = some r := h
 clear h
 by_cases c3 : (l0.length : Int) = (l1.length : Int)
 ·
  rw [if_pos c3] at H
  have c3b0 : ((l0.length : Int) == (l1.length : Int)) = true := zG c3
  have c3b1 : ((l0.length : Int) != (l1.length : Int)) = false := zH c3
  have c3b2 : (l0.length == l1.length) = true := by first | simpa using c3 | (simp at c3 ⊢; omega)
  clear c3
  have H' := zM H
  clear H
  go_enter Try.func38, Try.ntmps38
  go_wp2
  repeat (go_quiet (fail); try go_wp2)
  go_loopg [13] k (fun kq v13 w' => ∃ (x13_1 : Int), v13 = .int .i64 x13_1 ∧ Aside0 (aumbryref04_SameAll.l0 kq l0 l1 (l0.length : Int) x13_1 = some r) ∧ Aside0 (kq ≤ k) ∧ Drawn0 w w')
  case atStart => exact ⟨(0), zy, H', ⟨Nat.le_refl _⟩, zd⟩
  case round =>
   clear H'
   try clear c1
   try clear p2
   try clear c3
   try clear c3b0
   try clear c3b1
   try clear c3b2
   obtain ⟨x13_1, rfl, HA, HK1, ⟨m1, rfl⟩⟩ := hrel
   cases gk with
   | zero => exact absurd HA.out (by simp [aumbryref04_SameAll.l0])
   | succ k1 =>
    have H := HA.out
    clear HA
    simp only [aumbryref04_SameAll.l0] at H
    by_cases c4 : x13_1 < (l0.length : Int)
    ·
     rw [if_pos c4] at H
     have c4b0 : decide (x13_1 < (l0.length : Int)) = true := zQ c4
     clear c4
     by_cases c5 : 0 ≤ x13_1
     ·
      rw [if_pos c5] at H
      have c5b0 : decide (0 ≤ x13_1) = true := zQ c5
      clear c5
      by_cases c6 : x13_1 < (l0.length : Int)
      ·
       rw [if_pos c6] at H
       have c6b0 : decide (x13_1 < (l0.length : Int)) = true := zQ c6
       clear c6
       by_cases c7 : x13_1 < (l1.length : Int)
       ·
        rw [if_pos c7] at H
        have c7b0 : decide (x13_1 < (l1.length : Int)) = true := zQ c7
        clear c7
        replace H := zB H
        obtain ⟨t103, A80, H⟩ := H
        try dsimp only at H
        have A8 := zM A80
        clear A80
        by_cases c9 : t103 = true
        ·
         subst c9
         rw [if_pos rfl] at H
         have H' := zM H
         clear H
         have p101 : 0 ≤ (x13_1 : Int) := zT zv
         have q101 : x13_1 < (l0.length : Int) := zT zv
         obtain ⟨ad101, A101_0, c101_0, e101, hx101_0, hl101_0, hi101_0⟩ := at_L3 HR0.out x13_1 p101 q101
         cases e101
         have HR101_0 := zM hi101_0
         have HC101_0 := zM hl101_0
         clear hi101_0 hl101_0
         replace p101 := eq_true p101
         replace q101 := eq_true q101
         have p102 : 0 ≤ (x13_1 : Int) := zT zv
         have q102 : x13_1 < (l1.length : Int) := zT zv
         obtain ⟨ad102, A102_0, c102_0, e102, hx102_0, hl102_0, hi102_0⟩ := at_L3 HR1.out x13_1 p102 q102
         cases e102
         have HR102_0 := zM hi102_0
         have HC102_0 := zM hl102_0
         clear hi102_0 hl102_0
         replace p102 := eq_true p102
         replace q102 := eq_true q102
         go_wp2
         repeat (go_quiet (first | (go_at_call 27; (with_reducible refine (aumbryref04_Same.calls k1 _ _ (rd_L3 l0 x13_1) _ _ (rd_L3 l1 x13_1) true _ ?side1 ?side2 ?side3 ?side4 A8.out).mono ?_); (case side1 => exact Kd.C_below HR101_0.out zg); (case side2 => exact HC101_0.out); (case side3 => exact Kd.C_below HR102_0.out zg); (case side4 => exact HC102_0.out); rintro e w' ⟨rfl, ⟨nd, rfl⟩⟩; (try first | exact ⟨rfl, _, World.drewN_drewN _ _ _⟩ | exact ⟨rfl, _, Eq.trans (World.drewN_drewN _ _ _) (congrArg (World.drewN _) (Nat.add_assoc _ _ _))⟩))); try go_wp2)
         go_roundg k1
         case measure => have := HK1.out; omega
         case rel => exact ⟨(wrap64 (x13_1 + 1)), zy, H', ⟨by have := HK1.out; omega⟩, zd⟩
        ·
         replace c9 := zI c9
         subst c9
         rw [if_neg (show ¬ (false = true) by decide)] at H
         obtain rfl := zS H
         have p101 : 0 ≤ (x13_1 : Int) := zT zv
         have q101 : x13_1 < (l0.length : Int) := zT zv
         obtain ⟨ad101, A101_0, c101_0, e101, hx101_0, hl101_0, hi101_0⟩ := at_L3 HR0.out x13_1 p101 q101
         cases e101
         have HR101_0 := zM hi101_0
         have HC101_0 := zM hl101_0
         clear hi101_0 hl101_0
         replace p101 := eq_true p101
         replace q101 := eq_true q101
         have p102 : 0 ≤ (x13_1 : Int) := zT zv
         have q102 : x13_1 < (l1.length : Int) := zT zv
         obtain ⟨ad102, A102_0, c102_0, e102, hx102_0, hl102_0, hi102_0⟩ := at_L3 HR1.out x13_1 p102 q102
         cases e102
         have HR102_0 := zM hi102_0
         have HC102_0 := zM hl102_0
         clear hi102_0 hl102_0
         replace p102 := eq_true p102
         replace q102 := eq_true q102
         go_wp2
         repeat (go_quiet (first | (go_at_call 27; (with_reducible refine (aumbryref04_Same.calls k1 _ _ (rd_L3 l0 x13_1) _ _ (rd_L3 l1 x13_1) false _ ?side1 ?side2 ?side3 ?side4 A8.out).mono ?_); (case side1 => exact Kd.C_below HR101_0.out zg); (case side2 => exact HC101_0.out); (case side3 => exact Kd.C_below HR102_0.out zg); (case side4 => exact HC102_0.out); rintro e w' ⟨rfl, ⟨nd, rfl⟩⟩; (try first | exact ⟨rfl, _, World.drewN_drewN _ _ _⟩ | exact ⟨rfl, _, Eq.trans (World.drewN_drewN _ _ _) (congrArg (World.drewN _) (Nat.add_assoc _ _ _))⟩))); try go_wp2)
         go_ret
         exact ⟨zy, zd⟩
       ·
        rw [if_neg c7] at H
        exact absurd H (by simp)
      ·
       rw [if_neg c6] at H
       exact absurd H (by simp)
     ·
      rw [if_neg c5] at H
      exact absurd H (by simp)
    ·
     rw [if_neg c4] at H
     have c4b0 : decide (x13_1 < (l0.length : Int)) = false := zR c4
     clear c4
     obtain rfl := zS H
     go_wp2
     repeat (go_quiet (fail); try go_wp2)
     go_ret
     exact ⟨zy, zd⟩
 ·
  rw [if_neg c3] at H
  have c3b0 : ((l0.length : Int) == (l1.length : Int)) = false := zE c3
  have c3b1 : ((l0.length : Int) != (l1.length : Int)) = true := zF c3
  have c3b2 : (l0.length == l1.length) = false := by first | simpa using c3 | (simp at c3 ⊢; omega)
  obtain rfl := zS H
  go_enter Try.func38, Try.ntmps38
  go_wp2
  repeat (go_quiet (fail); try go_wp2)
  go_ret
  exact ⟨zy, zd⟩


-- ==== PF69

abbrev CkC := S54
structure IsRu (W : World) (g : Nat) (id : Int) (A1 : Option Addr) (c1 : Nat) (l : List CkC) (A2 : Option Addr) (c2 : Nat) (r : List CkC) : Prop where
 blk : W.heap[g]? = some (.cells #[.int .i64 id, .slice A1 l.length c1, .slice A2 r.length c2] 73 (0, 0))
 hl : Kd.C k54 W A1 l.length l
 hl' : l.length ≤ c1
 hr : Kd.C k54 W A2 r.length r
 hr' : r.length ≤ c2
theorem IsRu.below {W W' : World} {g c1 c2 : Nat} {id : Int} {A1 A2 : Option Addr} {l r : List CkC} (h : IsRu W g id A1 c1 l A2 c2 r) (hb : Below W.heap.size W W') : IsRu W' g id A1 c1 l A2 c2 r :=
 ⟨(hb.block g (blk_lt h.blk)).trans h.blk, Kd.C_below h.hl hb, h.hl', Kd.C_below h.hr hb, h.hr'⟩
theorem when_calls (b : Bool) (e : Int) (w : World) : Calls Try.prog 83 #[.bool b, .int .i64 e] w fun x w' => x = .returned (.int .i64 (if b = true then e else 0)) ∧ w' = w := by
 cases b
 ·
  go_enter Try.func83, Try.ntmps83
  go_wp2
  go_ret
  exact ⟨rfl, rfl⟩
 ·
  go_enter Try.func83, Try.ntmps83
  go_wp2
  go_ret
  exact ⟨rfl, rfl⟩
theorem ck1_calls {W : World} {g c1 c2 : Nat} {id : Int} {A1 A2 : Option Addr} {l r : List CkC} (h : IsRu W g id A1 c1 l A2 c2 r) :
 Calls Try.prog 82 #[.pointer (some ⟨g, 0, none⟩)] W fun x w' => x = .returned (.int .i64 (if id < 0 then 1 else if id > 65535 then 1 else 0)) ∧ Below W.heap.size W w' := by
 have hc0 : W.cell? ⟨g, 0, none⟩ = some (.int .i64 id) := (zX h.blk 0).trans rfl
 clear h
 by_cases h1 : id < 0
 ·
  have d1 : decide (id < 0) = true := zQ h1
  rw [if_pos h1]
  clear h1
  go_enter Try.func82, Try.ntmps82
  go_wp2_with (first | (go_at_call 83; (with_reducible refine (when_calls _ _ _).mono ?_); rintro e w1 ⟨rfl, rfl⟩))
  repeat (go_quiet (first | (go_at_call 83; (with_reducible refine (when_calls _ _ _).mono ?_); rintro e w1 ⟨rfl, rfl⟩)); try go_wp2_with (first | (go_at_call 83; (with_reducible refine (when_calls _ _ _).mono ?_); rintro e w1 ⟨rfl, rfl⟩)))
  all_goals (go_ret; exact ⟨by first | rfl | (simp; done) | (simp [*]; done) | (simp [*]; omega), by repeat (first | exact Below.refl _ _ | apply zN | apply zD)⟩)
 ·
  have d1 : decide (id < 0) = false := zR h1
  rw [if_neg h1]
  by_cases h2 : id > 65535
  ·
   have d2 : decide (65535 < id) = true := zQ h2
   rw [if_pos h2]
   clear h1 h2
   go_enter Try.func82, Try.ntmps82
   go_wp2_with (first | (go_at_call 83; (with_reducible refine (when_calls _ _ _).mono ?_); rintro e w1 ⟨rfl, rfl⟩))
   repeat (go_quiet (first | (go_at_call 83; (with_reducible refine (when_calls _ _ _).mono ?_); rintro e w1 ⟨rfl, rfl⟩)); try go_wp2_with (first | (go_at_call 83; (with_reducible refine (when_calls _ _ _).mono ?_); rintro e w1 ⟨rfl, rfl⟩)))
   all_goals (go_ret; exact ⟨by first | rfl | (simp; done) | (simp [*]; done) | (simp [*]; omega), by repeat (first | exact Below.refl _ _ | apply zN | apply zD)⟩)
  ·
   have d2 : decide (65535 < id) = false := zR h2
   rw [if_neg h2]
   clear h1 h2
   go_enter Try.func82, Try.ntmps82
   go_wp2_with (first | (go_at_call 83; (with_reducible refine (when_calls _ _ _).mono ?_); rintro e w1 ⟨rfl, rfl⟩))
   repeat (go_quiet (first | (go_at_call 83; (with_reducible refine (when_calls _ _ _).mono ?_); rintro e w1 ⟨rfl, rfl⟩)); try go_wp2_with (first | (go_at_call 83; (with_reducible refine (when_calls _ _ _).mono ?_); rintro e w1 ⟨rfl, rfl⟩)))
   all_goals (go_ret; exact ⟨by first | rfl | (simp; done) | (simp [*]; done) | (simp [*]; omega), by repeat (first | exact Below.refl _ _ | apply zN | apply zD)⟩)
theorem ck2_calls {W : World} {g c1 c2 k : Nat} {id e : Int} {A1 A2 : Option Addr} {l r : List CkC} (h : IsRu W g id A1 c1 l A2 c2 r) (he : term_Check.f k l = some e) :
 Calls Try.prog 84 #[.pointer (some ⟨g, 0, none⟩)] W fun x w' => x = .returned (.int .i64 e) ∧ Below W.heap.size W w' := by
 have hc0 : W.cell? ⟨g, 1, none⟩ = some (.slice A1 l.length c1) := (zX h.blk 1).trans rfl
 have C1 := term_Check.calls k A1 c1 l e W h.hl h.hl' he
 clear h he
 go_enter Try.func84, Try.ntmps84
 go_wp2_with (go_at_call 30; (with_reducible refine C1.mono ?_); rintro e w1 ⟨rfl, hb⟩; have HB := zM hb; clear hb)
 go_ret
 exact ⟨rfl, HB.out⟩
theorem ck3_calls {W : World} {g c1 c2 k : Nat} {id e : Int} {A1 A2 : Option Addr} {l r : List CkC} (h : IsRu W g id A1 c1 l A2 c2 r) (he : term_Check.f k r = some e) :
 Calls Try.prog 85 #[.pointer (some ⟨g, 0, none⟩)] W fun x w' => x = .returned (.int .i64 e) ∧ Below W.heap.size W w' := by
 have hc0 : W.cell? ⟨g, 2, none⟩ = some (.slice A2 r.length c2) := (zX h.blk 2).trans rfl
 have C1 := term_Check.calls k A2 c2 r e W h.hr h.hr' he
 clear h he
 go_enter Try.func85, Try.ntmps85
 go_wp2_with (go_at_call 30; (with_reducible refine C1.mono ?_); rintro e w1 ⟨rfl, hb⟩; have HB := zM hb; clear hb)
 go_ret
 exact ⟨rfl, HB.out⟩
theorem ck4_calls {W : World} {g c1 c2 : Nat} {id : Int} {A1 A2 : Option Addr} {l r : List CkC} (h : IsRu W g id A1 c1 l A2 c2 r) :
 Calls Try.prog 86 #[.pointer (some ⟨g, 0, none⟩)] W fun x w' => x = .returned (.int .i64 (if l.length > 8 then 6 else if r.length > 8 then 6 else 0)) ∧ Below W.heap.size W w' := by
 have hc1 : W.cell? ⟨g, 1, none⟩ = some (.slice A1 l.length c1) := (zX h.blk 1).trans rfl
 have hc2 : W.cell? ⟨g, 2, none⟩ = some (.slice A2 r.length c2) := (zX h.blk 2).trans rfl
 clear h
 by_cases hq : 8 < l.length ∨ 8 < r.length
 ·
  have HQ := zM hq
  have he : (if l.length > 8 then (6 : Int) else if r.length > 8 then 6 else 0) = 6 := by
   by_cases h1 : l.length > 8
   ·
    rw [if_pos h1]
   ·
    rw [if_neg h1, if_pos (by omega)]
  rw [he]
  clear he hq
  go_enter Try.func86, Try.ntmps86
  go_wp2_with (first | (go_at_call 83; (with_reducible refine (when_calls _ _ _).mono ?_); rintro e w1 ⟨rfl, rfl⟩))
  repeat (go_quiet (first | (go_at_call 83; (with_reducible refine (when_calls _ _ _).mono ?_); rintro e w1 ⟨rfl, rfl⟩)); try go_wp2_with (first | (go_at_call 83; (with_reducible refine (when_calls _ _ _).mono ?_); rintro e w1 ⟨rfl, rfl⟩)))
  all_goals (go_ret; exact ⟨by first | rfl | (simp; done) | (simp [*]; done) | (exfalso; have := HQ.out; omega), by repeat (first | exact Below.refl _ _ | apply zN | apply zD)⟩)
 ·
  have HQ := zM hq
  have he : (if l.length > 8 then (6 : Int) else if r.length > 8 then 6 else 0) = 0 := by
   rw [if_neg (by omega), if_neg (by omega)]
  rw [he]
  clear he hq
  go_enter Try.func86, Try.ntmps86
  go_wp2_with (first | (go_at_call 83; (with_reducible refine (when_calls _ _ _).mono ?_); rintro e w1 ⟨rfl, rfl⟩))
  repeat (go_quiet (first | (go_at_call 83; (with_reducible refine (when_calls _ _ _).mono ?_); rintro e w1 ⟨rfl, rfl⟩)); try go_wp2_with (first | (go_at_call 83; (with_reducible refine (when_calls _ _ _).mono ?_); rintro e w1 ⟨rfl, rfl⟩)))
  all_goals (go_ret; exact ⟨by first | rfl | (simp; done) | (simp [*]; done) | (exfalso; have := HQ.out; omega), by repeat (first | exact Below.refl _ _ | apply zN | apply zD)⟩)
theorem ck5_calls {W : World} {g c1 c2 k : Nat} {id e : Int} {A1 A2 : Option Addr} {l r : List CkC} (h : IsRu W g id A1 c1 l A2 c2 r) (hp : 0 < l.length) (he : name_Kind.f k (rd_T54 l 0).f0 = some e) :
 Calls Try.prog 87 #[.pointer (some ⟨g, 0, none⟩)] W fun x w' => x = .returned (.int .i64 (if e = 2 then 20 else 0)) ∧ Below W.heap.size W w' := by
 have hc1 : W.cell? ⟨g, 1, none⟩ = some (.slice A1 l.length c1) := (zX h.blk 1).trans rfl
 obtain ⟨ad101, e101, hx101_0, hx101_1⟩ := at_T54 h.hl 0 (by omega) (by omega)
 cases e101
 have C1 := fun W => name_Kind.calls k _ e W he
 clear h he
 have qi101 : (0 < l.length) = True := eq_true hp
 have c3b1 : decide (0 < l.length) = true := zQ hp
 clear hp
 (try rw [show ((0 : Int)).toNat = 0 from rfl] at hx101_0)
 (try rw [show 0 * 2 = 0 from rfl] at hx101_0)
 (try rw [Addr.add_zero'] at hx101_0)
 clear hx101_1
 by_cases h2 : e = 2
 ·
  have d2 : (e == 2) = true := zG h2
  rw [if_pos h2]
  clear h2
  go_enter Try.func87, Try.ntmps87
  go_wp2_with (first | (go_at_call 43; (with_reducible refine (C1 _).mono ?_); rintro e w1 ⟨rfl, ⟨nd, rfl⟩⟩) | (go_at_call 83; (with_reducible refine (when_calls _ _ _).mono ?_); rintro e w1 ⟨rfl, rfl⟩))
  repeat (go_quiet (first | (go_at_call 43; (with_reducible refine (C1 _).mono ?_); rintro e w1 ⟨rfl, ⟨nd, rfl⟩⟩) | (go_at_call 83; (with_reducible refine (when_calls _ _ _).mono ?_); rintro e w1 ⟨rfl, rfl⟩)); try go_wp2_with (first | (go_at_call 43; (with_reducible refine (C1 _).mono ?_); rintro e w1 ⟨rfl, ⟨nd, rfl⟩⟩) | (go_at_call 83; (with_reducible refine (when_calls _ _ _).mono ?_); rintro e w1 ⟨rfl, rfl⟩)))
  all_goals (go_ret; exact ⟨by first | rfl | (simp; done) | (simp [*]; done) | (simp [*]; omega), by repeat (first | exact Below.refl _ _ | apply zN | apply zD)⟩)
 ·
  have d2 : (e == 2) = false := zE h2
  rw [if_neg h2]
  clear h2
  go_enter Try.func87, Try.ntmps87
  go_wp2_with (first | (go_at_call 43; (with_reducible refine (C1 _).mono ?_); rintro e w1 ⟨rfl, ⟨nd, rfl⟩⟩) | (go_at_call 83; (with_reducible refine (when_calls _ _ _).mono ?_); rintro e w1 ⟨rfl, rfl⟩))
  repeat (go_quiet (first | (go_at_call 43; (with_reducible refine (C1 _).mono ?_); rintro e w1 ⟨rfl, ⟨nd, rfl⟩⟩) | (go_at_call 83; (with_reducible refine (when_calls _ _ _).mono ?_); rintro e w1 ⟨rfl, rfl⟩)); try go_wp2_with (first | (go_at_call 43; (with_reducible refine (C1 _).mono ?_); rintro e w1 ⟨rfl, ⟨nd, rfl⟩⟩) | (go_at_call 83; (with_reducible refine (when_calls _ _ _).mono ?_); rintro e w1 ⟨rfl, rfl⟩)))
  all_goals (go_ret; exact ⟨by first | rfl | (simp; done) | (simp [*]; done) | (simp [*]; omega), by repeat (first | exact Below.refl _ _ | apply zN | apply zD)⟩)
def strF (k : Nat) (vl : List ByteArray) : List ByteArray → Option Bool
 | [] => some false
 | v :: u => (slices_Contains_string_string.f k vl v).bind fun b => if b = true then strF k vl u else some true
structure IsVl (W : World) (p : Nat) (A : Option Addr) (c : Nat) (vl : List ByteArray) : Prop where
 blk : W.heap[p]? = some (.cells #[.slice A vl.length c] 26 (0, 0))
 hl : Kd.C Kd.string W A vl.length vl
 hc : vl.length ≤ c
theorem IsVl.below {W W' : World} {p c : Nat} {A : Option Addr} {vl : List ByteArray} (h : IsVl W p A c vl) (hb : Below W.heap.size W W') : IsVl W' p A c vl :=
 ⟨(hb.block p (blk_lt h.blk)).trans h.blk, Kd.C_below h.hl hb, h.hc⟩
theorem st1_calls {W : World} {p c k : Nat} {A : Option Addr} {vl : List ByteArray} {v : ByteArray} {b : Bool} (h : IsVl W p A c vl) (hf : slices_Contains_string_string.f k vl v = some b) :
 Calls Try.prog 97 #[.string v, .pointer (some ⟨p, 0, none⟩)] W fun x w' => x = .returned (.bool (!b)) ∧ Below W.heap.size W w' := by
 have hc0 : W.cell? ⟨p, 0, none⟩ = some (.slice A vl.length c) := (zX h.blk 0).trans rfl
 have C1 := slices_Contains_string_string.calls k A c vl v b W h.hl h.hc hf
 clear h hf
 go_enter Try.func97, Try.ntmps97
 go_wp2_with (first | (go_at_call 80; (with_reducible refine C1.mono ?_); rintro e w1 ⟨rfl, hb⟩; have HB := zM hb.below; clear hb))
 go_ret
 exact ⟨rfl, HB.out⟩
theorem ifn_calls {w : World} {p c k cr : Nat} {A Ar : Option Addr} {vl vr : List ByteArray} {b : Bool} (h : IsVl w p A c vl) (hr : Kd.C Kd.string w Ar vr.length vr) (hf : strF k vl vr = some b) :
 Calls Try.prog 105 #[.slice Ar vr.length cr, .func (.func 97) #[] #[.pointer (some ⟨p, 0, none⟩)]] w fun x w' => (∃ j : Int, x = .returned (.int .i64 j) ∧ decide (0 ≤ j) = b) ∧ Below w.heap.size w w' := by
 have HV := zM h
 have HR := zM hr
 have HF := zM hf
 have HM := zM (show (vr.length : Int) ≤ 9223372036854775807 by have := hr.2.1; omega)
 clear h hr hf
 have HB := zM (Below.refl w.heap.size w)
 go_enter Try.func105, Try.ntmps105
 go_wp2
 go_loopg [8] vr.length (fun kq v8 w' => ∃ x : Int, v8 = .int .i64 x ∧ Aside0 (0 ≤ x ∧ x + kq = (vr.length : Int)) ∧ Aside0 (strF k vl (vr.drop x.toNat) = some b) ∧ Aside0 (Below w.heap.size w w'))
 case atStart => exact ⟨0, rfl, ⟨by omega⟩, HF, HB⟩
 case round =>
  clear HF HB
  obtain ⟨x, rfl, HI, HF, HB⟩ := hrel
  cases gk with
  | succ k1 =>
   have hi : 0 ≤ x ∧ x < (vr.length : Int) := by have := HI.out; omega
   have hb0 : decide (x < (vr.length : Int)) = true := zQ hi.2
   have hb2 : decide (0 ≤ x) = true := zQ hi.1
   have hd : vr.drop x.toNat = rdOf ByteArray.empty vr x :: vr.drop (x.toNat + 1) := by
    rw [List.drop_eq_getElem_cons (by omega)]
    congr 1
    unfold rdOf
    rw [List.getD_eq_getElem?_getD, List.getElem?_eq_getElem (by omega)]
    rfl
   obtain ⟨ad, rfl, hx⟩ := Kd.at_string HR.out x hi.1 hi.2
   replace hx := (HB.out.cell (World.block_lt_of_cell? w _ hx)).trans hx
   have hf := HF.out
   rw [hd] at hf
   unfold strF at hf
   obtain ⟨b1, hb1, hf⟩ := zB hf
   have HX := zM hi
   have S1 := fun (W : World) (hW : Below w.heap.size w W) => st1_calls (HV.out.below hW) hb1
   have hp := eq_true hi.1
   have hq := eq_true hi.2
   cases b1 with
   | true =>
    rw [if_pos rfl] at hf
    have HF2 := zM hf
    clear hf hd hi hb1
    go_wp2_with (first | (go_at_call 97; (with_reducible refine (S1 _ ?side1).mono ?_); (case side1 => exact zb); rintro e w1 ⟨rfl, hb⟩; replace HB := zM (below_step zb hb); clear hb))
    go_roundg k1
    case measure => have := HI.out; omega
    case rel => exact ⟨x + 1, by have e_ : wrap64 (x + 1) = x + 1 := (by have := HX.out; have := HM.out; unfold wrap64; omega); first | rfl | rw [e_] | (simp [e_]; done), ⟨by have := HI.out; omega⟩, ⟨by rw [show (x + 1).toNat = x.toNat + 1 by have := HX.out; omega]; exact HF2.out⟩, ⟨by repeat (first | exact HB.out | apply zA | apply zN | apply zD)⟩⟩
   | false =>
    rw [if_neg (by simp)] at hf
    obtain rfl := zS hf
    clear hf hd hi hb1
    go_wp2_with (first | (go_at_call 97; (with_reducible refine (S1 _ ?side1).mono ?_); (case side1 => exact zb); rintro e w1 ⟨rfl, hb⟩; replace HB := zM (below_step zb hb); clear hb))
    go_ret
    exact ⟨⟨x, rfl, zQ HX.out.1⟩, by repeat (first | exact HB.out | apply zA | apply zN | apply zD)⟩
  | zero =>
   have hb0 : decide (x < (vr.length : Int)) = false := zR (by have := HI.out; omega)
   have hf := HF.out
   rw [List.drop_eq_nil_of_le (by have := HI.out; omega)] at hf
   obtain rfl := zS hf
   clear hf
   go_wp2
   go_ret
   exact ⟨⟨-1, rfl, rfl⟩, HB.out⟩
theorem cfn_calls {w : World} {p c k cr : Nat} {A Ar : Option Addr} {vl vr : List ByteArray} {b : Bool} (h : IsVl w p A c vl) (hr : Kd.C Kd.string w Ar vr.length vr) (hf : strF k vl vr = some b) :
 Calls Try.prog 96 #[.slice Ar vr.length cr, .func (.func 97) #[] #[.pointer (some ⟨p, 0, none⟩)]] w fun x w' => x = .returned (.bool b) ∧ Below w.heap.size w w' := by
 have C1 := ifn_calls (cr := cr) h hr hf
 clear h hr hf
 go_enter Try.func96, Try.ntmps96
 go_wp2_with (first | (go_at_call 105; (with_reducible refine C1.mono ?_); rintro e w1 ⟨⟨j, rfl, hj⟩, hb⟩; have HB := zM hb; clear hb))
 go_ret
 exact ⟨zy, HB.out⟩
theorem str_calls {w : World} {c1 c2 k : Nat} {id q1 q2 : Int} {A1 A2 : Option Addr} {l r : List CkC} {vl vr : List ByteArray} {b : Bool} (hl : Kd.C k54 w A1 l.length l) (hl' : l.length ≤ c1) (hr : Kd.C k54 w A2 r.length r) (hr' : r.length ≤ c2)
 (h1 : term_Vars.f k l = some (vl, q1)) (h2 : term_Vars.f k r = some (vr, q2)) (hf : strF k vl vr = some b) :
 Calls Try.prog 89 #[.agg #[.int .i64 id, .slice A1 l.length c1, .slice A2 r.length c2]] w fun x w' => x = .returned (.bool b) ∧ Below w.heap.size w w' := by
 have HL := zM hl
 have HR := zM hr
 have V1 := fun (W : World) (hW : Below w.heap.size w W) => term_Vars.calls k A1 c1 l vl q1 W (Kd.C_below hl hW) hl' h1
 have V2 := fun (W : World) (hW : Below w.heap.size w W) => term_Vars.calls k A2 c2 r vr q2 W (Kd.C_below hr hW) hr' h2
 clear hl hr h1 h2
 have HF := zM hf
 clear hf
 have hmf : ∀ (fn : Fn) (first cap : Array Value) (w : World), (Instr.makeFunc fn first cap).run Try.prog w = .ok (.func fn first cap) w := fun _ _ _ _ => rfl
 have HB := zM (Below.refl w.heap.size w)
 go_enter Try.func89, Try.ntmps89
 go_wp2_with (first | (go_at_call 62; (with_reducible refine (V1 _ ?side1).mono ?_); (case side1 => exact zb); rintro e w1 ⟨v1, rfl, hR, hb⟩; obtain ⟨Av, cv, rfl⟩ := Kd.R_slice hR; have HRV := zM (Kd.R_reads' hR).2; have hz : w.heap.size + 1 ≤ w1.heap.size := (by have h_ := hb.size; simp at h_; omega); have hzc : w1.cell? ⟨w.heap.size, 2, none⟩ = some (.slice A2 r.length c2) := (hb.cell (p := ⟨w.heap.size, 2, none⟩) (by simp)).trans ((cell_of_row _ _ 2 _ _ (0, 0) (heap_alloc_new w _)).trans rfl); replace HB := zM (below_step zb hb); clear hR hb; have HZ := zM hz; have hlt : w.heap.size < w1.heap.size := hz; clear hz) | (go_at_call 62; (with_reducible refine (V2 _ ?side2).mono ?_); (case side2 => exact (by repeat (first | exact HB.out | apply zA | apply zN | apply zD | (refine below_set ?_ (by have := HZ.out; omega))))); rintro e w2 ⟨v2, rfl, hR, hb⟩; obtain ⟨Ar, cr, rfl⟩ := Kd.R_slice hR; have hbx := heap_alloc_new w1 (.cells #[.slice Av vl.length cv] 26); have HIV := zM (IsVl.below (vl := vl) (c := cv) (A := Av) ⟨hbx, Kd.C_below HRV.out.2 (zA (Below.refl _ _) _), HRV.out.1⟩ hb); have HCR := zM (Kd.R_reads' hR).2.2; replace HB := zM (below_step (by repeat (first | exact HB.out | apply zA | apply zN | apply zD | (refine below_set ?_ (by have := HZ.out; omega)))) hb); clear hR hb hbx) | (go_at_call 96; (with_reducible refine (cfn_calls HIV.out HCR.out HF.out).mono ?_); rintro e w3 ⟨rfl, hb⟩; replace HB := zM (below_step HB.out hb); clear hb))
 go_ret
 exact ⟨rfl, HB.out⟩
def fst6 (e1 e2 e3 e4 e5 e6 : Int) : Int := if e1 ≠ 0 then e1 else if e2 ≠ 0 then e2 else if e3 ≠ 0 then e3 else if e4 ≠ 0 then e4 else if e5 ≠ 0 then e5 else e6
abbrev Asks (w : World) (f : Nat) (p : Value) (e : Int) : Prop := ∀ W, Below w.heap.size w W → Calls Try.prog f #[p] W fun x w' => x = .returned (.int .i64 e) ∧ Below W.heap.size W w'
def fnV (f : Nat) (p : Value) : Value := .func (.func f) #[] #[p]
theorem first_calls {w : World} {s : Nat} {p : Value} {e1 e2 e3 e4 e5 e6 : Int}
 (hs : w.heap[s]? = some (.cells #[fnV 82 p, fnV 84 p, fnV 85 p, fnV 86 p, fnV 87 p, fnV 88 p] 134 (0, 0)))
 (h1 : Asks w 82 p e1) (h2 : e1 = 0 → Asks w 84 p e2) (h3 : e1 = 0 → e2 = 0 → Asks w 85 p e3)
 (h4 : e1 = 0 → e2 = 0 → e3 = 0 → Asks w 86 p e4) (h5 : e1 = 0 → e2 = 0 → e3 = 0 → e4 = 0 → Asks w 87 p e5) (h6 : e1 = 0 → e2 = 0 → e3 = 0 → e4 = 0 → e5 = 0 → Asks w 88 p e6) :
 Calls Try.prog 81 #[.slice (some ⟨s, 0, none⟩) 6 6] w fun x w' => x = .returned (.int .i64 (fst6 e1 e2 e3 e4 e5 e6)) ∧ Below w.heap.size w w' := by
 have hc0_0 : w.cell? ⟨s, 0, none⟩ = some (.func (.func 82) #[] #[p]) := (zX hs 0).trans rfl
 have hc0_1 : w.cell? ⟨s, 1, none⟩ = some (.func (.func 84) #[] #[p]) := (zX hs 1).trans rfl
 have hc0_2 : w.cell? ⟨s, 2, none⟩ = some (.func (.func 85) #[] #[p]) := (zX hs 2).trans rfl
 have hc0_3 : w.cell? ⟨s, 3, none⟩ = some (.func (.func 86) #[] #[p]) := (zX hs 3).trans rfl
 have hc0_4 : w.cell? ⟨s, 4, none⟩ = some (.func (.func 87) #[] #[p]) := (zX hs 4).trans rfl
 have hc0_5 : w.cell? ⟨s, 5, none⟩ = some (.func (.func 88) #[] #[p]) := (zX hs 5).trans rfl
 have HB := zM (Below.refl w.heap.size w)
 clear hs
 have HC0 := zM hc0_0
 have HC1 := zM hc0_1
 have HC2 := zM hc0_2
 have HC3 := zM hc0_3
 have HC4 := zM hc0_4
 have HC5 := zM hc0_5
 clear hc0_0 hc0_1 hc0_2 hc0_3 hc0_4 hc0_5
 have a1 := h1
 by_cases c1 : e1 = 0
 case neg =>
  have d1 : (e1 != 0) = true := zF c1
  have hf : fst6 e1 e2 e3 e4 e5 e6 = e1 := by
   unfold fst6
   simp [c1]
  rw [hf]
  clear hf c1 h1 h2 h3 h4 h5 h6
  have hc_0 := HC0.out
  go_enter Try.func81, Try.ntmps81
  go_wp2
  refine wp_loop_rounds 1 ?_
  rw [rounds_succ]
  go_wp2_with (first | (go_at_call 82; (with_reducible refine (a1 _ ?side1).mono ?_); (case side1 => exact zb); rintro e w1 ⟨rfl, hb⟩; replace HB := zM (below_step zb hb); clear hb; have hc_1 := pw_cell_below HB.out HC1.out))
  go_ret
  exact ⟨zy, HB.out⟩
 case pos =>
 subst c1
 have a2 := h2 rfl
 by_cases c2 : e2 = 0
 case neg =>
  have d2 : (e2 != 0) = true := zF c2
  have hf : fst6 0 e2 e3 e4 e5 e6 = e2 := by
   unfold fst6
   simp [c2]
  rw [hf]
  clear hf c2 h1 h2 h3 h4 h5 h6
  have hc_0 := HC0.out
  go_enter Try.func81, Try.ntmps81
  go_wp2
  refine wp_loop_rounds 2 ?_
  rw [rounds_succ]
  go_wp2_with (first | (go_at_call 82; (with_reducible refine (a1 _ ?side1).mono ?_); (case side1 => exact zb); rintro e w1 ⟨rfl, hb⟩; replace HB := zM (below_step zb hb); clear hb; have hc_1 := pw_cell_below HB.out HC1.out))
  rw [rounds_succ]
  go_wp2_with (first | (go_at_call 84; (with_reducible refine (a2 _ ?side2).mono ?_); (case side2 => exact zb); rintro e w2 ⟨rfl, hb⟩; replace HB := zM (below_step zb hb); clear hb; have hc_2 := pw_cell_below HB.out HC2.out))
  go_ret
  exact ⟨zy, HB.out⟩
 case pos =>
 subst c2
 have a3 := h3 rfl rfl
 by_cases c3 : e3 = 0
 case neg =>
  have d3 : (e3 != 0) = true := zF c3
  have hf : fst6 0 0 e3 e4 e5 e6 = e3 := by
   unfold fst6
   simp [c3]
  rw [hf]
  clear hf c3 h1 h2 h3 h4 h5 h6
  have hc_0 := HC0.out
  go_enter Try.func81, Try.ntmps81
  go_wp2
  refine wp_loop_rounds 3 ?_
  rw [rounds_succ]
  go_wp2_with (first | (go_at_call 82; (with_reducible refine (a1 _ ?side1).mono ?_); (case side1 => exact zb); rintro e w1 ⟨rfl, hb⟩; replace HB := zM (below_step zb hb); clear hb; have hc_1 := pw_cell_below HB.out HC1.out))
  rw [rounds_succ]
  go_wp2_with (first | (go_at_call 84; (with_reducible refine (a2 _ ?side2).mono ?_); (case side2 => exact zb); rintro e w2 ⟨rfl, hb⟩; replace HB := zM (below_step zb hb); clear hb; have hc_2 := pw_cell_below HB.out HC2.out))
  rw [rounds_succ]
  go_wp2_with (first | (go_at_call 85; (with_reducible refine (a3 _ ?side3).mono ?_); (case side3 => exact zb); rintro e w3 ⟨rfl, hb⟩; replace HB := zM (below_step zb hb); clear hb; have hc_3 := pw_cell_below HB.out HC3.out))
  go_ret
  exact ⟨zy, HB.out⟩
 case pos =>
 subst c3
 have a4 := h4 rfl rfl rfl
 by_cases c4 : e4 = 0
 case neg =>
  have d4 : (e4 != 0) = true := zF c4
  have hf : fst6 0 0 0 e4 e5 e6 = e4 := by
   unfold fst6
   simp [c4]
  rw [hf]
  clear hf c4 h1 h2 h3 h4 h5 h6
  have hc_0 := HC0.out
  go_enter Try.func81, Try.ntmps81
  go_wp2
  refine wp_loop_rounds 4 ?_
  rw [rounds_succ]
  go_wp2_with (first | (go_at_call 82; (with_reducible refine (a1 _ ?side1).mono ?_); (case side1 => exact zb); rintro e w1 ⟨rfl, hb⟩; replace HB := zM (below_step zb hb); clear hb; have hc_1 := pw_cell_below HB.out HC1.out))
  rw [rounds_succ]
  go_wp2_with (first | (go_at_call 84; (with_reducible refine (a2 _ ?side2).mono ?_); (case side2 => exact zb); rintro e w2 ⟨rfl, hb⟩; replace HB := zM (below_step zb hb); clear hb; have hc_2 := pw_cell_below HB.out HC2.out))
  rw [rounds_succ]
  go_wp2_with (first | (go_at_call 85; (with_reducible refine (a3 _ ?side3).mono ?_); (case side3 => exact zb); rintro e w3 ⟨rfl, hb⟩; replace HB := zM (below_step zb hb); clear hb; have hc_3 := pw_cell_below HB.out HC3.out))
  rw [rounds_succ]
  go_wp2_with (first | (go_at_call 86; (with_reducible refine (a4 _ ?side4).mono ?_); (case side4 => exact zb); rintro e w4 ⟨rfl, hb⟩; replace HB := zM (below_step zb hb); clear hb; have hc_4 := pw_cell_below HB.out HC4.out))
  go_ret
  exact ⟨zy, HB.out⟩
 case pos =>
 subst c4
 have a5 := h5 rfl rfl rfl rfl
 by_cases c5 : e5 = 0
 case neg =>
  have d5 : (e5 != 0) = true := zF c5
  have hf : fst6 0 0 0 0 e5 e6 = e5 := by
   unfold fst6
   simp [c5]
  rw [hf]
  clear hf c5 h1 h2 h3 h4 h5 h6
  have hc_0 := HC0.out
  go_enter Try.func81, Try.ntmps81
  go_wp2
  refine wp_loop_rounds 5 ?_
  rw [rounds_succ]
  go_wp2_with (first | (go_at_call 82; (with_reducible refine (a1 _ ?side1).mono ?_); (case side1 => exact zb); rintro e w1 ⟨rfl, hb⟩; replace HB := zM (below_step zb hb); clear hb; have hc_1 := pw_cell_below HB.out HC1.out))
  rw [rounds_succ]
  go_wp2_with (first | (go_at_call 84; (with_reducible refine (a2 _ ?side2).mono ?_); (case side2 => exact zb); rintro e w2 ⟨rfl, hb⟩; replace HB := zM (below_step zb hb); clear hb; have hc_2 := pw_cell_below HB.out HC2.out))
  rw [rounds_succ]
  go_wp2_with (first | (go_at_call 85; (with_reducible refine (a3 _ ?side3).mono ?_); (case side3 => exact zb); rintro e w3 ⟨rfl, hb⟩; replace HB := zM (below_step zb hb); clear hb; have hc_3 := pw_cell_below HB.out HC3.out))
  rw [rounds_succ]
  go_wp2_with (first | (go_at_call 86; (with_reducible refine (a4 _ ?side4).mono ?_); (case side4 => exact zb); rintro e w4 ⟨rfl, hb⟩; replace HB := zM (below_step zb hb); clear hb; have hc_4 := pw_cell_below HB.out HC4.out))
  rw [rounds_succ]
  go_wp2_with (first | (go_at_call 87; (with_reducible refine (a5 _ ?side5).mono ?_); (case side5 => exact zb); rintro e w5 ⟨rfl, hb⟩; replace HB := zM (below_step zb hb); clear hb; have hc_5 := pw_cell_below HB.out HC5.out))
  go_ret
  exact ⟨zy, HB.out⟩
 case pos =>
 subst c5
 have a6 := h6 rfl rfl rfl rfl rfl
 by_cases c6 : e6 = 0
 case neg =>
  have d6 : (e6 != 0) = true := zF c6
  have hf : fst6 0 0 0 0 0 e6 = e6 := by
   unfold fst6
   simp [c6]
  rw [hf]
  clear hf c6 h1 h2 h3 h4 h5 h6
  have hc_0 := HC0.out
  go_enter Try.func81, Try.ntmps81
  go_wp2
  refine wp_loop_rounds 6 ?_
  rw [rounds_succ]
  go_wp2_with (first | (go_at_call 82; (with_reducible refine (a1 _ ?side1).mono ?_); (case side1 => exact zb); rintro e w1 ⟨rfl, hb⟩; replace HB := zM (below_step zb hb); clear hb; have hc_1 := pw_cell_below HB.out HC1.out))
  rw [rounds_succ]
  go_wp2_with (first | (go_at_call 84; (with_reducible refine (a2 _ ?side2).mono ?_); (case side2 => exact zb); rintro e w2 ⟨rfl, hb⟩; replace HB := zM (below_step zb hb); clear hb; have hc_2 := pw_cell_below HB.out HC2.out))
  rw [rounds_succ]
  go_wp2_with (first | (go_at_call 85; (with_reducible refine (a3 _ ?side3).mono ?_); (case side3 => exact zb); rintro e w3 ⟨rfl, hb⟩; replace HB := zM (below_step zb hb); clear hb; have hc_3 := pw_cell_below HB.out HC3.out))
  rw [rounds_succ]
  go_wp2_with (first | (go_at_call 86; (with_reducible refine (a4 _ ?side4).mono ?_); (case side4 => exact zb); rintro e w4 ⟨rfl, hb⟩; replace HB := zM (below_step zb hb); clear hb; have hc_4 := pw_cell_below HB.out HC4.out))
  rw [rounds_succ]
  go_wp2_with (first | (go_at_call 87; (with_reducible refine (a5 _ ?side5).mono ?_); (case side5 => exact zb); rintro e w5 ⟨rfl, hb⟩; replace HB := zM (below_step zb hb); clear hb; have hc_5 := pw_cell_below HB.out HC5.out))
  rw [rounds_succ]
  go_wp2_with (first | (go_at_call 88; (with_reducible refine (a6 _ ?side6).mono ?_); (case side6 => exact zb); rintro e w6 ⟨rfl, hb⟩; replace HB := zM (below_step zb hb); clear hb))
  go_ret
  exact ⟨zy, HB.out⟩
 case pos =>
 subst c6
 have hf : fst6 0 0 0 0 0 0 = 0 := rfl
 rw [hf]
 clear hf h1 h2 h3 h4 h5 h6
 have hc_0 := HC0.out
 go_enter Try.func81, Try.ntmps81
 go_wp2
 refine wp_loop_rounds 7 ?_
 rw [rounds_succ]
 go_wp2_with (first | (go_at_call 82; (with_reducible refine (a1 _ ?side1).mono ?_); (case side1 => exact zb); rintro e w1 ⟨rfl, hb⟩; replace HB := zM (below_step zb hb); clear hb; have hc_1 := pw_cell_below HB.out HC1.out))
 rw [rounds_succ]
 go_wp2_with (first | (go_at_call 84; (with_reducible refine (a2 _ ?side2).mono ?_); (case side2 => exact zb); rintro e w2 ⟨rfl, hb⟩; replace HB := zM (below_step zb hb); clear hb; have hc_2 := pw_cell_below HB.out HC2.out))
 rw [rounds_succ]
 go_wp2_with (first | (go_at_call 85; (with_reducible refine (a3 _ ?side3).mono ?_); (case side3 => exact zb); rintro e w3 ⟨rfl, hb⟩; replace HB := zM (below_step zb hb); clear hb; have hc_3 := pw_cell_below HB.out HC3.out))
 rw [rounds_succ]
 go_wp2_with (first | (go_at_call 86; (with_reducible refine (a4 _ ?side4).mono ?_); (case side4 => exact zb); rintro e w4 ⟨rfl, hb⟩; replace HB := zM (below_step zb hb); clear hb; have hc_4 := pw_cell_below HB.out HC4.out))
 rw [rounds_succ]
 go_wp2_with (first | (go_at_call 87; (with_reducible refine (a5 _ ?side5).mono ?_); (case side5 => exact zb); rintro e w5 ⟨rfl, hb⟩; replace HB := zM (below_step zb hb); clear hb; have hc_5 := pw_cell_below HB.out HC5.out))
 rw [rounds_succ]
 go_wp2_with (first | (go_at_call 88; (with_reducible refine (a6 _ ?side6).mono ?_); (case side6 => exact zb); rintro e w6 ⟨rfl, hb⟩; replace HB := zM (below_step zb hb); clear hb))
 rw [rounds_succ]
 go_wp2
 go_ret
 exact ⟨zy, HB.out⟩
theorem ck6_calls {W : World} {g c1 c2 k : Nat} {id q1 q2 : Int} {A1 A2 : Option Addr} {l r : List CkC} {vl vr : List ByteArray} {b : Bool} (h : IsRu W g id A1 c1 l A2 c2 r)
 (h1 : term_Vars.f k l = some (vl, q1)) (h2 : term_Vars.f k r = some (vr, q2)) (hf : strF k vl vr = some b) :
 Calls Try.prog 88 #[.pointer (some ⟨g, 0, none⟩)] W fun x w' => x = .returned (.int .i64 (if b = true then 7 else 0)) ∧ Below W.heap.size W w' := by
 have hc0 : W.cell? ⟨g, 0, none⟩ = some (.int .i64 id) := (zX h.blk 0).trans rfl
 have hc1 : W.cell? ⟨g, 1, none⟩ = some (.slice A1 l.length c1) := (zX h.blk 1).trans rfl
 have hc2 : W.cell? ⟨g, 2, none⟩ = some (.slice A2 r.length c2) := (zX h.blk 2).trans rfl
 have S1 := str_calls (id := id) h.hl h.hl' h.hr h.hr' h1 h2 hf
 clear h h1 h2 hf
 cases b
 ·
  go_enter Try.func88, Try.ntmps88
  go_wp2_with (first | (go_at_call 89; (with_reducible refine S1.mono ?_); rintro e w1 ⟨rfl, hb⟩; have HB := zM hb; clear hb) | (go_at_call 83; (with_reducible refine (when_calls _ _ _).mono ?_); rintro e w2 ⟨rfl, rfl⟩))
  go_ret
  exact ⟨zy, HB.out⟩
 ·
  go_enter Try.func88, Try.ntmps88
  go_wp2_with (first | (go_at_call 89; (with_reducible refine S1.mono ?_); rintro e w1 ⟨rfl, hb⟩; have HB := zM hb; clear hb) | (go_at_call 83; (with_reducible refine (when_calls _ _ _).mono ?_); rintro e w2 ⟨rfl, rfl⟩))
  go_ret
  exact ⟨zy, HB.out⟩
def rchF (k : Nat) (id : Int) (l r : List CkC) : Option Int :=
 if id < 0 then some 1 else if id > 65535 then some 1 else
 (term_Check.f k l).bind fun e2 => if e2 = 0 then ((term_Check.f k r).bind fun e3 => if e3 = 0 then (
  if l.length > 8 then some 6 else if r.length > 8 then some 6 else if 0 < l.length then (
   (name_Kind.f k (rd_T54 l 0).f0).bind fun kd => if kd = 2 then some 20 else
    (term_Vars.f k l).bind fun a => (term_Vars.f k r).bind fun b => (strF k a.1 b.1).bind fun s => some (if s = true then 7 else 0)) else none) else some e3) else some e2
theorem fst6_1 {e1 e2 e3 e4 e5 e6 : Int} (h : e1 ≠ 0) : fst6 e1 e2 e3 e4 e5 e6 = e1 := if_pos h
theorem fst6_2 {e2 e3 e4 e5 e6 : Int} (h : e2 ≠ 0) : fst6 0 e2 e3 e4 e5 e6 = e2 := by unfold fst6; simp [h]
theorem fst6_3 {e3 e4 e5 e6 : Int} (h : e3 ≠ 0) : fst6 0 0 e3 e4 e5 e6 = e3 := by unfold fst6; simp [h]
theorem fst6_4 {e4 e5 e6 : Int} (h : e4 ≠ 0) : fst6 0 0 0 e4 e5 e6 = e4 := by unfold fst6; simp [h]
theorem fst6_5 {e5 e6 : Int} (h : e5 ≠ 0) : fst6 0 0 0 0 e5 e6 = e5 := by unfold fst6; simp [h]
theorem rch_split {k : Nat} {id e : Int} {l r : List CkC} (h : rchF k id l r = some e) : ∃ e2 e3 kd e6 : Int, fst6 (if id < 0 then 1 else if id > 65535 then 1 else 0) e2 e3 (if l.length > 8 then 6 else if r.length > 8 then 6 else 0) (if kd = 2 then 20 else 0) e6 = e ∧
 ((if id < 0 then (1 : Int) else if id > 65535 then 1 else 0) = 0 → term_Check.f k l = some e2) ∧ ((if id < 0 then (1 : Int) else if id > 65535 then 1 else 0) = 0 → e2 = 0 → term_Check.f k r = some e3) ∧
 ((if id < 0 then (1 : Int) else if id > 65535 then 1 else 0) = 0 → e2 = 0 → e3 = 0 → (if l.length > 8 then (6 : Int) else if r.length > 8 then 6 else 0) = 0 → 0 < l.length ∧ name_Kind.f k (rd_T54 l 0).f0 = some kd) ∧
 ((if id < 0 then (1 : Int) else if id > 65535 then 1 else 0) = 0 → e2 = 0 → e3 = 0 → (if l.length > 8 then (6 : Int) else if r.length > 8 then 6 else 0) = 0 → (if kd = 2 then (20 : Int) else 0) = 0 → ∃ vl q1 vr q2 b, term_Vars.f k l = some (vl, q1) ∧ term_Vars.f k r = some (vr, q2) ∧ strF k vl vr = some b ∧ e6 = if b = true then 7 else 0) := by
 unfold rchF at h
 by_cases c1 : id < 0
 ·
  rw [if_pos c1] at h
  injection h with h
  subst h
  simp only [if_pos c1]
  exact ⟨0, 0, 0, 0, fst6_1 (by decide), (fun h => absurd h (by decide)), (fun h => absurd h (by decide)), (fun h => absurd h (by decide)), (fun h => absurd h (by decide))⟩
 ·
  rw [if_neg c1] at h
  simp only [if_neg c1]
  by_cases c2 : id > 65535
  ·
   rw [if_pos c2] at h
   injection h with h
   subst h
   simp only [if_pos c2]
   exact ⟨0, 0, 0, 0, fst6_1 (by decide), (fun h => absurd h (by decide)), (fun h => absurd h (by decide)), (fun h => absurd h (by decide)), (fun h => absurd h (by decide))⟩
  ·
   rw [if_neg c2] at h
   simp only [if_neg c2]
   obtain ⟨e2, h2, h⟩ := zB h
   by_cases d2 : e2 = 0
   ·
    subst d2
    rw [if_pos rfl] at h
    obtain ⟨e3, h3, h⟩ := zB h
    by_cases d3 : e3 = 0
    ·
     subst d3
     rw [if_pos rfl] at h
     by_cases d4 : l.length > 8
     ·
      rw [if_pos d4] at h
      injection h with h
      subst h
      simp only [if_pos d4]
      exact ⟨0, 0, 0, 0, fst6_4 (by decide), fun _ => h2, fun _ _ => h3, (fun _ _ _ h => absurd h (by decide)), (fun _ _ _ h => absurd h (by decide))⟩
     ·
      rw [if_neg d4] at h
      simp only [if_neg d4]
      by_cases d5 : r.length > 8
      ·
       rw [if_pos d5] at h
       injection h with h
       subst h
       simp only [if_pos d5]
       exact ⟨0, 0, 0, 0, fst6_4 (by decide), fun _ => h2, fun _ _ => h3, (fun _ _ _ h => absurd h (by decide)), (fun _ _ _ h => absurd h (by decide))⟩
      ·
       rw [if_neg d5] at h
       simp only [if_neg d5]
       by_cases d6 : 0 < l.length
       ·
        rw [if_pos d6] at h
        obtain ⟨kd, hk, h⟩ := zB h
        by_cases d7 : kd = 2
        ·
         rw [if_pos d7] at h
         injection h with h
         subst h
         refine ⟨0, 0, kd, 0, ?_, fun _ => h2, fun _ _ => h3, fun _ _ _ _ => ⟨d6, hk⟩, fun _ _ _ _ h => ?_⟩
         ·
          rw [if_pos d7]; exact fst6_5 (by decide)
         ·
          rw [if_pos d7] at h; cases h
        ·
         rw [if_neg d7] at h
         obtain ⟨⟨vl, q1⟩, a1, h⟩ := zB h
         obtain ⟨⟨vr, q2⟩, a2, h⟩ := zB h
         obtain ⟨b, a3, h⟩ := zB h
         injection h with h
         subst h
         refine ⟨0, 0, kd, _, ?_, fun _ => h2, fun _ _ => h3, fun _ _ _ _ => ⟨d6, hk⟩, fun _ _ _ _ _ => ⟨vl, q1, vr, q2, b, a1, a2, a3, rfl⟩⟩
         rw [if_neg d7]
         rfl
       ·
        rw [if_neg d6] at h
        cases h
    ·
     rw [if_neg d3] at h
     injection h with h
     subst h
     exact ⟨0, e3, 0, 0, fst6_3 d3, fun _ => h2, fun _ _ => h3, fun _ _ h => absurd h d3, fun _ _ h => absurd h d3⟩
   ·
    rw [if_neg d2] at h
    injection h with h
    subst h
    exact ⟨e2, 0, 0, 0, fst6_2 d2, fun _ => h2, fun _ h => absurd h d2, fun _ h => absurd h d2, fun _ h => absurd h d2⟩
def ruBox (w : World) (id : Int) (A1 : Option Addr) (c1 : Nat) (l : List CkC) (A2 : Option Addr) (c2 : Nat) (r : List CkC) : World := w.alloc (.cells #[.int .i64 id, .slice A1 l.length c1, .slice A2 r.length c2] 73)
def ruP (w : World) : Value := .pointer (some ⟨w.heap.size, 0, none⟩)
theorem rch_calls (k : Nat) (id : Int) (A1 : Option Addr) (c1 : Nat) (l : List CkC) (A2 : Option Addr) (c2 : Nat) (r : List CkC) (e : Int) (w : World) (hl : Kd.C k54 w A1 l.length l) (hl' : l.length ≤ c1) (hr : Kd.C k54 w A2 r.length r) (hr' : r.length ≤ c2) (h : rchF k id l r = some e) :
 Calls Try.prog 69 #[.agg #[.int .i64 id, .slice A1 l.length c1, .slice A2 r.length c2]] w fun x w' => x = .returned (.int .i64 e) ∧ Below w.heap.size w w' := by
 obtain ⟨e2, e3, kd, e6, hfst, g2, g3, g5, g6⟩ := rch_split h
 clear h
 have hb1 : Below w.heap.size w (ruBox w id A1 c1 l A2 c2 r) := zA (Below.refl _ _) _
 have hI : IsRu (ruBox w id A1 c1 l A2 c2 r) w.heap.size id A1 c1 l A2 c2 r := ⟨heap_alloc_new w _, Kd.C_below hl hb1, hl', Kd.C_below hr hb1, hr'⟩
 have hsz : (ruBox w id A1 c1 l A2 c2 r).heap.size = w.heap.size + 1 := by simp [ruBox]
 have FC := fun (row : Obj) (hrow : row = .cells #[fnV 82 (ruP w), fnV 84 (ruP w), fnV 85 (ruP w), fnV 86 (ruP w), fnV 87 (ruP w), fnV 88 (ruP w)] 134 (0, 0)) =>
  (show Calls Try.prog 81 #[.slice (some ⟨w.heap.size + 1, 0, none⟩) 6 6] ((ruBox w id A1 c1 l A2 c2 r).alloc row) (fun x w' => x = .returned (.int .i64 e) ∧ Below w.heap.size w w') from by
   have hI2 : IsRu ((ruBox w id A1 c1 l A2 c2 r).alloc row) w.heap.size id A1 c1 l A2 c2 r := hI.below (zA (Below.refl _ _) _)
   have hs := heap_alloc_new (ruBox w id A1 c1 l A2 c2 r) row
   rw [hsz] at hs
   rw [hrow] at hs hI2 ⊢
   have := first_calls (p := ruP w) hs (fun W hW => ck1_calls (hI2.below hW)) (fun a => fun W hW => ck2_calls (hI2.below hW) (g2 a)) (fun a b => fun W hW => ck3_calls (hI2.below hW) (g3 a b)) (fun a b c => fun W hW => ck4_calls (hI2.below hW)) (fun a b c d => fun W hW => ck5_calls (hI2.below hW) (g5 a b c d).1 (g5 a b c d).2)
    (e6 := e6) (fun a b c d f => fun W hW => by
     obtain ⟨vl, q1, vr, q2, b', a1, a2, a3, a4⟩ := g6 a b c d f
     rw [a4]
     exact ck6_calls (hI2.below hW) a1 a2 a3)
   rw [hfst] at this
   exact this.mono fun x w' hx => ⟨hx.1, below_step (zA hb1 _) hx.2⟩)
 clear hI hsz hb1 g2 g3 g5 g6 hfst hl hr
 have FD := FC _ rfl
 clear FC
 unfold ruBox ruP fnV at FD
 have hmf : ∀ (fn : Fn) (first cap : Array Value) (w : World), (Instr.makeFunc fn first cap).run Try.prog w = .ok (.func fn first cap) w := fun _ _ _ _ => rfl
 go_enter Try.func69, Try.ntmps69
 go_wp2_with (first | (go_at_call 81; (with_reducible refine FD.mono ?_); rintro e w1 ⟨rfl, hb⟩; have HB := zM hb; clear hb))
 go_ret
 exact ⟨rfl, HB.out⟩
theorem strF_mono (vl : List ByteArray) (k : Nat) : ∀ vr, LeO (strF k vl vr) (strF (k + 1) vl vr)
 | [] => LeO.refl _
 | v :: u => by
  unfold strF
  exact LeO.bind (slices_Contains_string_string.mono _ _ _) fun b => LeO.ite (strF_mono vl k u) (LeO.refl _)
def rule_Check.f (k : Nat) (a0_0 : Int) (l0_1 : List (S54)) (l0_2 : List (S54)) : Option Int := rchF k a0_0 l0_1 l0_2
theorem rule_Check.mono : ∀ a0 a1 a2 k, LeO (rule_Check.f k a0 a1 a2) (rule_Check.f (k + 1) a0 a1 a2) := by
 intro a0 a1 a2 k
 unfold rule_Check.f rchF
 refine LeO.ite (LeO.refl _) (LeO.ite (LeO.refl _) (LeO.bind (term_Check.mono _ _) fun _ => LeO.ite (LeO.bind (term_Check.mono _ _) fun _ => LeO.ite (LeO.ite (LeO.refl _) (LeO.ite (LeO.refl _) (LeO.ite (LeO.bind (name_Kind.mono _ _) fun _ => LeO.ite (LeO.refl _) (LeO.bind (term_Vars.mono _ _) fun _ => LeO.bind (term_Vars.mono _ _) fun _ => LeO.bind (strF_mono _ _ _) fun _ => LeO.refl _)) (LeO.refl _)))) (LeO.refl _)) (LeO.refl _)))
theorem rule_Check.calls (k : Nat) (a0_0 : Int) (A0_1 : Option Addr) (c0_1 : Nat) (l0_1 : List (S54)) (A0_2 : Option Addr) (c0_2 : Nat) (l0_2 : List (S54)) (r : Int) (w : World) (hr0_1 : Kd.C k54 w A0_1 l0_1.length l0_1) (hc0_1 : l0_1.length ≤ c0_1) (hr0_2 : Kd.C k54 w A0_2 l0_2.length l0_2) (hc0_2 : l0_2.length ≤ c0_2) (h : rule_Check.f k a0_0 l0_1 l0_2 = some r) :
 Calls Try.prog 69 #[.agg #[.int .i64 a0_0, .slice A0_1 l0_1.length c0_1, .slice A0_2 l0_2.length c0_2]] w fun e w' => e = .returned (.int .i64 r) ∧ Below w.heap.size w w' := rch_calls k a0_0 A0_1 c0_1 l0_1 A0_2 c0_2 l0_2 r w hr0_1 hc0_1 hr0_2 hc0_2 h



-- ==== PF46

mutual
def rewrite_together.l0 : Nat → List (S73) → List (S73) → Int → Int → Option (Int)
 | 0, _, _, _, _ => none
 | k + 1, x0, x7, x8, x9 => if x9 < x8 then (if 0 ≤ x9 then (if x9 < (x7.length : Int) then ((rule_Check.f k ((rd_T73 x7 x9).f0) ((rd_T73 x7 x9).f1) ((rd_T73 x7 x9).f2)).bind fun t103 => (if t103 = 0 then (rewrite_together.l0 k x0 x7 x8 (wrap64 (x9 + 1))) else (some t103))) else (none)) else (none)) else (rewrite_together.l1 k x0 1)
def rewrite_together.l1 : Nat → List (S73) → Int → Option (Int)
 | 0, _, _ => none
 | k + 1, x0, x6 => if x6 < (x0.length : Int) then (if 0 ≤ (wrap64 (x6 - 1)) then (if (wrap64 (x6 - 1)) < (x0.length : Int) then (if 0 ≤ x6 then (if ((rd_T73 x0 (wrap64 (x6 - 1))).f0) ≥ ((rd_T73 x0 x6).f0) then (some 19) else (rewrite_together.l1 k x0 (wrap64 (x6 + 1)))) else (none)) else (none)) else (none)) else (some 0)
end
def rewrite_together.f (k : Nat) (l0 : List (S73)) : Option (Int) := rewrite_together.l0 k l0 l0 (l0.length : Int) 0
theorem rewrite_together.mono_l : ∀ k, (∀ y0 y1 y2 y3, LeO (rewrite_together.l0 k y0 y1 y2 y3) (rewrite_together.l0 (k + 1) y0 y1 y2 y3)) ∧ (∀ y0 y1, LeO (rewrite_together.l1 k y0 y1) (rewrite_together.l1 (k + 1) y0 y1))
 | 0 => ⟨fun _ _ _ _ r h => by simp [rewrite_together.l0] at h, fun _ _ r h => by simp [rewrite_together.l1] at h⟩
 | k + 1 => by
  obtain ⟨ih0, ih1⟩ := rewrite_together.mono_l k
  refine ⟨?_, ?_⟩
  ·
   intro y0 y1 y2 y3
   unfold rewrite_together.l0
   repeat' first
   | (with_reducible exact ih0 _ _ _ _)
   | (with_reducible exact ih1 _ _)
   | (with_reducible exact rule_Check.mono _ _ _ _)
   | (with_reducible exact LeO.refl _)
   | (with_reducible exact LeO.none _)
   | (with_reducible refine LeO.ite ?_ ?_)
   | (with_reducible refine LeO.bind ?_ (fun _ => ?_))
  ·
   intro y0 y1
   unfold rewrite_together.l1
   repeat' first
   | (with_reducible exact ih0 _ _ _ _)
   | (with_reducible exact ih1 _ _)
   | (with_reducible exact rule_Check.mono _ _ _ _)
   | (with_reducible exact LeO.refl _)
   | (with_reducible exact LeO.none _)
   | (with_reducible refine LeO.ite ?_ ?_)
   | (with_reducible refine LeO.bind ?_ (fun _ => ?_))
theorem rewrite_together.mono : ∀ a0 k, LeO (rewrite_together.f k a0) (rewrite_together.f (k + 1) a0) := by
 intro a0 k
 obtain ⟨ih0, ih1⟩ := rewrite_together.mono_l k
 unfold rewrite_together.f
 repeat' first
  | (with_reducible exact ih0 _ _ _ _)
  | (with_reducible exact ih1 _ _)
  | (with_reducible exact rule_Check.mono _ _ _ _)
  | (with_reducible exact LeO.refl _)
  | (with_reducible exact LeO.none _)
  | (with_reducible refine LeO.ite ?_ ?_)
  | (with_reducible refine LeO.bind ?_ (fun _ => ?_))
theorem rewrite_together.calls (k : Nat) (A0 : Option Addr) (c0 : Nat) (l0 : List (S73)) (r : Int) (w : World) (hr0 : Kd.C k73 w A0 l0.length l0) (hc0 : l0.length ≤ c0) (h : rewrite_together.f k l0 = some r) :
 Calls Try.prog 46 #[.slice A0 l0.length c0] w fun e w' => e = .returned (.int .i64 r) ∧ Below w.heap.size w w' := by
 have hu73 := Try.underlying73
 have HR0 := zM hr0
 have HC0 := zM hc0
 clear hr0 hc0
 have HB := zM (Below.refl w.heap.size w)
 have H : (rewrite_together.l0 k l0 l0 (l0.length : Int) 0) = some r := h
 clear h
 have H' := zM H
 clear H
 go_enter Try.func46, Try.ntmps46
 go_wp2
 repeat (go_quiet (fail); try go_wp2)
 go_loopg [9] k (fun kq v9 w' => ∃ (x9_1 : Int), v9 = .int .i64 x9_1 ∧ Aside0 (rewrite_together.l0 kq l0 l0 (l0.length : Int) x9_1 = some r) ∧ Aside0 (kq ≤ k) ∧ Aside0 (Below w.heap.size w w'))
 case atStart => exact ⟨(0), zy, H', ⟨Nat.le_refl _⟩, ⟨zb⟩⟩
 case round =>
  clear H'
  obtain ⟨x9_1, rfl, HA, HK1, HB⟩ := hrel
  cases gk with
  | zero => exact absurd HA.out (by simp [rewrite_together.l0])
  | succ k1 =>
   have H := HA.out
   clear HA
   simp only [rewrite_together.l0] at H
   by_cases c2 : x9_1 < (l0.length : Int)
   ·
    rw [if_pos c2] at H
    have c2b0 : decide (x9_1 < (l0.length : Int)) = true := zQ c2
    clear c2
    by_cases c3 : 0 ≤ x9_1
    ·
     rw [if_pos c3] at H
     have c3b0 : decide (0 ≤ x9_1) = true := zQ c3
     clear c3
     by_cases c4 : x9_1 < (l0.length : Int)
     ·
      rw [if_pos c4] at H
      have c4b0 : decide (x9_1 < (l0.length : Int)) = true := zQ c4
      clear c4
      replace H := zB H
      obtain ⟨t103, A50, H⟩ := H
      try dsimp only at H
      have A5 := zM A50
      clear A50
      by_cases c6 : t103 = 0
      ·
       rw [if_pos c6] at H
       have c6b0 : (t103 == 0) = true := zG c6
       have c6b1 : (t103 != 0) = false := zH c6
       clear c6
       have H' := zM H
       clear H
       have p101 : 0 ≤ (x9_1 : Int) := zT zv
       have q101 : x9_1 < (l0.length : Int) := zT zv
       obtain ⟨ad101, A101_1, c101_1, A101_2, c101_2, e101, hx101_0, hx101_1, hx101_2, hl101_1, hi101_1, hl101_2, hi101_2⟩ := at_T73 HR0.out x9_1 p101 q101
       cases e101
       replace hx101_0 := (HB.out.cell (World.block_lt_of_cell? w _ hx101_0)).trans hx101_0
       replace hx101_1 := (HB.out.cell (World.block_lt_of_cell? w _ hx101_1)).trans hx101_1
       replace hx101_2 := (HB.out.cell (World.block_lt_of_cell? w _ hx101_2)).trans hx101_2
       have HR101_1 := zM hi101_1
       have HC101_1 := zM hl101_1
       clear hi101_1 hl101_1
       have HR101_2 := zM hi101_2
       have HC101_2 := zM hl101_2
       clear hi101_2 hl101_2
       replace p101 := eq_true p101
       replace q101 := eq_true q101
       go_wp2_with (first | ((with_reducible refine gate_dst (N := 4) rfl ?_); refine box_event ?hg (N := 4) ?hd (cs := #[.int .i64 0, .slice none 0 0, .slice none 0 0]) (t := 73) ?hr ?_; (case hd => rfl); (case hg => rfl); (case hr => first | (go_simp; done) | (go_simp; rfl)); intro gb102 hg w7 hbox hb; have BK102 := zM (hbox); have GW102 := zM (zh hg : w.heap.size ≤ gb102); have GE102 := zM (zh hg : w.heap.size ≤ gb102); replace HB := zM (below_step zb hb); clear hb hbox hg; have hcz8_0 : w7.cell? ⟨gb102, 0, none⟩ = some (.int .i64 0) := (zX BK102.out 0).trans rfl; have hcz8_1 : w7.cell? ⟨gb102, 1, none⟩ = some (.slice none 0 0) := (zX BK102.out 1).trans rfl; have hcz8_2 : w7.cell? ⟨gb102, 2, none⟩ = some (.slice none 0 0) := (zX BK102.out 2).trans rfl; have hfz8_0 := zY BK102.out 0; have hfz8_1 := zY BK102.out 1; have hfz8_2 := zY BK102.out 2) | (go_at_call 69; (with_reducible refine (rule_Check.calls k1 ((rd_T73 l0 x9_1).f0) _ _ ((rd_T73 l0 x9_1).f1) _ _ ((rd_T73 l0 x9_1).f2) t103 _ ?side1 ?side2 ?side3 ?side4 A5.out).mono ?_); (case side1 => exact Kd.C_below HR101_1.out zb); (case side2 => exact HC101_1.out); (case side3 => exact Kd.C_below HR101_2.out zb); (case side4 => exact HC101_2.out); rintro e w9 ⟨rfl, hb⟩; replace BK102 := zM (blk_below (g := gb102) (o := .cells #[.int .i64 ((rd_T73 l0 x9_1).f0), .slice A101_1 ((rd_T73 l0 x9_1).f1).length c101_1, .slice A101_2 ((rd_T73 l0 x9_1).f2).length c101_2] 73 (0, 0)) (by refine zk ?_; refine blk_put (cs := #[.int .i64 ((rd_T73 l0 x9_1).f0), .slice A101_1 ((rd_T73 l0 x9_1).f1).length c101_1, .slice none 0 0]) ?_ 2 _ rfl; refine zk ?_; refine blk_put (cs := #[.int .i64 ((rd_T73 l0 x9_1).f0), .slice none 0 0, .slice none 0 0]) ?_ 1 _ rfl; refine zk ?_; refine blk_put (cs := #[.int .i64 0, .slice none 0 0, .slice none 0 0]) ?_ 0 _ rfl; refine zk ?_; exact BK102.out) hb); replace HB := zM (below_step zb hb); (try clear hb)))
       go_roundg k1
       case measure => have := HK1.out; omega
       case rel => exact ⟨(wrap64 (x9_1 + 1)), zy, H', ⟨by have := HK1.out; omega⟩, ⟨zb⟩⟩
      ·
       rw [if_neg c6] at H
       have c6b0 : (t103 == 0) = false := zE c6
       have c6b1 : (t103 != 0) = true := zF c6
       obtain rfl := zS H
       have p101 : 0 ≤ (x9_1 : Int) := zT zv
       have q101 : x9_1 < (l0.length : Int) := zT zv
       obtain ⟨ad101, A101_1, c101_1, A101_2, c101_2, e101, hx101_0, hx101_1, hx101_2, hl101_1, hi101_1, hl101_2, hi101_2⟩ := at_T73 HR0.out x9_1 p101 q101
       cases e101
       replace hx101_0 := (HB.out.cell (World.block_lt_of_cell? w _ hx101_0)).trans hx101_0
       replace hx101_1 := (HB.out.cell (World.block_lt_of_cell? w _ hx101_1)).trans hx101_1
       replace hx101_2 := (HB.out.cell (World.block_lt_of_cell? w _ hx101_2)).trans hx101_2
       have HR101_1 := zM hi101_1
       have HC101_1 := zM hl101_1
       clear hi101_1 hl101_1
       have HR101_2 := zM hi101_2
       have HC101_2 := zM hl101_2
       clear hi101_2 hl101_2
       replace p101 := eq_true p101
       replace q101 := eq_true q101
       go_wp2_with (first | ((with_reducible refine gate_dst (N := 4) rfl ?_); refine box_event ?hg (N := 4) ?hd (cs := #[.int .i64 0, .slice none 0 0, .slice none 0 0]) (t := 73) ?hr ?_; (case hd => rfl); (case hg => rfl); (case hr => first | (go_simp; done) | (go_simp; rfl)); intro gb102 hg w10 hbox hb; have BK102 := zM (hbox); have GW102 := zM (zh hg : w.heap.size ≤ gb102); have GE102 := zM (zh hg : w.heap.size ≤ gb102); replace HB := zM (below_step zb hb); clear hb hbox hg; have hcz11_0 : w10.cell? ⟨gb102, 0, none⟩ = some (.int .i64 0) := (zX BK102.out 0).trans rfl; have hcz11_1 : w10.cell? ⟨gb102, 1, none⟩ = some (.slice none 0 0) := (zX BK102.out 1).trans rfl; have hcz11_2 : w10.cell? ⟨gb102, 2, none⟩ = some (.slice none 0 0) := (zX BK102.out 2).trans rfl; have hfz11_0 := zY BK102.out 0; have hfz11_1 := zY BK102.out 1; have hfz11_2 := zY BK102.out 2) | (go_at_call 69; (with_reducible refine (rule_Check.calls k1 ((rd_T73 l0 x9_1).f0) _ _ ((rd_T73 l0 x9_1).f1) _ _ ((rd_T73 l0 x9_1).f2) t103 _ ?side1 ?side2 ?side3 ?side4 A5.out).mono ?_); (case side1 => exact Kd.C_below HR101_1.out zb); (case side2 => exact HC101_1.out); (case side3 => exact Kd.C_below HR101_2.out zb); (case side4 => exact HC101_2.out); rintro e w12 ⟨rfl, hb⟩; replace BK102 := zM (blk_below (g := gb102) (o := .cells #[.int .i64 ((rd_T73 l0 x9_1).f0), .slice A101_1 ((rd_T73 l0 x9_1).f1).length c101_1, .slice A101_2 ((rd_T73 l0 x9_1).f2).length c101_2] 73 (0, 0)) (by refine zk ?_; refine blk_put (cs := #[.int .i64 ((rd_T73 l0 x9_1).f0), .slice A101_1 ((rd_T73 l0 x9_1).f1).length c101_1, .slice none 0 0]) ?_ 2 _ rfl; refine zk ?_; refine blk_put (cs := #[.int .i64 ((rd_T73 l0 x9_1).f0), .slice none 0 0, .slice none 0 0]) ?_ 1 _ rfl; refine zk ?_; refine blk_put (cs := #[.int .i64 0, .slice none 0 0, .slice none 0 0]) ?_ 0 _ rfl; refine zk ?_; exact BK102.out) hb); replace HB := zM (below_step zb hb); (try clear hb)))
       go_ret
       exact ⟨zw, zb⟩
     ·
      rw [if_neg c4] at H
      exact absurd H (by simp)
    ·
     rw [if_neg c3] at H
     exact absurd H (by simp)
   ·
    rw [if_neg c2] at H
    have c2b0 : decide (x9_1 < (l0.length : Int)) = false := zR c2
    clear c2
    have H' := zM H
    clear H
    go_wp2
    repeat (go_quiet (fail); try go_wp2)
    go_loopg [6] k1 (fun kq v6 w' => ∃ (x6_2 : Int), v6 = .int .i64 x6_2 ∧ Aside0 (rewrite_together.l1 kq l0 x6_2 = some r) ∧ Aside0 (kq ≤ k1) ∧ Aside0 (Below w.heap.size w w'))
    case atStart => exact ⟨(1), zy, H', ⟨Nat.le_refl _⟩, ⟨zb⟩⟩
    case round =>
     clear H'
     try clear c1
     try clear p1
     try clear q1
     try clear hx1
     try clear c2
     try clear c2b0
     try clear p2
     try clear c3
     try clear c3b0
     try clear c4
     try clear c4b0
     try clear c6
     try clear c6b0
     try clear c6b1
     try clear p6
     try clear c10
     try clear p10
     try clear q10
     try clear hx10
     try clear hcz11_0
     try clear hcz11_1
     try clear hcz11_2
     try clear hcz8_0
     try clear hcz8_1
     try clear hcz8_2
     try clear hfz11_0
     try clear hfz11_1
     try clear hfz11_2
     try clear hfz8_0
     try clear hfz8_1
     try clear hfz8_2
     try clear hx101_0
     try clear hx101_1
     try clear hx101_2
     try clear p101
     try clear q101
     obtain ⟨x6_2, rfl, HA, HK2, HB⟩ := hrel
     cases gk with
     | zero => exact absurd HA.out (by simp [rewrite_together.l1])
     | succ k2 =>
      have H := HA.out
      clear HA
      simp only [rewrite_together.l1] at H
      by_cases c13 : x6_2 < (l0.length : Int)
      ·
       rw [if_pos c13] at H
       have c13b0 : decide (x6_2 < (l0.length : Int)) = true := zQ c13
       clear c13
       obtain ⟨ji14, hji14⟩ : ∃ j_ : Int, (wrap64 (x6_2 - 1)) = j_ := ⟨_, rfl⟩
       replace H : (if 0 ≤ (ji14) then (if (ji14) < (l0.length : Int) then (if 0 ≤ x6_2 then (if ((rd_T73 l0 (ji14)).f0) ≥ ((rd_T73 l0 x6_2).f0) then (some 19) else (rewrite_together.l1 k2 l0 (wrap64 (x6_2 + 1)))) else (none)) else (none)) else (none)) = some r := by first | (rw [hji14] at H; exact H) | (simp only [hji14] at H ⊢; exact H)
       have hji14w : (IntKind.i64.wrap (x6_2 - 1)) = ji14 := (i64_w _).trans hji14
       by_cases c15 : 0 ≤ (ji14)
       ·
        rw [if_pos c15] at H
        have c15b0 : decide (0 ≤ (ji14)) = true := zQ c15
        clear c15
        by_cases c16 : (ji14) < (l0.length : Int)
        ·
         rw [if_pos c16] at H
         have c16b0 : decide ((ji14) < (l0.length : Int)) = true := zQ c16
         clear c16
         by_cases c17 : 0 ≤ x6_2
         ·
          rw [if_pos c17] at H
          have c17b0 : decide (0 ≤ x6_2) = true := zQ c17
          clear c17
          by_cases c18 : ((rd_T73 l0 (ji14)).f0) ≥ ((rd_T73 l0 x6_2).f0)
          ·
           rw [if_pos c18] at H
           have c18b0 : decide (((rd_T73 l0 x6_2).f0) ≤ ((rd_T73 l0 (ji14)).f0)) = true := zQ c18
           clear c18
           obtain rfl := zS H
           have p104 : 0 ≤ ((ji14) : Int) := zT zv
           have q104 : (ji14) < (l0.length : Int) := zT zv
           obtain ⟨ad104, A104_1, c104_1, A104_2, c104_2, e104, hx104_0, hx104_1, hx104_2, hl104_1, hi104_1, hl104_2, hi104_2⟩ := at_T73 HR0.out (ji14) p104 q104
           cases e104
           replace hx104_0 := (HB.out.cell (World.block_lt_of_cell? w _ hx104_0)).trans hx104_0
           replace hx104_1 := (HB.out.cell (World.block_lt_of_cell? w _ hx104_1)).trans hx104_1
           replace hx104_2 := (HB.out.cell (World.block_lt_of_cell? w _ hx104_2)).trans hx104_2
           have HR104_1 := zM hi104_1
           have HC104_1 := zM hl104_1
           clear hi104_1 hl104_1
           have HR104_2 := zM hi104_2
           have HC104_2 := zM hl104_2
           clear hi104_2 hl104_2
           replace p104 := eq_true p104
           replace q104 := eq_true q104
           have p105 : 0 ≤ (x6_2 : Int) := zT zv
           have q105 : x6_2 < (l0.length : Int) := zT zv
           obtain ⟨ad105, A105_1, c105_1, A105_2, c105_2, e105, hx105_0, hx105_1, hx105_2, hl105_1, hi105_1, hl105_2, hi105_2⟩ := at_T73 HR0.out x6_2 p105 q105
           obtain rfl : ad104 = ad105 := (by injection e105)
           replace hx105_0 := (HB.out.cell (World.block_lt_of_cell? w _ hx105_0)).trans hx105_0
           replace hx105_1 := (HB.out.cell (World.block_lt_of_cell? w _ hx105_1)).trans hx105_1
           replace hx105_2 := (HB.out.cell (World.block_lt_of_cell? w _ hx105_2)).trans hx105_2
           have HR105_1 := zM hi105_1
           have HC105_1 := zM hl105_1
           clear hi105_1 hl105_1
           have HR105_2 := zM hi105_2
           have HC105_2 := zM hl105_2
           clear hi105_2 hl105_2
           replace p105 := eq_true p105
           replace q105 := eq_true q105
           go_wp2
           repeat (go_quiet (fail); try go_wp2)
           go_ret
           exact ⟨by first | rfl | (simp [errW_none, errW_some] <;> rfl) | (simp only [← hji14]; first | rfl | (simp [errW_none, errW_some] <;> rfl)) | (simp [*, errW_none, errW_some] <;> rfl), zb⟩
          ·
           rw [if_neg c18] at H
           have c18b0 : decide (((rd_T73 l0 x6_2).f0) ≤ ((rd_T73 l0 (ji14)).f0)) = false := zR c18
           clear c18
           have H' := zM H
           clear H
           have p104 : 0 ≤ ((ji14) : Int) := zT zv
           have q104 : (ji14) < (l0.length : Int) := zT zv
           obtain ⟨ad104, A104_1, c104_1, A104_2, c104_2, e104, hx104_0, hx104_1, hx104_2, hl104_1, hi104_1, hl104_2, hi104_2⟩ := at_T73 HR0.out (ji14) p104 q104
           cases e104
           replace hx104_0 := (HB.out.cell (World.block_lt_of_cell? w _ hx104_0)).trans hx104_0
           replace hx104_1 := (HB.out.cell (World.block_lt_of_cell? w _ hx104_1)).trans hx104_1
           replace hx104_2 := (HB.out.cell (World.block_lt_of_cell? w _ hx104_2)).trans hx104_2
           have HR104_1 := zM hi104_1
           have HC104_1 := zM hl104_1
           clear hi104_1 hl104_1
           have HR104_2 := zM hi104_2
           have HC104_2 := zM hl104_2
           clear hi104_2 hl104_2
           replace p104 := eq_true p104
           replace q104 := eq_true q104
           have p105 : 0 ≤ (x6_2 : Int) := zT zv
           have q105 : x6_2 < (l0.length : Int) := zT zv
           obtain ⟨ad105, A105_1, c105_1, A105_2, c105_2, e105, hx105_0, hx105_1, hx105_2, hl105_1, hi105_1, hl105_2, hi105_2⟩ := at_T73 HR0.out x6_2 p105 q105
           obtain rfl : ad104 = ad105 := (by injection e105)
           replace hx105_0 := (HB.out.cell (World.block_lt_of_cell? w _ hx105_0)).trans hx105_0
           replace hx105_1 := (HB.out.cell (World.block_lt_of_cell? w _ hx105_1)).trans hx105_1
           replace hx105_2 := (HB.out.cell (World.block_lt_of_cell? w _ hx105_2)).trans hx105_2
           have HR105_1 := zM hi105_1
           have HC105_1 := zM hl105_1
           clear hi105_1 hl105_1
           have HR105_2 := zM hi105_2
           have HC105_2 := zM hl105_2
           clear hi105_2 hl105_2
           replace p105 := eq_true p105
           replace q105 := eq_true q105
           go_wp2
           repeat (go_quiet (fail); try go_wp2)
           go_roundg k2
           case measure => have := HK1.out; have := HK2.out; omega
           case rel => exact ⟨(wrap64 (x6_2 + 1)), zy, H', ⟨by have := HK1.out; have := HK2.out; omega⟩, ⟨zb⟩⟩
         ·
          rw [if_neg c17] at H
          exact absurd H (by simp)
        ·
         rw [if_neg c16] at H
         exact absurd H (by simp)
       ·
        rw [if_neg c15] at H
        exact absurd H (by simp)
      ·
       rw [if_neg c13] at H
       have c13b0 : decide (x6_2 < (l0.length : Int)) = false := zR c13
       clear c13
       obtain rfl := zS H
       go_wp2
       repeat (go_quiet (fail); try go_wp2)
       go_ret
       exact ⟨zw, zb⟩


-- ==== PF47

mutual
def rewrite_clone.l0 : Nat → List (S70) → Int → Int → List (S70) → List (List (S54)) → Int → List ByteArray → List (S70) → Int → List ByteArray → Option ((List (S70)) × (List (List (S54))) × Int × List ByteArray)
 | 0, _, _, _, _, _, _, _, _, _, _ => none
 | k + 1, x15, x16, x17, x102000, x102001, x102002, x102003, x107000, x107002, x107003 => if x17 < x16 then (if 0 ≤ x17 then (if x17 < (x15.length : Int) then ((api_Cell_71.f ((rd_T70 x15 x17).f2)).bind fun t109 => (if x107000.length < 2513169434916 then (rewrite_clone.l0 k x15 x16 (wrap64 (x17 + 1)) x102000 x102001 x102002 x102003 (x107000 ++ [(⟨(rd_T70 x15 x17).f0, (⟨(rd_T70 x15 x17).f1.f0, (rd_T70 x15 x17).f1.f1⟩ : S54), t109⟩ : S70)]) x107002 x107003) else (none))) else (none)) else (none)) else (rewrite_clone.l1 k x102001 (x102001.length : Int) 0 x107000 ([] : List (List (S54))) x107002 x107003)
def rewrite_clone.l1 : Nat → List (List (S54)) → Int → Int → List (S70) → List (List (S54)) → Int → List ByteArray → Option ((List (S70)) × (List (List (S54))) × Int × List ByteArray)
 | 0, _, _, _, _, _, _, _ => none
 | k + 1, x33, x34, x35, x107000, x107001, x107002, x107003 => if x35 < x34 then (if 0 ≤ x35 then (if x35 < (x33.length : Int) then ((api_Cell_71.f (rd_L3 x33 x35)).bind fun t116 => (if x107001.length < 5864062014805 then (rewrite_clone.l1 k x33 x34 (wrap64 (x35 + 1)) x107000 (x107001 ++ [t116]) x107002 x107003) else (none))) else (none)) else (none)) else (some (x107000, x107001, x107002, x107003))
end
def rewrite_clone.f (k : Nat) (l0_0 : List (S70)) (l0_1 : List (List (S54))) (a0_2 : Int) (l0_3 : List ByteArray) : Option ((List (S70)) × (List (List (S54))) × Int × List ByteArray) := (slices_Clone_string_string.f l0_3).bind fun t103 => (rewrite_clone.l0 k l0_0 (l0_0.length : Int) 0 l0_0 l0_1 a0_2 l0_3 ([] : List (S70)) a0_2 t103)
theorem rewrite_clone.mono_l : ∀ k, (∀ y0 y1 y2 y3 y4 y5 y6 y7 y8 y9, LeO (rewrite_clone.l0 k y0 y1 y2 y3 y4 y5 y6 y7 y8 y9) (rewrite_clone.l0 (k + 1) y0 y1 y2 y3 y4 y5 y6 y7 y8 y9)) ∧ (∀ y0 y1 y2 y3 y4 y5 y6, LeO (rewrite_clone.l1 k y0 y1 y2 y3 y4 y5 y6) (rewrite_clone.l1 (k + 1) y0 y1 y2 y3 y4 y5 y6))
 | 0 => ⟨fun _ _ _ _ _ _ _ _ _ _ r h => by simp [rewrite_clone.l0] at h, fun _ _ _ _ _ _ _ r h => by simp [rewrite_clone.l1] at h⟩
 | k + 1 => by
  obtain ⟨ih0, ih1⟩ := rewrite_clone.mono_l k
  refine ⟨?_, ?_⟩
  ·
   intro y0 y1 y2 y3 y4 y5 y6 y7 y8 y9
   unfold rewrite_clone.l0
   repeat' first
   | (with_reducible exact ih0 _ _ _ _ _ _ _ _ _ _)
   | (with_reducible exact ih1 _ _ _ _ _ _ _)
   | (with_reducible exact LeO.refl _)
   | (with_reducible exact LeO.none _)
   | (with_reducible refine LeO.ite ?_ ?_)
   | (with_reducible refine LeO.bind ?_ (fun _ => ?_))
  ·
   intro y0 y1 y2 y3 y4 y5 y6
   unfold rewrite_clone.l1
   repeat' first
   | (with_reducible exact ih0 _ _ _ _ _ _ _ _ _ _)
   | (with_reducible exact ih1 _ _ _ _ _ _ _)
   | (with_reducible exact LeO.refl _)
   | (with_reducible exact LeO.none _)
   | (with_reducible refine LeO.ite ?_ ?_)
   | (with_reducible refine LeO.bind ?_ (fun _ => ?_))
theorem rewrite_clone.mono : ∀ a0 a1 a2 a3 k, LeO (rewrite_clone.f k a0 a1 a2 a3) (rewrite_clone.f (k + 1) a0 a1 a2 a3) := by
 intro a0 a1 a2 a3 k
 obtain ⟨ih0, ih1⟩ := rewrite_clone.mono_l k
 unfold rewrite_clone.f
 repeat' first
  | (with_reducible exact ih0 _ _ _ _ _ _ _ _ _ _)
  | (with_reducible exact ih1 _ _ _ _ _ _ _)
  | (with_reducible exact LeO.refl _)
  | (with_reducible exact LeO.none _)
  | (with_reducible refine LeO.ite ?_ ?_)
  | (with_reducible refine LeO.bind ?_ (fun _ => ?_))
def rewrite_clone.T1 : Bool × List (List Nat × List Nat) := (true, [([], []), ([0], [0]), ([], []), ([2], [2]), ([3], [3]), ([1, 4], [1, 4]), ([], []), ([6, 5, 4, 0, 1, 2, 3, 4, 5, 6], [5, 6])])
def rewrite_clone.B1 : List Nat := [0, 1, 0, 4, 12, 31, 0, 127]
theorem rewrite_clone.tab1 : rtab .any (opsOf Try.f47 1) = rewrite_clone.T1 := by kernel_rfl
theorem rewrite_clone.bits1 : waitsOk rewrite_clone.T1.2 rewrite_clone.B1 = true := by kernel_rfl
def rewrite_clone.T11 : Bool × List (List Nat × List Nat) := (true, [([], []), ([0], [0]), ([], []), ([2], [2]), ([3], [3]), ([1, 4, 3], [1, 4]), ([0, 1, 2, 3, 4, 5], []), ([6, 5, 5, 0, 1, 2, 3, 4, 5], [5, 6])])
def rewrite_clone.B11 : List Nat := [0, 1, 0, 4, 12, 31, 63, 127]
theorem rewrite_clone.tab11 : rtab .any (opsOf Try.f47 11) = rewrite_clone.T11 := by kernel_rfl
theorem rewrite_clone.bits11 : waitsOk rewrite_clone.T11.2 rewrite_clone.B11 = true := by kernel_rfl
theorem rewrite_clone.calls (k : Nat) (A0_0 : Option Addr) (c0_0 : Nat) (l0_0 : List (S70)) (A0_1 : Option Addr) (c0_1 : Nat) (l0_1 : List (List (S54))) (a0_2 : Int) (A0_3 : Option Addr) (c0_3 : Nat) (l0_3 : List ByteArray) (r1 : List (S70)) (r2 : List (List (S54))) (r3 : Int) (r4 : List ByteArray) (w : World) (hr0_0 : Kd.C k70 w A0_0 l0_0.length l0_0) (hc0_0 : l0_0.length ≤ c0_0) (hr0_1 : Kd.C (Kd.slice 54 k54) w A0_1 l0_1.length l0_1) (hc0_1 : l0_1.length ≤ c0_1) (hr0_3 : Kd.C Kd.string w A0_3 l0_3.length l0_3) (hc0_3 : l0_3.length ≤ c0_3) (h : rewrite_clone.f k l0_0 l0_1 a0_2 l0_3 = some (r1, r2, r3, r4)) :
 Calls Try.prog 47 #[.agg #[.slice A0_0 l0_0.length c0_0, .slice A0_1 l0_1.length c0_1, .int .i64 a0_2, .slice A0_3 l0_3.length c0_3]] w fun e w' => ∃ v0_ v1_ v3_ : Value, e = .returned (.agg #[v0_, v1_, .int .i64 r3, v3_]) ∧ Kd.S k70 70 w' w.heap.size (fun _ => True) v0_ r1 ∧ Kd.S (Kd.slice 54 k54) 23 w' w.heap.size (fun _ => True) v1_ r2 ∧ Kd.R Kd.string 9 w' w.heap.size (fun _ => True) v3_ r4 ∧ Below w.heap.size w w' := by
 have hu28 := Try.underlying28
 have hu70 := Try.underlying70
 have HR0_0 := zM hr0_0
 have HC0_0 := zM hc0_0
 clear hr0_0 hc0_0
 have HR0_1 := zM hr0_1
 have HC0_1 := zM hc0_1
 clear hr0_1 hc0_1
 have HR0_3 := zM hr0_3
 have HC0_3 := zM hc0_3
 clear hr0_3 hc0_3
 have HB := zM (Below.refl w.heap.size w)
 have H : ((slices_Clone_string_string.f l0_3).bind fun t103 => (rewrite_clone.l0 k l0_0 (l0_0.length : Int) 0 l0_0 l0_1 a0_2 l0_3 ([] : List (S70)) a0_2 t103)) = some (r1, r2, r3, r4) := h
 clear h
 replace H := zB H
 obtain ⟨t103, A20, H⟩ := H
 try dsimp only at H
 have A2 := zM A20
 clear A20
 have H' := zM H
 clear H
 go_enter Try.func47, Try.ntmps47
 try go_wp2_with (first | ((with_reducible refine gate_dst (N := 1) rfl ?_); refine box_event ?hg (N := 1) ?hd (cs := #[.slice A0_0 l0_0.length c0_0, .slice A0_1 l0_1.length c0_1, .int .i64 a0_2, .slice A0_3 l0_3.length c0_3]) (t := 28) ?hr ?_; (case hd => rfl); (case hg => rfl); (case hr => first | (go_simp; done) | (go_simp; rfl)); intro gb101 hg w3 hbox hb; have BK101 := zM (hbox); have GW101 := zM (zh hg : w.heap.size ≤ gb101); have GE101 := zM (zh hg : w.heap.size ≤ gb101); replace HB := zM (below_step zb hb); clear hb hbox hg) | ((with_reducible refine gate_dst (N := 2) rfl ?_); refine box_event ?hg (N := 2) ?hd (cs := #[.slice none 0 0, .slice none 0 0, .int .i64 0, .slice none 0 0]) (t := 28) ?hr ?_; (case hd => rfl); (case hg => rfl); (case hr => first | (go_simp; done) | (go_simp; rfl)); intro gb102 hg w4 hbox hb; have BK102 := zM (hbox); have GW102 := zM (zh hg : w.heap.size ≤ gb102); have GE102 := zM (zh hg : w.heap.size ≤ gb102); replace HB := zM (below_step zb hb); have NB101_102 := zM ((by rw [hg]; exact Nat.ne_of_lt (blk_lt (zk BK101.out)) : gb101 ≠ gb102)); have NB102_101 := zM ((by rw [hg]; exact Nat.ne_of_gt (blk_lt (zk BK101.out)) : gb102 ≠ gb101)); replace BK101 := zM (blk_below (zk BK101.out) hb); clear hb hbox hg))
 have n0_ := zM (blk_drew BK101.out)
 have n1_ := zM (blk_drew BK102.out)
 have n2_ := zM (zD HB.out)
 clear BK101
 clear BK102
 clear HB
 have BK101 := n0_
 have BK102 := n1_
 have HB := n2_
 clear n0_ n1_ n2_
 refine start_ (n := 8) (S := fun w' => w'.cell? ⟨gb101, 0, none⟩ = some (.slice A0_0 l0_0.length c0_0) ∧ w'.cell? ⟨gb101, 1, none⟩ = some (.slice A0_1 l0_1.length c0_1) ∧ w'.cell? ⟨gb101, 2, none⟩ = some (.int .i64 a0_2) ∧ w'.cell? ⟨gb101, 3, none⟩ = some (.slice A0_3 l0_3.length c0_3)) (ds := []) #[false, false, false, false, false, false, false, false] (by kernel_rfl) rfl rfl ⟨(zX BK101.out 0).trans rfl, (zX BK101.out 1).trans rfl, (zX BK101.out 2).trans rfl, (zX BK101.out 3).trans rfl⟩ (fun hHeld => ?_); refine with_tabW rewrite_clone.tab1 rewrite_clone.bits1 (fun HT_ HW_ => ?_)
 generalize w4.drew = w5 at BK101 BK102 HB hHeld ⊢
 refine pure_ (i := 0) (N := some 8) (v := ?_) (a' := ?_) #[true, false, false, false, false, false, false, false] rfl rfl (any_of HT_.out (by kernel_rfl)) (fun _ _ _ h => h) (Or.inl ⟨by rfl, ?_⟩) ?_ ?_
 rotate_left
 ·
  intro w'
  go_simp
  with_reducible rfl
 rotate_left
 ·
  simp only [Act.put, zp1, zp2, zp3, i64_w, i32_w]
  rfl
 refine pure_ (i := 2) (N := some 10) (v := ?_) (a' := ?_) #[true, false, true, false, false, false, false, false] rfl rfl (any_of HT_.out (by kernel_rfl)) (fun _ _ _ h => h) (Or.inl ⟨by rfl, ?_⟩) ?_ ?_
 rotate_left
 ·
  intro w'
  go_simp
  with_reducible rfl
 rotate_left
 ·
  simp only [Act.put, zp1, zp2, zp3, i64_w, i32_w]
  rfl
 refine take_ (i := 1) (N := some 9) (v := ?_) (a' := ?_) #[true, true, true, false, false, false, false, false] rfl rfl (take_ofW HT_.out HW_.out (by kernel_rfl)) (fun _ _ _ h => h) (Or.inl ⟨by rfl, ?_⟩) hHeld ?_ ?_
 rotate_left
 ·
  rintro w' ⟨s0, s1, s2, s3⟩
  go_simp
  with_reducible rfl
 rotate_left
 ·
  simp only [Act.put, zp1, zp2, zp3, i64_w, i32_w]
  rfl
 refine take_ (i := 3) (N := some 11) (v := ?_) (a' := ?_) #[true, true, true, true, false, false, false, false] rfl rfl (take_ofW HT_.out HW_.out (by kernel_rfl)) (fun _ _ _ h => h) (Or.inl ⟨by rfl, ?_⟩) hHeld ?_ ?_
 rotate_left
 ·
  rintro w' ⟨s0, s1, s2, s3⟩
  go_simp
  with_reducible rfl
 rotate_left
 ·
  simp only [Act.put, zp1, zp2, zp3, i64_w, i32_w]
  rfl
 refine join_ (σ := Value × Nat) 1 #[true, true, true, true, true, true, true, false] (fun s_ => [(12, s_.1), (3, .pointer (some ⟨s_.2, 0, none⟩)), (13, .agg #[.slice none 0 0, .slice none 0 0, .int .i64 a0_2, s_.1])]) (fun s_ w' => (w'.cell? ⟨gb101, 0, none⟩ = some (.slice A0_0 l0_0.length c0_0) ∧ w'.cell? ⟨gb101, 1, none⟩ = some (.slice A0_1 l0_1.length c0_1) ∧ w'.cell? ⟨gb101, 2, none⟩ = some (.int .i64 a0_2) ∧ w'.cell? ⟨gb101, 3, none⟩ = some (.slice A0_3 l0_3.length c0_3)) ∧ (Kd.R Kd.string 9 w' w.heap.size (fun _ => True) s_.1 t103) ∧ (w'.heap[gb101]? = some (.cells #[.slice A0_0 l0_0.length c0_0, .slice A0_1 l0_1.length c0_1, .int .i64 a0_2, .slice A0_3 l0_3.length c0_3] 28 (0, 0))) ∧ (w'.heap[gb102]? = some (.cells #[.slice none 0 0, .slice none 0 0, .int .i64 0, .slice none 0 0] 28 (0, 0))) ∧ (w'.heap[s_.2]? = some (.cells #[.slice none 0 0, .slice none 0 0, .int .i64 0, .slice none 0 0] 28 (0, 0))) ∧ (w.heap.size ≤ s_.2) ∧ (w.heap.size ≤ s_.2) ∧ (gb101 ≠ s_.2) ∧ (s_.2 ≠ gb101) ∧ (gb102 ≠ s_.2) ∧ (s_.2 ≠ gb102) ∧ (Below w.heap.size w w')) ?_ ?_
 rotate_left
 ·
  intro hCont
  refine two_ (i := 4) (j := 6) (Ni := some 12) (Nj := some 3) #[true, true, true, true, true, false, false, false] #[true, true, true, true, false, false, true, false] rfl rfl rfl rfl (two_of HT_.out (by kernel_rfl)) (by decide) (by decide) (fun K hK => ?_) (fun K hK => ?_)
  ·
   skip
   refine goes_ Try.func70 (by kernel_rfl) rfl #[.slice A0_3 l0_3.length c0_3] (by rfl) rfl rfl zl ?_
   with_reducible refine (slices_Clone_string_string.calls _ _ l0_3 t103 _ ?side1 ?side2 A2.out).mono ?_
   (case side1 => exact Kd.C_below HR0_3.out zb)
   (case side2 => exact HC0_3.out)
   rintro e w6 ⟨v104, rfl, ho0, hb⟩
   refine ⟨_, rfl, ?_⟩
   have n0_ := zM (Kd.R_lower ho0 (below_size zb))
   have n1_ := zM (blk_below (zk BK101.out) hb)
   have n2_ := zM (blk_below (zk BK102.out) hb)
   have n3_ := zM (below_step zb hb)
   clear BK101
   clear BK102
   clear HB
   have HO105 := n0_
   have BK101 := n1_
   have BK102 := n2_
   have HB := n3_
   clear n0_ n1_ n2_ n3_
   (try clear hb)
   (try clear hb2)
   (try clear hk)
   (try clear hi)
   (try clear ho0)
   obtain ⟨Ao7, co7, eo7⟩ := Kd.R_slice HO105.out
   (first | subst eo7 | (injection eo7 with f1_ f2_ f3_; have f4_ := f1_.symm; have f5_ := f3_.symm; clear f1_ f2_ f3_; subst f4_; subst f5_))
   refine hK.out _ _ ⟨(zX BK101.out 0).trans rfl, (zX BK101.out 1).trans rfl, (zX BK101.out 2).trans rfl, (zX BK101.out 3).trans rfl⟩ (fun hHeld => ?_)
   clear hK K
   refine norm_ (a' := ?_) ?_ ?_
   rotate_left
   ·
    show Act.put _ (some 12) _ = _
    simp only [Act.put, zp1, zp2, zp3, i64_w, i32_w]
    rfl
   refine pure_ (i := 5) (N := some 13) (v := ?_) (a' := ?_) #[true, true, true, true, true, true, false, false] rfl rfl (any_of HT_.out (by kernel_rfl)) (fun _ _ _ h => h) (Or.inl ⟨by rfl, ?_⟩) ?_ ?_
   rotate_left
   ·
    intro w'
    go_simp
    with_reducible rfl
   rotate_left
   ·
    simp only [Act.put, zp1, zp2, zp3, i64_w, i32_w]
    rfl
   refine one_ (i := 6) (N := some 3) #[true, true, true, true, true, true, true, false] rfl rfl (one_of HT_.out (by kernel_rfl)) (by decide) (fun K hK => ?_)
   refine box_step ?hg (N := 3) ?hd (cs := #[.slice none 0 0, .slice none 0 0, .int .i64 0, .slice none 0 0]) (t := 28) ?hr ?_; (case hd => rfl); (case hg => rfl); (case hr => first | (go_simp; done) | (go_simp; rfl))
   intro gb106 hg w8 hbox hb
   have n0_ := zM (Kd.R_below (zr HO105.out) hb)
   have n1_ := zM (blk_below (zk BK101.out) hb)
   have n2_ := zM (blk_below (zk BK102.out) hb)
   have n3_ := zM (below_step zb hb)
   have n4_ := zM (hbox)
   have n5_ := zM (zh hg : w.heap.size ≤ gb106)
   have n6_ := zM (zh hg : w.heap.size ≤ gb106)
   have n7_ := zM ((by rw [hg]; exact Nat.ne_of_lt (blk_lt (zk BK101.out)) : gb101 ≠ gb106))
   have n8_ := zM ((by rw [hg]; exact Nat.ne_of_gt (blk_lt (zk BK101.out)) : gb106 ≠ gb101))
   have n9_ := zM ((by rw [hg]; exact Nat.ne_of_lt (blk_lt (zk BK102.out)) : gb102 ≠ gb106))
   have n10_ := zM ((by rw [hg]; exact Nat.ne_of_gt (blk_lt (zk BK102.out)) : gb106 ≠ gb102))
   clear HO105
   clear BK101
   clear BK102
   clear HB
   have HO105 := n0_
   have BK101 := n1_
   have BK102 := n2_
   have HB := n3_
   have BK106 := n4_
   have GW106 := n5_
   have GE106 := n6_
   have NB101_106 := n7_
   have NB106_101 := n8_
   have NB102_106 := n9_
   have NB106_102 := n10_
   clear n0_ n1_ n2_ n3_ n4_ n5_ n6_ n7_ n8_ n9_ n10_
   clear hb hbox hg
   refine hK.out _ _ ⟨(zX BK101.out 0).trans rfl, (zX BK101.out 1).trans rfl, (zX BK101.out 2).trans rfl, (zX BK101.out 3).trans rfl⟩ (fun hHeld => ?_)
   clear hK K
   refine norm_ (a' := ?_) ?_ ?_
   rotate_left
   ·
    show Act.put _ (some 3) _ = _
    simp only [Act.put, zp1, zp2, zp3, i64_w, i32_w]
    rfl
   exact norm_ (by simp only [putAll, Act.put, List.setIfInBounds_toArray, List.set_cons_zero, List.set_cons_succ]) (hCont (.slice Ao7 t103.length co7, gb106) _ ⟨hHeld, (zr HO105.out), (zk BK101.out), (zk BK102.out), (zk BK106.out), GW106.out, GE106.out, NB101_106.out, NB106_101.out, NB102_106.out, NB106_102.out, zb⟩)
  ·
   skip
   refine box_step ?hg (N := 3) ?hd (cs := #[.slice none 0 0, .slice none 0 0, .int .i64 0, .slice none 0 0]) (t := 28) ?hr ?_; (case hd => rfl); (case hg => rfl); (case hr => first | (go_simp; done) | (go_simp; rfl))
   intro gb106 hg w6 hbox hb
   have n0_ := zM (blk_below (zk BK101.out) hb)
   have n1_ := zM (blk_below (zk BK102.out) hb)
   have n2_ := zM (below_step zb hb)
   have n3_ := zM (hbox)
   have n4_ := zM (zh hg : w.heap.size ≤ gb106)
   have n5_ := zM (zh hg : w.heap.size ≤ gb106)
   have n6_ := zM ((by rw [hg]; exact Nat.ne_of_lt (blk_lt (zk BK101.out)) : gb101 ≠ gb106))
   have n7_ := zM ((by rw [hg]; exact Nat.ne_of_gt (blk_lt (zk BK101.out)) : gb106 ≠ gb101))
   have n8_ := zM ((by rw [hg]; exact Nat.ne_of_lt (blk_lt (zk BK102.out)) : gb102 ≠ gb106))
   have n9_ := zM ((by rw [hg]; exact Nat.ne_of_gt (blk_lt (zk BK102.out)) : gb106 ≠ gb102))
   clear BK101
   clear BK102
   clear HB
   have BK101 := n0_
   have BK102 := n1_
   have HB := n2_
   have BK106 := n3_
   have GW106 := n4_
   have GE106 := n5_
   have NB101_106 := n6_
   have NB106_101 := n7_
   have NB102_106 := n8_
   have NB106_102 := n9_
   clear n0_ n1_ n2_ n3_ n4_ n5_ n6_ n7_ n8_ n9_
   clear hb hbox hg
   refine hK.out _ _ ⟨(zX BK101.out 0).trans rfl, (zX BK101.out 1).trans rfl, (zX BK101.out 2).trans rfl, (zX BK101.out 3).trans rfl⟩ (fun hHeld => ?_)
   clear hK K
   refine norm_ (a' := ?_) ?_ ?_
   rotate_left
   ·
    show Act.put _ (some 3) _ = _
    simp only [Act.put, zp1, zp2, zp3, i64_w, i32_w]
    rfl
   refine one_ (i := 4) (N := some 12) #[true, true, true, true, true, false, true, false] rfl rfl (one_of HT_.out (by kernel_rfl)) (by decide) (fun K hK => ?_)
   refine goes_ Try.func70 (by kernel_rfl) rfl #[.slice A0_3 l0_3.length c0_3] (by rfl) rfl rfl zl ?_
   with_reducible refine (slices_Clone_string_string.calls _ _ l0_3 t103 _ ?side1 ?side2 A2.out).mono ?_
   (case side1 => exact Kd.C_below HR0_3.out zb)
   (case side2 => exact HC0_3.out)
   rintro e w7 ⟨v104, rfl, ho0, hb⟩
   refine ⟨_, rfl, ?_⟩
   have n0_ := zM (Kd.R_lower ho0 (below_size zb))
   have n1_ := zM (blk_below (zk BK101.out) hb)
   have n2_ := zM (blk_below (zk BK102.out) hb)
   have n3_ := zM (blk_below (zk BK106.out) hb)
   have n4_ := zM (below_step zb hb)
   clear BK101
   clear BK102
   clear BK106
   clear HB
   have HO105 := n0_
   have BK101 := n1_
   have BK102 := n2_
   have BK106 := n3_
   have HB := n4_
   clear n0_ n1_ n2_ n3_ n4_
   (try clear hb)
   (try clear hb2)
   (try clear hk)
   (try clear hi)
   (try clear ho0)
   obtain ⟨Ao8, co8, eo8⟩ := Kd.R_slice HO105.out
   (first | subst eo8 | (injection eo8 with f1_ f2_ f3_; have f4_ := f1_.symm; have f5_ := f3_.symm; clear f1_ f2_ f3_; subst f4_; subst f5_))
   refine hK.out _ _ ⟨(zX BK101.out 0).trans rfl, (zX BK101.out 1).trans rfl, (zX BK101.out 2).trans rfl, (zX BK101.out 3).trans rfl⟩ (fun hHeld => ?_)
   clear hK K
   refine norm_ (a' := ?_) ?_ ?_
   rotate_left
   ·
    show Act.put _ (some 12) _ = _
    simp only [Act.put, zp1, zp2, zp3, i64_w, i32_w]
    rfl
   refine pure_ (i := 5) (N := some 13) (v := ?_) (a' := ?_) #[true, true, true, true, true, true, true, false] rfl rfl (any_of HT_.out (by kernel_rfl)) (fun _ _ _ h => h) (Or.inl ⟨by rfl, ?_⟩) ?_ ?_
   rotate_left
   ·
    intro w'
    go_simp
    with_reducible rfl
   rotate_left
   ·
    simp only [Act.put, zp1, zp2, zp3, i64_w, i32_w]
    rfl
   exact norm_ (by simp only [putAll, Act.put, List.setIfInBounds_toArray, List.set_cons_zero, List.set_cons_succ]) (hCont (.slice Ao8 t103.length co8, gb106) _ ⟨hHeld, (zr HO105.out), (zk BK101.out), (zk BK102.out), (zk BK106.out), GW106.out, GE106.out, NB101_106.out, NB106_101.out, NB102_106.out, NB106_102.out, zb⟩)
 rintro ⟨v104, gb106⟩ w9 ⟨hS_, h0_, h1_, h2_, h3_, h4_, h5_, h6_, h7_, h8_, h9_, h10_⟩
 have n0_ : Aside0 (Kd.R Kd.string 9 w9 w.heap.size (fun _ => True) v104 t103) := ⟨h0_⟩
 have n1_ : Aside0 (w9.heap[gb101]? = some (.cells #[.slice A0_0 l0_0.length c0_0, .slice A0_1 l0_1.length c0_1, .int .i64 a0_2, .slice A0_3 l0_3.length c0_3] 28 (0, 0))) := ⟨h1_⟩
 have n2_ : Aside0 (w9.heap[gb102]? = some (.cells #[.slice none 0 0, .slice none 0 0, .int .i64 0, .slice none 0 0] 28 (0, 0))) := ⟨h2_⟩
 have n3_ : Aside0 (w9.heap[gb106]? = some (.cells #[.slice none 0 0, .slice none 0 0, .int .i64 0, .slice none 0 0] 28 (0, 0))) := ⟨h3_⟩
 have n4_ : Aside0 (w.heap.size ≤ gb106) := ⟨h4_⟩
 have n5_ : Aside0 (w.heap.size ≤ gb106) := ⟨h5_⟩
 have n6_ : Aside0 (gb101 ≠ gb106) := ⟨h6_⟩
 have n7_ : Aside0 (gb106 ≠ gb101) := ⟨h7_⟩
 have n8_ : Aside0 (gb102 ≠ gb106) := ⟨h8_⟩
 have n9_ : Aside0 (gb106 ≠ gb102) := ⟨h9_⟩
 have n10_ : Aside0 (Below w.heap.size w w9) := ⟨h10_⟩
 clear BK101
 clear BK102
 clear HB
 clear h0_ h1_ h2_ h3_ h4_ h5_ h6_ h7_ h8_ h9_ h10_
 have HO105 := n0_
 have BK101 := n1_
 have BK102 := n2_
 have BK106 := n3_
 have GW106 := n4_
 have GE106 := n5_
 have NB101_106 := n6_
 have NB106_101 := n7_
 have NB102_106 := n8_
 have NB106_102 := n9_
 have HB := n10_
 clear n0_ n1_ n2_ n3_ n4_ n5_ n6_ n7_ n8_ n9_ n10_
 have hHeld : w9.cell? ⟨gb101, 0, none⟩ = some (.slice A0_0 l0_0.length c0_0) ∧ w9.cell? ⟨gb101, 1, none⟩ = some (.slice A0_1 l0_1.length c0_1) ∧ w9.cell? ⟨gb101, 2, none⟩ = some (.int .i64 a0_2) ∧ w9.cell? ⟨gb101, 3, none⟩ = some (.slice A0_3 l0_3.length c0_3) := hS_
 obtain ⟨Ao10, co10, eo10⟩ := Kd.R_slice HO105.out
 (first | subst eo10 | (injection eo10 with f1_ f2_ f3_; have f4_ := f1_.symm; have f5_ := f3_.symm; clear f1_ f2_ f3_; subst f4_; subst f5_))
 refine norm_ (a' := ?_) ?_ ?_
 rotate_left
 ·
  simp only [putAll, Act.put, List.setIfInBounds_toArray, List.set_cons_zero, List.set_cons_succ]
  rfl
 refine one_ (i := 7) (N := none) #[true, true, true, true, true, true, true, true] rfl rfl (one_of HT_.out (by kernel_rfl)) (by decide) (fun K hK => ?_)
 have hs11 : w9.cell? ⟨gb106, 0, none⟩ = some (.slice none 0 0) := (zX BK106.out 0).trans rfl
 have hfs11 := zY BK106.out 0
 have hns11_0 := NB101_106.out
 have hns11_1 := NB102_106.out
 have hms11_0 := NB106_101.out
 have hms11_1 := NB106_102.out
 have hs12 : w9.cell? ⟨gb106, 1, none⟩ = some (.slice none 0 0) := (zX BK106.out 1).trans rfl
 have hfs12 := zY BK106.out 1
 have hns12_0 := NB101_106.out
 have hns12_1 := NB102_106.out
 have hms12_0 := NB106_101.out
 have hms12_1 := NB106_102.out
 have hs13 : w9.cell? ⟨gb106, 2, none⟩ = some (.int .i64 0) := (zX BK106.out 2).trans rfl
 have hfs13 := zY BK106.out 2
 have hns13_0 := NB101_106.out
 have hns13_1 := NB102_106.out
 have hms13_0 := NB106_101.out
 have hms13_1 := NB106_102.out
 have hs14 : w9.cell? ⟨gb106, 3, none⟩ = some (.slice none 0 0) := (zX BK106.out 3).trans rfl
 have hfs14 := zY BK106.out 3
 have hns14_0 := NB101_106.out
 have hns14_1 := NB102_106.out
 have hms14_0 := NB106_101.out
 have hms14_1 := NB106_102.out
 refine skip_ (w1 := ?_) (by rfl) rfl ?_ ?_
 rotate_left
 ·
  go_simp
  rfl
 refine hK.out _ _ ⟨((cell_far (p := ⟨gb106, _, none⟩) NB101_106.out _).trans (((cell_far (p := ⟨gb106, _, none⟩) NB101_106.out _).trans (((cell_far (p := ⟨gb106, _, none⟩) NB101_106.out _).trans (((cell_far (p := ⟨gb106, _, none⟩) NB101_106.out _).trans (hHeld.1)))))))), ((cell_far (p := ⟨gb106, _, none⟩) NB101_106.out _).trans (((cell_far (p := ⟨gb106, _, none⟩) NB101_106.out _).trans (((cell_far (p := ⟨gb106, _, none⟩) NB101_106.out _).trans (((cell_far (p := ⟨gb106, _, none⟩) NB101_106.out _).trans (hHeld.2.1)))))))), ((cell_far (p := ⟨gb106, _, none⟩) NB101_106.out _).trans (((cell_far (p := ⟨gb106, _, none⟩) NB101_106.out _).trans (((cell_far (p := ⟨gb106, _, none⟩) NB101_106.out _).trans (((cell_far (p := ⟨gb106, _, none⟩) NB101_106.out _).trans (hHeld.2.2.1)))))))), ((cell_far (p := ⟨gb106, _, none⟩) NB101_106.out _).trans (((cell_far (p := ⟨gb106, _, none⟩) NB101_106.out _).trans (((cell_far (p := ⟨gb106, _, none⟩) NB101_106.out _).trans (((cell_far (p := ⟨gb106, _, none⟩) NB101_106.out _).trans (hHeld.2.2.2))))))))⟩ (fun hHeld => ?_)
 clear hK K
 refine done_ (done_of HT_.out (by kernel_rfl)) ?_
 have hnb15 := NB101_102.out
 have hnc15 := NB102_101.out
 have hnb16 := NB101_106.out
 have hnc16 := NB106_101.out
 have hcz17_0 : w9.cell? ⟨gb101, 0, none⟩ = some (.slice A0_0 l0_0.length c0_0) := (zX BK101.out 0).trans rfl
 have hcz17_1 : w9.cell? ⟨gb101, 1, none⟩ = some (.slice A0_1 l0_1.length c0_1) := (zX BK101.out 1).trans rfl
 have hcz17_2 : w9.cell? ⟨gb101, 2, none⟩ = some (.int .i64 a0_2) := (zX BK101.out 2).trans rfl
 have hcz17_3 : w9.cell? ⟨gb101, 3, none⟩ = some (.slice A0_3 l0_3.length c0_3) := (zX BK101.out 3).trans rfl
 have hfz17_0 := zY BK101.out 0
 have hfz17_1 := zY BK101.out 1
 have hfz17_2 := zY BK101.out 2
 have hfz17_3 := zY BK101.out 3
 try go_wp2
 go_loopg [17] k (fun kq v17 w' => ∃ (x17_1 : Int) (x107000_1 : List (S70)) (u107000 : Value), v17 = .int .i64 x17_1 ∧ Aside0 (rewrite_clone.l0 kq l0_0 (l0_0.length : Int) x17_1 l0_0 l0_1 a0_2 l0_3 x107000_1 a0_2 t103 = some (r1, r2, r3, r4)) ∧ Aside0 (kq ≤ k) ∧ Aside0 (Kd.S k70 70 w' w.heap.size (fun _ => True) u107000 x107000_1) ∧ Aside0 (Kd.R Kd.string 9 w' w.heap.size (fun _ => True) (.slice Ao10 t103.length co10) t103) ∧ Aside0 (w'.heap[gb101]? = some (.cells #[(.slice A0_0 l0_0.length c0_0), (.slice A0_1 l0_1.length c0_1), .int .i64 a0_2, (.slice A0_3 l0_3.length c0_3)] 28 (0, 0))) ∧ Aside0 (w'.heap[gb102]? = some (.cells #[(.slice none 0 0), (.slice none 0 0), .int .i64 0, (.slice none 0 0)] 28 (0, 0))) ∧ Aside0 (w'.heap[gb106]? = some (.cells #[u107000, (.slice none 0 0), .int .i64 a0_2, (.slice Ao10 t103.length co10)] 28 (0, 0))) ∧ Aside0 (Below w.heap.size w w'))
 case atStart => exact ⟨(0), (([] : List (S70))), (.slice none 0 0), zy, H', ⟨Nat.le_refl _⟩, ⟨by first | exact Kd.S_nil _ _ _ _ _ | exact Kd.N_nil _ _ _ _ _ | exact Kd.V_nil _ _ _ _ _ | exact Kd.Q_nil _ _ _ _ _ | exact Kd.R_nil _ _ _ _ _⟩, ⟨by (with_reducible repeat (first | apply Kd.R_alloc | apply Kd.R_drewN | apply Kd.R_drew)); exact Kd.R_mono (Kd.R_far (p := ⟨gb106, 3, none⟩) (Kd.R_far (p := ⟨gb106, 2, none⟩) (Kd.R_far (p := ⟨gb106, 1, none⟩) (Kd.R_far (p := ⟨gb106, 0, none⟩) (Kd.R_types HO105.out BK106.out (by decide)) (fun _ hk => hk.2) (.slice none 0 0)) (fun _ hk => hk.2) (.slice none 0 0)) (fun _ hk => hk.2) (.int .i64 a0_2)) (fun _ hk => hk.2) (.slice Ao10 t103.length co10)) (fun _ hk => trivial)⟩, ⟨by refine zk ?_; refine blk_far ?_ NB101_106.out _; refine zk ?_; refine blk_far ?_ NB101_106.out _; refine zk ?_; refine blk_far ?_ NB101_106.out _; refine zk ?_; refine blk_far ?_ NB101_106.out _; refine zk ?_; exact BK101.out⟩, ⟨by refine zk ?_; refine blk_far ?_ NB102_106.out _; refine zk ?_; refine blk_far ?_ NB102_106.out _; refine zk ?_; refine blk_far ?_ NB102_106.out _; refine zk ?_; refine blk_far ?_ NB102_106.out _; refine zk ?_; exact BK102.out⟩, ⟨by refine zk ?_; refine blk_put (cs := #[.slice none 0 0, .slice none 0 0, .int .i64 a0_2, .slice none 0 0]) ?_ 3 _ rfl; refine zk ?_; refine blk_put (cs := #[.slice none 0 0, .slice none 0 0, .int .i64 0, .slice none 0 0]) ?_ 2 _ rfl; refine zk ?_; refine blk_put (cs := #[.slice none 0 0, .slice none 0 0, .int .i64 0, .slice none 0 0]) ?_ 1 _ rfl; refine zk ?_; refine blk_put (cs := #[.slice none 0 0, .slice none 0 0, .int .i64 0, .slice none 0 0]) ?_ 0 _ rfl; refine zk ?_; exact BK106.out⟩, ⟨zb⟩⟩
 case round =>
  clear H'
  try clear c1
  try clear p2
  try clear c4
  try clear c7
  try clear c15
  try clear c16
  try clear hcz17_0
  try clear hcz17_1
  try clear hcz17_2
  try clear hcz17_3
  try clear hfz17_0
  try clear hfz17_1
  try clear hfz17_2
  try clear hfz17_3
  obtain ⟨x17_1, x107000_1, u107000, rfl, HA, HK1, HO_107000, HO_107003, BK101, BK102, BK106, HB⟩ := hrel
  cases gk with
  | zero => exact absurd HA.out (by simp [rewrite_clone.l0])
  | succ k1 =>
   have H := HA.out
   clear HA
   simp only [rewrite_clone.l0] at H
   by_cases c18 : x17_1 < (l0_0.length : Int)
   ·
    rw [if_pos c18] at H
    have c18b0 : decide (x17_1 < (l0_0.length : Int)) = true := zQ c18
    clear c18
    by_cases c19 : 0 ≤ x17_1
    ·
     rw [if_pos c19] at H
     have c19b0 : decide (0 ≤ x17_1) = true := zQ c19
     clear c19
     by_cases c20 : x17_1 < (l0_0.length : Int)
     ·
      rw [if_pos c20] at H
      have c20b0 : decide (x17_1 < (l0_0.length : Int)) = true := zQ c20
      clear c20
      replace H := zB H
      obtain ⟨t109, A210, H⟩ := H
      try dsimp only at H
      have A21 := zM A210
      clear A210
      by_cases c22 : x107000_1.length < 2513169434916
      ·
       rw [if_pos c22] at H
       have LMc22 := zM c22
       clear c22
       obtain ⟨y112, hy112⟩ : ∃ y_ : List (S70), y_ = (x107000_1 ++ [(⟨(rd_T70 l0_0 x17_1).f0, (⟨(rd_T70 l0_0 x17_1).f1.f0, (rd_T70 l0_0 x17_1).f1.f1⟩ : S54), t109⟩ : S70)]) := ⟨_, rfl⟩
       replace H : (rewrite_clone.l0 k1 l0_0 (l0_0.length : Int) (wrap64 (x17_1 + 1)) l0_0 l0_1 a0_2 l0_3 y112 a0_2 t103) = some (r1, r2, r3, r4) := by first | (rw [hy112]; with_reducible exact H) | (have H2_ := (Option.bind_some _ _).symm.trans H; rw [hy112]; with_reducible exact H2_) | (have H2_ := (Option.bind_some _ _).symm.trans H; with_reducible exact H2_) | with_reducible exact H | (rw [hy112]; exact H) | exact H
       have Ny112 := zM hy112
       clear hy112
       have H' := zM H
       clear H
       have p107 : 0 ≤ (x17_1 : Int) := zT zv
       have q107 : x17_1 < (l0_0.length : Int) := zT zv
       obtain ⟨ad107, A107_3, c107_3, e107, hx107_0, hx107_1, hx107_2, hx107_3, hl107_3, hi107_3⟩ := at_T70 HR0_0.out x17_1 p107 q107
       cases e107
       replace hx107_0 := (HB.out.cell (World.block_lt_of_cell? w _ hx107_0)).trans hx107_0
       replace hx107_1 := (HB.out.cell (World.block_lt_of_cell? w _ hx107_1)).trans hx107_1
       replace hx107_2 := (HB.out.cell (World.block_lt_of_cell? w _ hx107_2)).trans hx107_2
       replace hx107_3 := (HB.out.cell (World.block_lt_of_cell? w _ hx107_3)).trans hx107_3
       have HR107_3 := zM hi107_3
       have HC107_3 := zM hl107_3
       clear hi107_3 hl107_3
       replace p107 := eq_true p107
       replace q107 := eq_true q107
       go_wp2_with (first | ((with_reducible refine gate_dst (N := 5) rfl ?_); refine box_event ?hg (N := 5) ?hd (cs := #[.int .i64 0, .string (⟨#[]⟩ : ByteArray), .int .i64 0, .slice none 0 0]) (t := 70) ?hr ?_; (case hd => rfl); (case hg => rfl); (case hr => first | (go_simp; done) | (go_simp; rfl)); intro gb108 hg w23 hbox hb; replace HO_107000 := zM (Kd.S_below (Kd.S_elderB (Kd.S_below HO_107000.out zg) gb108 (Nat.le_of_eq hg.symm)) hb); replace HO_107003 := zM (Kd.R_below (zr HO_107003.out) hb); have BK108 := zM (hbox); have GW108 := zM (zh hg : w.heap.size ≤ gb108); have GE108 := zM (zh hg : w.heap.size ≤ gb108); replace HB := zM (below_step zb hb); have NB101_108 := zM ((by rw [hg]; exact Nat.ne_of_lt (blk_lt (zk BK101.out)) : gb101 ≠ gb108)); have NB108_101 := zM ((by rw [hg]; exact Nat.ne_of_gt (blk_lt (zk BK101.out)) : gb108 ≠ gb101)); replace BK101 := zM (blk_below (zk BK101.out) hb); have NB102_108 := zM ((by rw [hg]; exact Nat.ne_of_lt (blk_lt (zk BK102.out)) : gb102 ≠ gb108)); have NB108_102 := zM ((by rw [hg]; exact Nat.ne_of_gt (blk_lt (zk BK102.out)) : gb108 ≠ gb102)); replace BK102 := zM (blk_below (zk BK102.out) hb); have NB106_108 := zM ((by rw [hg]; exact Nat.ne_of_lt (blk_lt (zk BK106.out)) : gb106 ≠ gb108)); have NB108_106 := zM ((by rw [hg]; exact Nat.ne_of_gt (blk_lt (zk BK106.out)) : gb108 ≠ gb106)); replace BK106 := zM (blk_below (zk BK106.out) hb); clear hb hbox hg; have hnb24 := NB108_101.out; have hnc24 := NB101_108.out; have hnb25 := NB108_102.out; have hnc25 := NB102_108.out; have hnb26 := NB108_106.out; have hnc26 := NB106_108.out; have hcz27_0 : w23.cell? ⟨gb108, 0, none⟩ = some (.int .i64 0) := (zX BK108.out 0).trans rfl; have hcz27_1 : w23.cell? ⟨gb108, 1, none⟩ = some (.string (⟨#[]⟩ : ByteArray)) := (zX BK108.out 1).trans rfl; have hcz27_2 : w23.cell? ⟨gb108, 2, none⟩ = some (.int .i64 0) := (zX BK108.out 2).trans rfl; have hcz27_3 : w23.cell? ⟨gb108, 3, none⟩ = some (.slice none 0 0) := (zX BK108.out 3).trans rfl; have hfz27_0 := zY BK108.out 0; have hfz27_1 := zY BK108.out 1; have hfz27_2 := zY BK108.out 2; have hfz27_3 := zY BK108.out 3) | ((with_reducible refine gate_callee (f := 71) rfl ?_); refine goesL_ (some 23) rfl rfl Try.func71 (by kernel_rfl) rfl #[.slice A107_3 ((rd_T70 l0_0 x17_1).f2).length c107_3] rfl zl ?_; (with_reducible refine (api_Cell_71.calls _ _ ((rd_T70 l0_0 x17_1).f2) t109 _ ?side1 ?side2 A21.out).mono ?_); (case side1 => exact Kd.C_below HR107_3.out zb); (case side2 => exact HC107_3.out); rintro e w28 ⟨v110, rfl, ho0, hb⟩; refine ⟨_, rfl, ?_⟩; replace HO_107000 := zM (Kd.S_elder' (by (with_reducible repeat (first | apply Kd.S_alloc | apply Kd.S_drewN | apply Kd.S_drew)); exact (Kd.S_mono (Kd.S_far (p := ⟨gb108, 3, none⟩) (Kd.S_far (p := ⟨gb108, 2, none⟩) (Kd.S_far (p := ⟨gb108, 1, none⟩) (Kd.S_far (p := ⟨gb108, 0, none⟩) (Kd.S_mono HO_107000.out (fun k_ hk => (⟨hk, hk.2⟩ : _ ∧ k_ ≠ gb108))) (fun _ hk => hk.2) (.int .i64 ((rd_T70 l0_0 x17_1).f0))) (fun _ hk => hk.2) (.string ((rd_T70 l0_0 x17_1).f1.f0))) (fun _ hk => hk.2) (.int .i64 ((rd_T70 l0_0 x17_1).f1.f1))) (fun _ hk => hk.2) (.slice A107_3 ((rd_T70 l0_0 x17_1).f2).length c107_3)) (fun _ h_ => h_.1))) (Kd.R_base ho0) hb); replace HO_107003 := zM (Kd.R_below (by (with_reducible repeat (first | apply Kd.R_alloc | apply Kd.R_drewN | apply Kd.R_drew)); exact (Kd.R_mono (Kd.R_far (p := ⟨gb108, 3, none⟩) (Kd.R_far (p := ⟨gb108, 2, none⟩) (Kd.R_far (p := ⟨gb108, 1, none⟩) (Kd.R_far (p := ⟨gb108, 0, none⟩) (Kd.R_types HO_107003.out BK108.out (by decide)) (fun _ hk => hk.2) (.int .i64 ((rd_T70 l0_0 x17_1).f0))) (fun _ hk => hk.2) (.string ((rd_T70 l0_0 x17_1).f1.f0))) (fun _ hk => hk.2) (.int .i64 ((rd_T70 l0_0 x17_1).f1.f1))) (fun _ hk => hk.2) (.slice A107_3 ((rd_T70 l0_0 x17_1).f2).length c107_3)) (fun _ h_ => h_.1))) hb); have HO111 := zM (Kd.R_lower ho0 (below_size zb)); replace BK101 := zM (blk_below (g := gb101) (o := .cells #[.slice (some ad107) l0_0.length c0_0, .slice A0_1 l0_1.length c0_1, .int .i64 a0_2, .slice A0_3 l0_3.length c0_3] 28 (0, 0)) (by refine zk ?_; refine blk_far ?_ NB101_108.out _; refine zk ?_; refine blk_far ?_ NB101_108.out _; refine zk ?_; refine blk_far ?_ NB101_108.out _; refine zk ?_; refine blk_far ?_ NB101_108.out _; refine zk ?_; exact BK101.out) hb); replace BK102 := zM (blk_below (g := gb102) (o := .cells #[.slice none 0 0, .slice none 0 0, .int .i64 0, .slice none 0 0] 28 (0, 0)) (by refine zk ?_; refine blk_far ?_ NB102_108.out _; refine zk ?_; refine blk_far ?_ NB102_108.out _; refine zk ?_; refine blk_far ?_ NB102_108.out _; refine zk ?_; refine blk_far ?_ NB102_108.out _; refine zk ?_; exact BK102.out) hb); replace BK106 := zM (blk_below (g := gb106) (o := .cells #[u107000, .slice none 0 0, .int .i64 a0_2, .slice Ao10 t103.length co10] 28 (0, 0)) (by refine zk ?_; refine blk_far ?_ NB106_108.out _; refine zk ?_; refine blk_far ?_ NB106_108.out _; refine zk ?_; refine blk_far ?_ NB106_108.out _; refine zk ?_; refine blk_far ?_ NB106_108.out _; refine zk ?_; exact BK106.out) hb); replace BK108 := zM (blk_below (g := gb108) (o := .cells #[.int .i64 ((rd_T70 l0_0 x17_1).f0), .string ((rd_T70 l0_0 x17_1).f1.f0), .int .i64 ((rd_T70 l0_0 x17_1).f1.f1), .slice A107_3 ((rd_T70 l0_0 x17_1).f2).length c107_3] 70 (0, 0)) (by refine zk ?_; refine blk_put (cs := #[.int .i64 ((rd_T70 l0_0 x17_1).f0), .string ((rd_T70 l0_0 x17_1).f1.f0), .int .i64 ((rd_T70 l0_0 x17_1).f1.f1), .slice none 0 0]) ?_ 3 _ rfl; refine zk ?_; refine blk_put (cs := #[.int .i64 ((rd_T70 l0_0 x17_1).f0), .string ((rd_T70 l0_0 x17_1).f1.f0), .int .i64 0, .slice none 0 0]) ?_ 2 _ rfl; refine zk ?_; refine blk_put (cs := #[.int .i64 ((rd_T70 l0_0 x17_1).f0), .string (⟨#[]⟩ : ByteArray), .int .i64 0, .slice none 0 0]) ?_ 1 _ rfl; refine zk ?_; refine blk_put (cs := #[.int .i64 0, .string (⟨#[]⟩ : ByteArray), .int .i64 0, .slice none 0 0]) ?_ 0 _ rfl; refine zk ?_; exact BK108.out) hb); replace HB := zM (below_step zb hb); (try clear hb); (try clear ho0); obtain ⟨Ao29, co29, eo29⟩ := Kd.R_slice HO111.out; subst eo29; have hcz30_0 : w28.cell? ⟨gb108, 0, none⟩ = some (.int .i64 ((rd_T70 l0_0 x17_1).f0)) := (zX BK108.out 0).trans rfl; have hcz30_1 : w28.cell? ⟨gb108, 1, none⟩ = some (.string ((rd_T70 l0_0 x17_1).f1.f0)) := (zX BK108.out 1).trans rfl; have hcz30_2 : w28.cell? ⟨gb108, 2, none⟩ = some (.int .i64 ((rd_T70 l0_0 x17_1).f1.f1)) := (zX BK108.out 2).trans rfl; have hcz30_3 : w28.cell? ⟨gb108, 3, none⟩ = some (.slice A107_3 ((rd_T70 l0_0 x17_1).f2).length c107_3) := (zX BK108.out 3).trans rfl; have hfz30_0 := zY BK108.out 0; have hfz30_1 := zY BK108.out 1; have hfz30_2 := zY BK108.out 2; have hfz30_3 := zY BK108.out 3) | ((with_reducible refine gate_store (t := 23) (p := 24) rfl ?_); refine store_event (t := 23) (p := 24) (v := ?vo_w31) (w1 := (w28.setCell ⟨gb108, 3, none⟩ (.slice Ao29 t109.length co29))) ?hg ?ho ?hn ?hr ?_; (case ho => rfl); (case hg => rfl); (case hn => rfl); (case hr => first | (go_simp; done) | (go_simp; rfl)); intro w31 hw; have n0_ : Aside0 (Kd.S k70 70 w31 w.heap.size (fun k_ => some k_ ≠ (.slice Ao29 t109.length co29 : Value).ownBlock ∧ k_ ≠ gb108) u107000 x107000_1) := ⟨(by rw [hw]; exact (by (with_reducible repeat (first | apply Kd.S_alloc | apply Kd.S_drewN | apply Kd.S_drew)); exact Kd.S_mono (Kd.S_far (p := ⟨gb108, 3, none⟩) (Kd.S_mono HO_107000.out (fun k_ hk => (⟨hk, hk.1.2⟩ : _ ∧ k_ ≠ gb108))) (fun _ hk => hk.2) (.slice Ao29 t109.length co29)) (fun _ hk => ⟨hk.1.2, hk.1.1.2⟩)))⟩; have n1_ : Aside0 (Kd.R Kd.string 9 w31 w.heap.size (fun _ => True) (.slice Ao10 t103.length co10) t103) := ⟨(by rw [hw]; exact (by (with_reducible repeat (first | apply Kd.R_alloc | apply Kd.R_drewN | apply Kd.R_drew)); exact Kd.R_mono (Kd.R_far (p := ⟨gb108, 3, none⟩) (Kd.R_types HO_107003.out BK108.out (by decide)) (fun _ hk => hk.2) (.slice Ao29 t109.length co29)) (fun _ hk => trivial)))⟩; have n2_ : Aside0 (Kd.R k54 54 w31 w.heap.size (fun _ => True) (.slice Ao29 t109.length co29) t109) := ⟨(by rw [hw]; exact (by (with_reducible repeat (first | apply Kd.R_alloc | apply Kd.R_drewN | apply Kd.R_drew)); exact Kd.R_mono (Kd.R_far (p := ⟨gb108, 3, none⟩) (Kd.R_types HO111.out BK108.out (by decide)) (fun _ hk => hk.2) (.slice Ao29 t109.length co29)) (fun _ hk => trivial)))⟩; have n3_ : Aside0 (w31.heap[gb101]? = some (.cells #[.slice (some ad107) l0_0.length c0_0, .slice A0_1 l0_1.length c0_1, .int .i64 a0_2, .slice A0_3 l0_3.length c0_3] 28 (0, 0))) := ⟨(by rw [hw]; exact (by refine zk ?_; refine blk_far ?_ NB101_108.out _; refine zk ?_; exact BK101.out))⟩; have n4_ : Aside0 (w31.heap[gb102]? = some (.cells #[.slice none 0 0, .slice none 0 0, .int .i64 0, .slice none 0 0] 28 (0, 0))) := ⟨(by rw [hw]; exact (by refine zk ?_; refine blk_far ?_ NB102_108.out _; refine zk ?_; exact BK102.out))⟩; have n5_ : Aside0 (w31.heap[gb106]? = some (.cells #[u107000, .slice none 0 0, .int .i64 a0_2, .slice Ao10 t103.length co10] 28 (0, 0))) := ⟨(by rw [hw]; exact (by refine zk ?_; refine blk_far ?_ NB106_108.out _; refine zk ?_; exact BK106.out))⟩; have n6_ : Aside0 (w31.heap[gb108]? = some (.cells #[.int .i64 ((rd_T70 l0_0 x17_1).f0), .string ((rd_T70 l0_0 x17_1).f1.f0), .int .i64 ((rd_T70 l0_0 x17_1).f1.f1), .slice Ao29 t109.length co29] 70 (0, 0))) := ⟨(by rw [hw]; exact (by refine zk ?_; refine blk_put (cs := #[.int .i64 ((rd_T70 l0_0 x17_1).f0), .string ((rd_T70 l0_0 x17_1).f1.f0), .int .i64 ((rd_T70 l0_0 x17_1).f1.f1), .slice A107_3 ((rd_T70 l0_0 x17_1).f2).length c107_3]) ?_ 3 _ rfl; refine zk ?_; exact BK108.out))⟩; have n7_ : Aside0 (Below w.heap.size w w31) := ⟨(by rw [hw]; exact zb)⟩; clear hw; clear HO_107000; clear HO_107003; clear HO111; clear BK101; clear BK102; clear BK106; clear BK108; clear HB; have HO_107000 := n0_; have HO_107003 := n1_; have HO111 := n2_; have BK101 := n3_; have BK102 := n4_; have BK106 := n5_; have BK108 := n6_; have HB := n7_; clear n0_ n1_ n2_ n3_ n4_ n5_ n6_ n7_; have hnb32 := NB106_101.out; have hnc32 := NB101_106.out; have hnb33 := NB106_102.out; have hnc33 := NB102_106.out; have hcz34_0 : w31.cell? ⟨gb106, 0, none⟩ = some (u107000) := (zX BK106.out 0).trans rfl; have hcz34_1 : w31.cell? ⟨gb106, 1, none⟩ = some (.slice none 0 0) := (zX BK106.out 1).trans rfl; have hcz34_2 : w31.cell? ⟨gb106, 2, none⟩ = some (.int .i64 a0_2) := (zX BK106.out 2).trans rfl; have hcz34_3 : w31.cell? ⟨gb106, 3, none⟩ = some (.slice Ao10 t103.length co10) := (zX BK106.out 3).trans rfl; have hfz34_0 := zY BK106.out 0; have hfz34_1 := zY BK106.out 1; have hfz34_2 := zY BK106.out 2; have hfz34_3 := zY BK106.out 3; have hcz35_0 : w31.cell? ⟨gb108, 0, none⟩ = some (.int .i64 ((rd_T70 l0_0 x17_1).f0)) := (zX BK108.out 0).trans rfl; have hcz35_1 : w31.cell? ⟨gb108, 1, none⟩ = some (.string ((rd_T70 l0_0 x17_1).f1.f0)) := (zX BK108.out 1).trans rfl; have hcz35_2 : w31.cell? ⟨gb108, 2, none⟩ = some (.int .i64 ((rd_T70 l0_0 x17_1).f1.f1)) := (zX BK108.out 2).trans rfl; have hcz35_3 : w31.cell? ⟨gb108, 3, none⟩ = some (.slice Ao29 t109.length co29) := (zX BK108.out 3).trans rfl; have hfz35_0 := zY BK108.out 0; have hfz35_1 := zY BK108.out 1; have hfz35_2 := zY BK108.out 2; have hfz35_3 := zY BK108.out 3) | ((with_reducible refine gate_builtin (b := .append) (xs := #[.tmp 26, .tmp 28]) rfl ?_); at_builtin; refine Kd.S_append k70 (w0 := w) w.heap.size rfl (.tmp 26) (.tmp 28) 24 70 (.agg #[(.int .i64 0), (.string ⟨#[]⟩), (.int .i64 0), (.slice none 0 0)]) 56 rfl Try.underlying24 info70 rfl (by decide) (by omega) u107000 x107000_1 (⟨(rd_T70 l0_0 x17_1).f0, (⟨(rd_T70 l0_0 x17_1).f1.f0, (rd_T70 l0_0 x17_1).f1.f1⟩ : S54), t109⟩ : S70) [.int .i64 ((rd_T70 l0_0 x17_1).f0), .string ((rd_T70 l0_0 x17_1).f1.f0), .int .i64 ((rd_T70 l0_0 x17_1).f1.f1), .slice Ao29 t109.length co29] (fun k_ => k_ ≠ gb108) (fun k_ => some k_ = (.slice Ao29 t109.length co29 : Value).ownBlock) rfl rfl ?aP (fun k_ hk_ => ((Kd.R_mono (ok' := fun k_ => ((fun k_ => k_ ≠ gb108)) k_ ∧ some k_ ≠ (u107000 : Value).ownBlock) (Kd.R_types (Kd.R_apart' (HO111.out) (Kd.S_typed HO_107000.out) (by decide)) BK108.out (by decide)) (fun k_ hk => ⟨hk.2, hk.1.2⟩))).1 k_ hk_.symm) ?aF ?aO ?aB ?aS ?aL ?_; (case aP => exact k70_mkM _ _ _ (⟨(rd_T70 l0_0 x17_1).f0, (⟨(rd_T70 l0_0 x17_1).f1.f0, (rd_T70 l0_0 x17_1).f1.f1⟩ : S54), t109⟩ : S70) (Kd.R_mono (Kd.R_tight rfl (Kd.R_mono (ok' := fun k_ => ((fun k_ => k_ ≠ gb108)) k_ ∧ some k_ ≠ (u107000 : Value).ownBlock) (Kd.R_types (Kd.R_apart' (HO111.out) (Kd.S_typed HO_107000.out) (by decide)) BK108.out (by decide)) (fun k_ hk => ⟨hk.2, hk.1.2⟩))) (fun _ h_ => h_))); (case aB => exact zb); (case aF => exact (fun k_ hk => Kd.freshB (g := gb108) (o := .cells #[.int .i64 ((rd_T70 l0_0 x17_1).f0), .string ((rd_T70 l0_0 x17_1).f1.f0), .int .i64 ((rd_T70 l0_0 x17_1).f1.f1), .slice Ao29 t109.length co29] 70 (0, 0)) (zk BK108.out) k_ hk)); (case aO => exact (by (with_reducible repeat (first | apply Kd.S_alloc | apply Kd.S_drewN | apply Kd.S_drew)); exact Kd.S_mono HO_107000.out (fun k_ hk => ⟨hk.2, fun e_ => hk.1 e_⟩))); (case aS => exact (below_size zb)); (case aL => have := LMc22.out; omega); intro v113 w36 ho hb hg hat; rw [← Ny112.out] at ho; replace HO_107003 := zM (Kd.R_over' (zr HO_107003.out) (Kd.S_typed (Kd.S_below HO_107000.out zg)) (by decide) hg); replace BK101 := zM (blk_grown (g := gb101) (o := .cells #[.slice (some ad107) l0_0.length c0_0, .slice A0_1 l0_1.length c0_1, .int .i64 a0_2, .slice A0_3 l0_3.length c0_3] 28 (0, 0)) (zk BK101.out) hg (Kd.S_ne HO_107000.out BK101.out (by decide))); replace BK102 := zM (blk_grown (g := gb102) (o := .cells #[.slice none 0 0, .slice none 0 0, .int .i64 0, .slice none 0 0] 28 (0, 0)) (zk BK102.out) hg (Kd.S_ne HO_107000.out BK102.out (by decide))); replace BK106 := zM (blk_grown (g := gb106) (o := .cells #[u107000, .slice none 0 0, .int .i64 a0_2, .slice Ao10 t103.length co10] 28 (0, 0)) (zk BK106.out) hg (Kd.S_ne HO_107000.out BK106.out (by decide))); replace BK108 := zM (blk_grown (g := gb108) (o := .cells #[.int .i64 ((rd_T70 l0_0 x17_1).f0), .string ((rd_T70 l0_0 x17_1).f1.f0), .int .i64 ((rd_T70 l0_0 x17_1).f1.f1), .slice Ao29 t109.length co29] 70 (0, 0)) (zk BK108.out) hg (Kd.S_away HO_107000.out (fun _ hk => hk.2))); replace HB := zM (hb); have HO114 := zM (ho); clear HO111 HO_107000; clear ho hb hg hat; obtain ⟨Ao37, co37, eo37⟩ := Kd.S_slice HO114.out; subst eo37; have hcz38_0 : w36.cell? ⟨gb106, 0, none⟩ = some (u107000) := (zX BK106.out 0).trans rfl; have hcz38_1 : w36.cell? ⟨gb106, 1, none⟩ = some (.slice none 0 0) := (zX BK106.out 1).trans rfl; have hcz38_2 : w36.cell? ⟨gb106, 2, none⟩ = some (.int .i64 a0_2) := (zX BK106.out 2).trans rfl; have hcz38_3 : w36.cell? ⟨gb106, 3, none⟩ = some (.slice Ao10 t103.length co10) := (zX BK106.out 3).trans rfl; have hfz38_0 := zY BK106.out 0; have hfz38_1 := zY BK106.out 1; have hfz38_2 := zY BK106.out 2; have hfz38_3 := zY BK106.out 3))
       go_roundg k1
       case measure => have := HK1.out; omega
       case rel => exact ⟨(wrap64 (x17_1 + 1)), (y112), (.slice Ao37 y112.length co37), zy, H', ⟨by have := HK1.out; omega⟩, ⟨by (with_reducible repeat (first | apply Kd.S_alloc | apply Kd.S_drewN | apply Kd.S_drew)); exact Kd.S_mono (Kd.S_far (p := ⟨gb106, 0, none⟩) (Kd.S_types HO114.out BK106.out (by decide)) (fun _ hk => hk.2) (.slice Ao37 y112.length co37)) (fun _ hk => trivial)⟩, ⟨by (with_reducible repeat (first | apply Kd.R_alloc | apply Kd.R_drewN | apply Kd.R_drew)); exact Kd.R_mono (Kd.R_far (p := ⟨gb106, 0, none⟩) (Kd.R_types HO_107003.out BK106.out (by decide)) (fun _ hk => hk.2) (.slice Ao37 y112.length co37)) (fun _ hk => trivial)⟩, ⟨by refine zk ?_; refine blk_far ?_ NB101_106.out _; refine zk ?_; exact BK101.out⟩, ⟨by refine zk ?_; refine blk_far ?_ NB102_106.out _; refine zk ?_; exact BK102.out⟩, ⟨by refine zk ?_; refine blk_put (cs := #[u107000, .slice none 0 0, .int .i64 a0_2, .slice Ao10 t103.length co10]) ?_ 0 _ rfl; refine zk ?_; exact BK106.out⟩, ⟨zb⟩⟩
      ·
       rw [if_neg c22] at H
       exact absurd H (by simp)
     ·
      rw [if_neg c20] at H
      exact absurd H (by simp)
    ·
     rw [if_neg c19] at H
     exact absurd H (by simp)
   ·
    rw [if_neg c18] at H
    have c18b0 : decide (x17_1 < (l0_0.length : Int)) = false := zR c18
    clear c18
    have H' := zM H
    clear H
    have hnb39 := NB101_102.out
    have hnc39 := NB102_101.out
    have hnb40 := NB101_106.out
    have hnc40 := NB106_101.out
    have hcz41_0 : wr.cell? ⟨gb101, 0, none⟩ = some (.slice A0_0 l0_0.length c0_0) := (zX BK101.out 0).trans rfl
    have hcz41_1 : wr.cell? ⟨gb101, 1, none⟩ = some (.slice A0_1 l0_1.length c0_1) := (zX BK101.out 1).trans rfl
    have hcz41_2 : wr.cell? ⟨gb101, 2, none⟩ = some (.int .i64 a0_2) := (zX BK101.out 2).trans rfl
    have hcz41_3 : wr.cell? ⟨gb101, 3, none⟩ = some (.slice A0_3 l0_3.length c0_3) := (zX BK101.out 3).trans rfl
    have hfz41_0 := zY BK101.out 0
    have hfz41_1 := zY BK101.out 1
    have hfz41_2 := zY BK101.out 2
    have hfz41_3 := zY BK101.out 3
    go_wp2
    go_loopg [35] k1 (fun kq v35 w' => ∃ (x35_2 : Int) (x107001_2 : List (List (S54))) (u107001 : Value), v35 = .int .i64 x35_2 ∧ Aside0 (rewrite_clone.l1 kq l0_1 (l0_1.length : Int) x35_2 x107000_1 x107001_2 a0_2 t103 = some (r1, r2, r3, r4)) ∧ Aside0 (kq ≤ k1) ∧ Aside0 (Kd.S k70 70 w' w.heap.size (fun _ => True) u107000 x107000_1) ∧ Aside0 (Kd.S (Kd.slice 54 k54) 23 w' w.heap.size (fun _ => True) u107001 x107001_2) ∧ Aside0 (Kd.R Kd.string 9 w' w.heap.size (fun _ => True) (.slice Ao10 t103.length co10) t103) ∧ Aside0 (w'.heap[gb101]? = some (.cells #[(.slice A0_0 l0_0.length c0_0), (.slice A0_1 l0_1.length c0_1), .int .i64 a0_2, (.slice A0_3 l0_3.length c0_3)] 28 (0, 0))) ∧ Aside0 (w'.heap[gb102]? = some (.cells #[(.slice none 0 0), (.slice none 0 0), .int .i64 0, (.slice none 0 0)] 28 (0, 0))) ∧ Aside0 (w'.heap[gb106]? = some (.cells #[u107000, u107001, .int .i64 a0_2, (.slice Ao10 t103.length co10)] 28 (0, 0))) ∧ Aside0 (Below w.heap.size w w'))
    case atStart => exact ⟨(0), (([] : List (List (S54)))), (.slice none 0 0), zy, H', ⟨Nat.le_refl _⟩, ⟨Kd.S_below HO_107000.out zg⟩, ⟨by first | exact Kd.S_nil _ _ _ _ _ | exact Kd.N_nil _ _ _ _ _ | exact Kd.V_nil _ _ _ _ _ | exact Kd.Q_nil _ _ _ _ _ | exact Kd.R_nil _ _ _ _ _⟩, ⟨zr HO_107003.out⟩, ⟨by refine zk ?_; exact BK101.out⟩, ⟨by refine zk ?_; exact BK102.out⟩, ⟨by refine zk ?_; exact BK106.out⟩, ⟨zb⟩⟩
    case round =>
     clear H'
     try clear c1
     try clear p1
     try clear q1
     try clear hx1
     try clear c2
     try clear p2
     try clear c3
     try clear c4
     try clear p6
     try clear c7
     try clear c10
     try clear p10
     try clear q10
     try clear hx10
     try clear c15
     try clear c16
     try clear c18
     try clear c18b0
     try clear c19
     try clear c19b0
     try clear c20
     try clear c20b0
     try clear c22
     try clear c24
     try clear c25
     try clear c26
     try clear c32
     try clear c33
     try clear c39
     try clear c40
     try clear hcz17_0
     try clear hcz17_1
     try clear hcz17_2
     try clear hcz17_3
     try clear hcz27_0
     try clear hcz27_1
     try clear hcz27_2
     try clear hcz27_3
     try clear hcz30_0
     try clear hcz30_1
     try clear hcz30_2
     try clear hcz30_3
     try clear hcz34_0
     try clear hcz34_1
     try clear hcz34_2
     try clear hcz34_3
     try clear hcz35_0
     try clear hcz35_1
     try clear hcz35_2
     try clear hcz35_3
     try clear hcz38_0
     try clear hcz38_1
     try clear hcz38_2
     try clear hcz38_3
     try clear hcz41_0
     try clear hcz41_1
     try clear hcz41_2
     try clear hcz41_3
     try clear hfz17_0
     try clear hfz17_1
     try clear hfz17_2
     try clear hfz17_3
     try clear hfz27_0
     try clear hfz27_1
     try clear hfz27_2
     try clear hfz27_3
     try clear hfz30_0
     try clear hfz30_1
     try clear hfz30_2
     try clear hfz30_3
     try clear hfz34_0
     try clear hfz34_1
     try clear hfz34_2
     try clear hfz34_3
     try clear hfz35_0
     try clear hfz35_1
     try clear hfz35_2
     try clear hfz35_3
     try clear hfz38_0
     try clear hfz38_1
     try clear hfz38_2
     try clear hfz38_3
     try clear hfz41_0
     try clear hfz41_1
     try clear hfz41_2
     try clear hfz41_3
     try clear hx107_0
     try clear hx107_1
     try clear hx107_2
     try clear hx107_3
     try clear p107
     try clear p2
     try clear q107
     obtain ⟨x35_2, x107001_2, u107001, rfl, HA, HK2, HO_107000, HO_107001, HO_107003, BK101, BK102, BK106, HB⟩ := hrel
     cases gk with
     | zero => exact absurd HA.out (by simp [rewrite_clone.l1])
     | succ k2 =>
      have H := HA.out
      clear HA
      simp only [rewrite_clone.l1] at H
      by_cases c42 : x35_2 < (l0_1.length : Int)
      ·
       rw [if_pos c42] at H
       have c42b0 : decide (x35_2 < (l0_1.length : Int)) = true := zQ c42
       clear c42
       by_cases c43 : 0 ≤ x35_2
       ·
        rw [if_pos c43] at H
        have c43b0 : decide (0 ≤ x35_2) = true := zQ c43
        clear c43
        by_cases c44 : x35_2 < (l0_1.length : Int)
        ·
         rw [if_pos c44] at H
         have c44b0 : decide (x35_2 < (l0_1.length : Int)) = true := zQ c44
         clear c44
         replace H := zB H
         obtain ⟨t116, A450, H⟩ := H
         try dsimp only at H
         have A45 := zM A450
         clear A450
         by_cases c46 : x107001_2.length < 5864062014805
         ·
          rw [if_pos c46] at H
          have LMc46 := zM c46
          clear c46
          obtain ⟨y119, hy119⟩ : ∃ y_ : List (List (S54)), y_ = (x107001_2 ++ [t116]) := ⟨_, rfl⟩
          replace H : (rewrite_clone.l1 k2 l0_1 (l0_1.length : Int) (wrap64 (x35_2 + 1)) x107000_1 y119 a0_2 t103) = some (r1, r2, r3, r4) := by first | (rw [hy119]; with_reducible exact H) | (have H2_ := (Option.bind_some _ _).symm.trans H; rw [hy119]; with_reducible exact H2_) | (have H2_ := (Option.bind_some _ _).symm.trans H; with_reducible exact H2_) | with_reducible exact H | (rw [hy119]; exact H) | exact H
          have Ny119 := zM hy119
          clear hy119
          have H' := zM H
          clear H
          have p115 : 0 ≤ (x35_2 : Int) := zT zv
          have q115 : x35_2 < (l0_1.length : Int) := zT zv
          obtain ⟨ad115, A115_0, c115_0, e115, hx115_0, hl115_0, hi115_0⟩ := at_L3 HR0_1.out x35_2 p115 q115
          cases e115
          replace hx115_0 := (HB.out.cell (World.block_lt_of_cell? w _ hx115_0)).trans hx115_0
          have HR115_0 := zM hi115_0
          have HC115_0 := zM hl115_0
          clear hi115_0 hl115_0
          replace p115 := eq_true p115
          replace q115 := eq_true q115
          try go_wp2
          have n0_ := zM (Kd.S_drew HO_107000.out)
          have n1_ := zM (Kd.S_drew HO_107001.out)
          have n2_ := zM (Kd.R_drew HO_107003.out)
          have n3_ := zM (blk_drew BK101.out)
          have n4_ := zM (blk_drew BK102.out)
          have n5_ := zM (blk_drew BK106.out)
          have n6_ := zM (zD HB.out)
          clear HO_107000
          clear HO_107001
          clear HO_107003
          clear BK101
          clear BK102
          clear BK106
          clear HB
          have HO_107000 := n0_
          have HO_107001 := n1_
          have HO_107003 := n2_
          have BK101 := n3_
          have BK102 := n4_
          have BK106 := n5_
          have HB := n6_
          clear n0_ n1_ n2_ n3_ n4_ n5_ n6_
          refine start_ (n := 8) (S := fun w' => w'.cell? ⟨gb106, 0, none⟩ = some (u107000) ∧ w'.cell? ⟨gb106, 1, none⟩ = some (u107001) ∧ w'.cell? ⟨gb106, 2, none⟩ = some (.int .i64 a0_2) ∧ w'.cell? ⟨gb106, 3, none⟩ = some (.slice Ao10 t103.length co10)) (ds := [7]) #[false, false, false, false, false, false, false, false] (by kernel_rfl) rfl rfl ⟨(zX BK106.out 0).trans rfl, (zX BK106.out 1).trans rfl, (zX BK106.out 2).trans rfl, (zX BK106.out 3).trans rfl⟩ (fun hHeld => ?_); refine with_tabW rewrite_clone.tab11 rewrite_clone.bits11 (fun HT_ HW_ => ?_)
          generalize wr.drew = w47 at HO_107000 HO_107001 HO_107003 BK101 BK102 BK106 HB hHeld ⊢
          refine pure_ (i := 0) (N := some 39) (v := ?_) (a' := ?_) #[true, false, false, false, false, false, false, false] rfl rfl (any_of HT_.out (by kernel_rfl)) (fun _ _ _ h => h) (Or.inl ⟨by rfl, ?_⟩) ?_ ?_
          rotate_left
          ·
           intro w'
           go_simp
           with_reducible rfl
          rotate_left
          ·
           simp only [Act.put, zp1, zp2, zp3, i64_w, i32_w]
           rfl
          refine pure_ (i := 2) (N := some 41) (v := ?_) (a' := ?_) #[true, false, true, false, false, false, false, false] rfl rfl (any_of HT_.out (by kernel_rfl)) (fun _ _ _ h => h) (Or.inl ⟨by rfl, ?_⟩) ?_ ?_
          rotate_left
          ·
           intro w'
           go_simp
           with_reducible rfl
          rotate_left
          ·
           simp only [Act.put, zp1, zp2, zp3, i64_w, i32_w]
           rfl
          refine take_ (i := 1) (N := some 40) (v := ?_) (a' := ?_) #[true, true, true, false, false, false, false, false] rfl rfl (take_ofW HT_.out HW_.out (by kernel_rfl)) (fun _ _ _ h => h) (Or.inl ⟨by rfl, ?_⟩) hHeld ?_ ?_
          rotate_left
          ·
           rintro w' ⟨s0, s1, s2, s3⟩
           go_simp
           with_reducible rfl
          rotate_left
          ·
           simp only [Act.put, zp1, zp2, zp3, i64_w, i32_w]
           rfl
          refine one_ (i := 3) (N := some 42) #[true, true, true, true, false, false, false, false] rfl rfl (one_of HT_.out (by kernel_rfl)) (by decide) (fun K hK => ?_)
          refine goes_ Try.func71 (by kernel_rfl) rfl #[.slice A115_0 (rd_L3 l0_1 x35_2).length c115_0] (by rfl) rfl rfl zl ?_
          with_reducible refine (api_Cell_71.calls _ _ (rd_L3 l0_1 x35_2) t116 _ ?side1 ?side2 A45.out).mono ?_
          (case side1 => exact Kd.C_below HR115_0.out zb)
          (case side2 => exact HC115_0.out)
          rintro e w48 ⟨v117, rfl, ho0, hb⟩
          refine ⟨_, rfl, ?_⟩
          have n0_ := zM (Kd.S_elder' (Kd.S_below HO_107000.out zg) (Kd.R_base ho0) hb)
          have n1_ := zM (Kd.S_elder' (Kd.S_below HO_107001.out zg) (Kd.R_base ho0) hb)
          have n2_ := zM (Kd.R_below (zr HO_107003.out) hb)
          have n3_ := zM (Kd.R_lower ho0 (below_size zb))
          have n4_ := zM (blk_below (zk BK101.out) hb)
          have n5_ := zM (blk_below (zk BK102.out) hb)
          have n6_ := zM (blk_below (zk BK106.out) hb)
          have n7_ := zM (below_step zb hb)
          clear HO_107000
          clear HO_107001
          clear HO_107003
          clear BK101
          clear BK102
          clear BK106
          clear HB
          have HO_107000 := n0_
          have HO_107001 := n1_
          have HO_107003 := n2_
          have HO118 := n3_
          have BK101 := n4_
          have BK102 := n5_
          have BK106 := n6_
          have HB := n7_
          clear n0_ n1_ n2_ n3_ n4_ n5_ n6_ n7_
          (try clear hb)
          (try clear hb2)
          (try clear hk)
          (try clear hi)
          (try clear ho0)
          obtain ⟨Ao50, co50, eo50⟩ := Kd.R_slice HO118.out
          (first | subst eo50 | (injection eo50 with f1_ f2_ f3_; have f4_ := f1_.symm; have f5_ := f3_.symm; clear f1_ f2_ f3_; subst f4_; subst f5_))
          refine hK.out _ _ ⟨(zX BK106.out 0).trans rfl, (zX BK106.out 1).trans rfl, (zX BK106.out 2).trans rfl, (zX BK106.out 3).trans rfl⟩ (fun hHeld => ?_)
          clear hK K
          refine norm_ (a' := ?_) ?_ ?_
          rotate_left
          ·
           show Act.put _ (some 42) _ = _
           simp only [Act.put, zp1, zp2, zp3, i64_w, i32_w]
           rfl
          refine one_ (i := 4) (N := some 43) #[true, true, true, true, true, false, false, false] rfl rfl (one_of HT_.out (by kernel_rfl)) (by decide) (fun K hK => ?_)
          refine value_ (w1 := ?_) (v := ?_) (by rfl) rfl ?_ ?_
          rotate_left 2
          ·
           go_simp
           constructor
           ·
            rfl
           ·
            rfl
          refine hK.out _ _ ⟨(zX (blk_alloc BK106.out _) 0).trans rfl, (zX (blk_alloc BK106.out _) 1).trans rfl, (zX (blk_alloc BK106.out _) 2).trans rfl, (zX (blk_alloc BK106.out _) 3).trans rfl⟩ (fun hHeld => ?_)
          clear hK K
          refine norm_ (a' := ?_) ?_ ?_
          rotate_left
          ·
           show Act.put _ (some 43) _ = _
           simp only [Act.put, zp1, zp2, zp3, i64_w, i32_w]
           rfl
          refine one_ (i := 5) (N := some 44) #[true, true, true, true, true, true, false, false] rfl rfl (one_of HT_.out (by kernel_rfl)) (by decide) (fun K hK => ?_)
          refine Kd.S_append_step (Kd.slice 54 k54) (w0 := w) w.heap.size (by rfl) (.tmp 40) (.tmp 43) 25 23 (.slice none 0 0) 24 rfl Try.underlying25 info23 rfl (by decide) (by omega) u107001 x107001_2 t116 [.slice Ao50 t116.length co50] (fun _ => True) (fun k_ => some k_ = (.slice Ao50 t116.length co50 : Value).ownBlock) rfl rfl ?aP (fun k_ hk_ => ((Kd.R_mono (ok' := fun k_ => ((fun _ => True)) k_ ∧ some k_ ≠ (u107001 : Value).ownBlock) (Kd.R_apart' (HO118.out) (Kd.S_typed HO_107001.out) (by decide)) (fun k_ hk => ⟨trivial, hk.2⟩))).1 k_ hk_.symm) ?aF ?aO ?aB ?aS ?aL ?_
          (case aP => exact Kd.M_row (Kd.R_mono (Kd.R_tight rfl (Kd.R_mono (ok' := fun k_ => ((fun _ => True)) k_ ∧ some k_ ≠ (u107001 : Value).ownBlock) (Kd.R_apart' (HO118.out) (Kd.S_typed HO_107001.out) (by decide)) (fun k_ hk => ⟨trivial, hk.2⟩))) (fun _ h_ => h_)))
          (case aB => exact zb)
          (case aF => exact (fun _ _ => trivial))
          (case aO => exact (by (with_reducible repeat (first | apply Kd.S_alloc | apply Kd.S_drewN | apply Kd.S_drew)); exact Kd.S_mono HO_107001.out (fun k_ hk => ⟨trivial, fun e_ => hk.2 e_⟩)))
          (case aS => exact (below_size zb))
          (case aL => have := LMc46.out; omega)
          intro v120 w49 ho hb hg hat
          rw [← Ny119.out] at ho
          have n0_ := zM (Kd.S_over' (Kd.S_below HO_107000.out zg) (Kd.S_typed (Kd.S_below HO_107001.out zg)) (by decide) hg)
          have n1_ := zM (Kd.R_over' (zr HO_107003.out) (Kd.S_typed (Kd.S_below HO_107001.out zg)) (by decide) hg)
          have n2_ := zM (blk_grown (g := gb101) (o := .cells #[.slice A0_0 l0_0.length c0_0, .slice (some ad115) l0_1.length c0_1, .int .i64 a0_2, .slice A0_3 l0_3.length c0_3] 28 (0, 0)) (zk BK101.out) hg (Kd.S_ne HO_107001.out BK101.out (by decide)))
          have n3_ := zM (blk_grown (g := gb102) (o := .cells #[.slice none 0 0, .slice none 0 0, .int .i64 0, .slice none 0 0] 28 (0, 0)) (zk BK102.out) hg (Kd.S_ne HO_107001.out BK102.out (by decide)))
          have n4_ := zM (blk_grown (g := gb106) (o := .cells #[u107000, u107001, .int .i64 a0_2, .slice Ao10 t103.length co10] 28 (0, 0)) (zk BK106.out) hg (Kd.S_ne HO_107001.out BK106.out (by decide)))
          have n5_ := zM (hb)
          have n6_ := zM (ho)
          clear HO_107000
          clear HO_107003
          clear BK101
          clear BK102
          clear BK106
          clear HB
          clear HO_107001
          clear HO118
          have HO_107000 := n0_
          have HO_107003 := n1_
          have BK101 := n2_
          have BK102 := n3_
          have BK106 := n4_
          have HB := n5_
          have HO121 := n6_
          clear n0_ n1_ n2_ n3_ n4_ n5_ n6_
          clear ho hb hg hat
          obtain ⟨Ao51, co51, eo51⟩ := Kd.S_slice HO121.out
          (first | subst eo51 | (injection eo51 with f1_ f2_ f3_; have f4_ := f1_.symm; have f5_ := f3_.symm; clear f1_ f2_ f3_; subst f4_; subst f5_))
          refine hK.out _ _ ⟨(zX BK106.out 0).trans rfl, (zX BK106.out 1).trans rfl, (zX BK106.out 2).trans rfl, (zX BK106.out 3).trans rfl⟩ (fun hHeld => ?_)
          clear hK K
          refine norm_ (a' := ?_) ?_ ?_
          rotate_left
          ·
           show Act.put _ (some 44) _ = _
           simp only [Act.put, zp1, zp2, zp3, i64_w, i32_w]
           rfl
          refine pure_ (i := 6) (N := some 45) (v := ?_) (a' := ?_) #[true, true, true, true, true, true, true, false] rfl rfl (any_of HT_.out (by kernel_rfl)) (fun _ _ _ h => h) (Or.inl ⟨by rfl, ?_⟩) ?_ ?_
          rotate_left
          ·
           intro w'
           go_simp
           with_reducible rfl
          rotate_left
          ·
           simp only [Act.put, zp1, zp2, zp3, i64_w, i32_w]
           rfl
          refine last_ (i := 7) (N := none) #[true, true, true, true, true, true, true, true] rfl rfl (one_of HT_.out (by kernel_rfl)) (by decide) (fun K hK => ?_)
          have hs52 : w49.cell? ⟨gb106, 1, none⟩ = some (u107001) := (zX BK106.out 1).trans rfl
          have hfs52 := zY BK106.out 1
          have hns52_0 := NB101_106.out
          have hns52_1 := NB102_106.out
          have hms52_0 := NB106_101.out
          have hms52_1 := NB106_102.out
          refine skip_ (w1 := ?_) (by rfl) rfl ?_ ?_
          rotate_left
          ·
           go_simp
           rfl
          refine hK.out _ _ ?_
          clear hK K
          refine done_ (done_of HT_.out (by kernel_rfl)) ?_
          try go_wp2
          go_roundg k2
          case measure => have := HK1.out; have := HK2.out; omega
          case rel => exact ⟨(wrap64 (x35_2 + 1)), (y119), (.slice Ao51 y119.length co51), zy, H', ⟨by have := HK1.out; have := HK2.out; omega⟩, ⟨by (with_reducible repeat (first | apply Kd.S_alloc | apply Kd.S_drewN | apply Kd.S_drew)); exact Kd.S_mono (Kd.S_far (p := ⟨gb106, 1, none⟩) (Kd.S_types HO_107000.out BK106.out (by decide)) (fun _ hk => hk.2) (.slice Ao51 y119.length co51)) (fun _ hk => trivial)⟩, ⟨by (with_reducible repeat (first | apply Kd.S_alloc | apply Kd.S_drewN | apply Kd.S_drew)); exact Kd.S_mono (Kd.S_far (p := ⟨gb106, 1, none⟩) (Kd.S_types HO121.out BK106.out (by decide)) (fun _ hk => hk.2) (.slice Ao51 y119.length co51)) (fun _ hk => trivial)⟩, ⟨by (with_reducible repeat (first | apply Kd.R_alloc | apply Kd.R_drewN | apply Kd.R_drew)); exact Kd.R_mono (Kd.R_far (p := ⟨gb106, 1, none⟩) (Kd.R_types HO_107003.out BK106.out (by decide)) (fun _ hk => hk.2) (.slice Ao51 y119.length co51)) (fun _ hk => trivial)⟩, ⟨by refine zk ?_; refine blk_far ?_ NB101_106.out _; refine zk ?_; exact BK101.out⟩, ⟨by refine zk ?_; refine blk_far ?_ NB102_106.out _; refine zk ?_; exact BK102.out⟩, ⟨by refine zk ?_; refine blk_put (cs := #[u107000, u107001, .int .i64 a0_2, .slice Ao10 t103.length co10]) ?_ 1 _ rfl; refine zk ?_; exact BK106.out⟩, ⟨zb⟩⟩
         ·
          rw [if_neg c46] at H
          exact absurd H (by simp)
        ·
         rw [if_neg c44] at H
         exact absurd H (by simp)
       ·
        rw [if_neg c43] at H
        exact absurd H (by simp)
      ·
       rw [if_neg c42] at H
       have c42b0 : decide (x35_2 < (l0_1.length : Int)) = false := zR c42
       clear c42
       simp only [Option.some.injEq, Prod.mk.injEq] at H
       obtain ⟨rfl, rfl, rfl, rfl⟩ := H
       have hnb53 := NB106_101.out
       have hnc53 := NB101_106.out
       have hnb54 := NB106_102.out
       have hnc54 := NB102_106.out
       have hcz55_0 : wr.cell? ⟨gb106, 0, none⟩ = some (u107000) := (zX BK106.out 0).trans rfl
       have hcz55_1 : wr.cell? ⟨gb106, 1, none⟩ = some (u107001) := (zX BK106.out 1).trans rfl
       have hcz55_2 : wr.cell? ⟨gb106, 2, none⟩ = some (.int .i64 a0_2) := (zX BK106.out 2).trans rfl
       have hcz55_3 : wr.cell? ⟨gb106, 3, none⟩ = some (.slice Ao10 t103.length co10) := (zX BK106.out 3).trans rfl
       have hfz55_0 := zY BK106.out 0
       have hfz55_1 := zY BK106.out 1
       have hfz55_2 := zY BK106.out 2
       have hfz55_3 := zY BK106.out 3
       obtain ⟨Ao56, co56, eo56⟩ := Kd.S_slice HO_107000.out
       subst eo56
       have hnb57 := NB102_101.out
       have hnc57 := NB101_102.out
       have hcz58_0 : wr.cell? ⟨gb102, 0, none⟩ = some (.slice none 0 0) := (zX BK102.out 0).trans rfl
       have hcz58_1 : wr.cell? ⟨gb102, 1, none⟩ = some (.slice none 0 0) := (zX BK102.out 1).trans rfl
       have hcz58_2 : wr.cell? ⟨gb102, 2, none⟩ = some (.int .i64 0) := (zX BK102.out 2).trans rfl
       have hcz58_3 : wr.cell? ⟨gb102, 3, none⟩ = some (.slice none 0 0) := (zX BK102.out 3).trans rfl
       have hfz58_0 := zY BK102.out 0
       have hfz58_1 := zY BK102.out 1
       have hfz58_2 := zY BK102.out 2
       have hfz58_3 := zY BK102.out 3
       obtain ⟨Ao59, co59, eo59⟩ := Kd.S_slice HO_107001.out
       subst eo59
       go_wp2
       refine bodyPost_ret (results_cell_row rfl _ _ gb102 28 #[.slice Ao56 x107000_1.length co56, .slice Ao59 x107001_2.length co59, .int .i64 a0_2, .slice Ao10 t103.length co10] (0, 0) _ rfl (by refine zk ?_; refine blk_put (cs := #[.slice Ao56 x107000_1.length co56, .slice Ao59 x107001_2.length co59, .int .i64 a0_2, .slice none 0 0]) ?_ 3 _ rfl; refine zk ?_; refine blk_put (cs := #[.slice Ao56 x107000_1.length co56, .slice Ao59 x107001_2.length co59, .int .i64 0, .slice none 0 0]) ?_ 2 _ rfl; refine zk ?_; refine blk_put (cs := #[.slice Ao56 x107000_1.length co56, .slice none 0 0, .int .i64 0, .slice none 0 0]) ?_ 1 _ rfl; refine zk ?_; refine blk_put (cs := #[.slice none 0 0, .slice none 0 0, .int .i64 0, .slice none 0 0]) ?_ 0 _ rfl; refine zk ?_; exact BK102.out) Try.underlying28 rfl (by kernel_rfl)) rfl ?_
       exact ⟨_, _, _, zw, by (with_reducible repeat (first | apply Kd.S_alloc | apply Kd.S_drewN | apply Kd.S_drew)); exact Kd.S_mono (Kd.S_far (p := ⟨gb102, 3, none⟩) (Kd.S_far (p := ⟨gb102, 2, none⟩) (Kd.S_far (p := ⟨gb102, 1, none⟩) (Kd.S_far (p := ⟨gb102, 0, none⟩) (Kd.S_types HO_107000.out BK102.out (by decide)) (fun _ hk => hk.2) (.slice Ao56 x107000_1.length co56)) (fun _ hk => hk.2) (.slice Ao59 x107001_2.length co59)) (fun _ hk => hk.2) (.int .i64 a0_2)) (fun _ hk => hk.2) (.slice Ao10 t103.length co10)) (fun _ hk => trivial), by (with_reducible repeat (first | apply Kd.S_alloc | apply Kd.S_drewN | apply Kd.S_drew)); exact Kd.S_mono (Kd.S_far (p := ⟨gb102, 3, none⟩) (Kd.S_far (p := ⟨gb102, 2, none⟩) (Kd.S_far (p := ⟨gb102, 1, none⟩) (Kd.S_far (p := ⟨gb102, 0, none⟩) (Kd.S_types HO_107001.out BK102.out (by decide)) (fun _ hk => hk.2) (.slice Ao56 x107000_1.length co56)) (fun _ hk => hk.2) (.slice Ao59 x107001_2.length co59)) (fun _ hk => hk.2) (.int .i64 a0_2)) (fun _ hk => hk.2) (.slice Ao10 t103.length co10)) (fun _ hk => trivial), by (with_reducible repeat (first | apply Kd.R_alloc | apply Kd.R_drewN | apply Kd.R_drew)); exact Kd.R_mono (Kd.R_far (p := ⟨gb102, 3, none⟩) (Kd.R_far (p := ⟨gb102, 2, none⟩) (Kd.R_far (p := ⟨gb102, 1, none⟩) (Kd.R_far (p := ⟨gb102, 0, none⟩) (Kd.R_types HO_107003.out BK102.out (by decide)) (fun _ hk => hk.2) (.slice Ao56 x107000_1.length co56)) (fun _ hk => hk.2) (.slice Ao59 x107001_2.length co59)) (fun _ hk => hk.2) (.int .i64 a0_2)) (fun _ hk => hk.2) (.slice Ao10 t103.length co10)) (fun _ hk => trivial), zb⟩


-- ==== PF19

def aumbrylaw07_few.f (l0 : List (S73)) (a1 : Int) : Option (Bool) := if (l0.length : Int) ≤ 64 then (some (decide (a1 ≤ 300))) else (some false)
theorem aumbrylaw07_few.calls (A0 : Option Addr) (c0 : Nat) (l0 : List (S73)) (a1 : Int) (r : Bool) (w : World) (hr0 : Kd.C k73 w A0 l0.length l0) (hc0 : l0.length ≤ c0) (h : aumbrylaw07_few.f l0 a1 = some r) :
 Calls Try.prog 19 #[.slice A0 l0.length c0, .int .i64 a1] w fun e w' => e = .returned (.bool r) ∧ Drawn0 w w' := by
 have HR0 := zM hr0
 have HC0 := zM hc0
 clear hr0 hc0
 have H : (if (l0.length : Int) ≤ 64 then (some (decide (a1 ≤ 300))) else (some false)) = some r := h
 clear h
 by_cases c3 : (l0.length : Int) ≤ 64
 ·
  rw [if_pos c3] at H
  have c3b0 : decide ((l0.length : Int) ≤ 64) = true := zQ c3
  have c3b1 : decide (l0.length ≤ 64) = true := zQ (by omega)
  clear c3
  obtain rfl := zS H
  go_enter Try.func19, Try.ntmps19
  go_wp2
  go_ret
  exact ⟨zy, zd⟩
 ·
  rw [if_neg c3] at H
  have c3b0 : decide ((l0.length : Int) ≤ 64) = false := zR c3
  have c3b1 : decide (l0.length ≤ 64) = false := zR (by omega)
  clear c3
  obtain rfl := zS H
  go_enter Try.func19, Try.ntmps19
  go_wp2
  go_ret
  exact ⟨zy, zd⟩

end Go.Proofs.Ytdlkhpfgkghhmaa.P
