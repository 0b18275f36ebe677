/- RewriteInner: the law answers true at every input that the given row speaks of. Conditions: those of the given row, none besides. (Part 5 of 6; written by programs of this session, which drive the kit's print, and by hand.) -/
import Derived.Test.YtdlkhpfgkghhmaaRows
import Derived.Test.YtdlkhpfgkghhmaaZRewriteInnerWWords
import Derived.Deep.Slices
import Derived.SizedLaws
import Derived.ChangeSame
import Derived.ChangeArms
import Derived.Test.YtdlkhpfgkghhmaaZRewriteInner0
import Derived.Test.YtdlkhpfgkghhmaaZRewriteInner1
import Derived.Test.YtdlkhpfgkghhmaaZRewriteInner2
import Derived.Test.YtdlkhpfgkghhmaaZRewriteInner3
set_option maxHeartbeats 8000000
set_option maxRecDepth 100000
set_option linter.unusedVariables false
set_option linter.unusedSimpArgs false
-- ==== PF6
namespace Go.Proofs.Ytdlkhpfgkghhmaa.P
open Go.RowKit Go.Proofs.YtdlkhpfgkghhmaaW.PrintWords Go.Proofs.YtdlkhpfgkghhmaaW.PrintLast Go.Proofs.YtdlkhpfgkghhmaaW.PrintMore
attribute [local go_sem] max2_int min2_int max_two min_two max_three min_three max_four min_four

/-! ### aumbrylaw07_RewriteInner: function 6 -/
def aumbrylaw07_RewriteInner.f (k : Nat) (l0 : List (S73)) (l1 : List (S54)) (a2 : Int) : Option (Bool) := (aumbrylaw07_wakes.f k).bind fun t101 => (if t101 = true then ((aumbrylaw07_few.f l0 a2).bind fun t102 => (if t102 = true then ((aumbrylaw07_rules.f k l0).bind fun t103 => ((aumbryref04_Copy.f l1).bind fun t106 => ((rewrite_Normal.f k t103 t106 a2).bind fun bt109 => ((aumbryref07_Together.f k l0).bind fun t114 => (if t114 = 0 then ((aumbryref07_Ground.f k l1).bind fun t115 => (if t115 = true then ((aumbryref07_Inner.f k l0 l1 (mx a2 0)).bind fun bt128 => (if bt128.2.2 = 0 then (if bt109.2.2 = 0 then ((aumbryref04_Same.f k bt109.1 bt128.1).bind fun t133 => (if t133 = true then (some (bt109.2.1 == (wrap64 ((mx a2 0) - bt128.2.1)))) else (some false))) else (some false)) else (if (bt109.1.length : Int) = 0 then (if bt109.2.1 = 0 then (some (bt109.2.2 == bt128.2.2)) else (some false)) else (some false)))) else ((aumbryref07_Start.f k l1).bind fun bt116 => (if bt109.2.2 = bt116.2.2.2.2 then (if (bt109.1.length : Int) = 0 then (some (bt109.2.1 == 0)) else (some false)) else (some false))))) else (if bt109.2.2 = t114 then (if (bt109.1.length : Int) = 0 then (some (bt109.2.1 == 0)) else (some false)) else (some false))))))) else (some true))) else (some false))
theorem aumbrylaw07_RewriteInner.calls (k : Nat) (A0 : Option Addr) (c0 : Nat) (l0 : List (S73)) (A1 : Option Addr) (c1 : Nat) (l1 : List (S54)) (a2 : Int) (r : Bool) (w : World) (hr0 : Kd.C k73 w A0 l0.length l0) (hc0 : l0.length ≤ c0) (hr1 : Kd.C k54 w A1 l1.length l1) (hc1 : l1.length ≤ c1) (h : aumbrylaw07_RewriteInner.f k l0 l1 a2 = some r) (hr : r = true) :
 Calls Try.prog 6 #[.slice A0 l0.length c0, .slice A1 l1.length c1, .int .i64 a2] w fun e w' => e = .returned (.bool r) ∧ Below w.heap.size w w' := by
 have HRT := zM hr
 clear hr
 have hu28 := Try.underlying28
 have HR0 := zM hr0
 have HC0 := zM hc0
 clear hr0 hc0
 have HR1 := zM hr1
 have HC1 := zM hc1
 clear hr1 hc1
 have HB := zM (Below.refl w.heap.size w)
 have H : ((aumbrylaw07_wakes.f k).bind fun t101 => (if t101 = true then ((aumbrylaw07_few.f l0 a2).bind fun t102 => (if t102 = true then ((aumbrylaw07_rules.f k l0).bind fun t103 => ((aumbryref04_Copy.f l1).bind fun t106 => ((rewrite_Normal.f k t103 t106 a2).bind fun bt109 => ((aumbryref07_Together.f k l0).bind fun t114 => (if t114 = 0 then ((aumbryref07_Ground.f k l1).bind fun t115 => (if t115 = true then ((aumbryref07_Inner.f k l0 l1 (mx a2 0)).bind fun bt128 => (if bt128.2.2 = 0 then (if bt109.2.2 = 0 then ((aumbryref04_Same.f k bt109.1 bt128.1).bind fun t133 => (if t133 = true then (some (bt109.2.1 == (wrap64 ((mx a2 0) - bt128.2.1)))) else (some false))) else (some false)) else (if (bt109.1.length : Int) = 0 then (if bt109.2.1 = 0 then (some (bt109.2.2 == bt128.2.2)) else (some false)) else (some false)))) else ((aumbryref07_Start.f k l1).bind fun bt116 => (if bt109.2.2 = bt116.2.2.2.2 then (if (bt109.1.length : Int) = 0 then (some (bt109.2.1 == 0)) else (some false)) else (some false))))) else (if bt109.2.2 = t114 then (if (bt109.1.length : Int) = 0 then (some (bt109.2.1 == 0)) else (some false)) else (some false))))))) else (some true))) else (some false))) = some r := h
 clear h
 replace H := zB H
 obtain ⟨t101, A40, H⟩ := H
 try dsimp only at H
 have A4 := zM A40
 clear A40
 by_cases c5 : t101 = true
 ·
  subst c5
  rw [if_pos rfl] at H
  replace H := zB H
  obtain ⟨t102, A60, H⟩ := H
  try dsimp only at H
  have A6 := zM A60
  clear A60
  by_cases c7 : t102 = true
  ·
   subst c7
   rw [if_pos rfl] at H
   replace H := zB H
   obtain ⟨t103, A80, H⟩ := H
   try dsimp only at H
   have A8 := zM A80
   clear A80
   replace H := zB H
   obtain ⟨t106, A90, H⟩ := H
   try dsimp only at H
   have A9 := zM A90
   clear A90
   replace H := zB H
   obtain ⟨⟨t109, t112, t113⟩, A100, H⟩ := H
   try dsimp only at H
   have A10 := zM A100
   clear A100
   replace H := zB H
   obtain ⟨t114, A110, H⟩ := H
   try dsimp only at H
   have A11 := zM A110
   clear A110
   by_cases c12 : t114 = 0
   ·
    rw [if_pos c12] at H
    have c12b0 : (t114 == 0) = true := zG c12
    have c12b1 : (t114 != 0) = false := zH c12
    clear c12
    replace H := zB H
    obtain ⟨t115, A130, H⟩ := H
    try dsimp only at H
    have A13 := zM A130
    clear A130
    by_cases c14 : t115 = true
    ·
     subst c14
     rw [if_pos rfl] at H
     obtain ⟨ji15, hji15⟩ : ∃ j_ : Int, (mx a2 0) = j_ := ⟨_, rfl⟩
     replace H : ((aumbryref07_Inner.f k l0 l1 (ji15)).bind fun bt128 => (if bt128.2.2 = 0 then (if t113 = 0 then ((aumbryref04_Same.f k t109 bt128.1).bind fun t133 => (if t133 = true then (some (t112 == (wrap64 ((ji15) - bt128.2.1)))) else (some false))) else (some false)) else (if (t109.length : Int) = 0 then (if t112 = 0 then (some (t113 == bt128.2.2)) else (some false)) else (some false)))) = some r := by first | (rw [hji15] at H; exact H) | (simp only [hji15] at H ⊢; exact H)
     (try rw [hji15] at A4)
     (try rw [hji15] at A6)
     (try rw [hji15] at A8)
     (try rw [hji15] at A9)
     (try rw [hji15] at A10)
     (try rw [hji15] at A11)
     (try rw [hji15] at A13)
     (try (have hji15l : 0 ≤ ji15 := by (rw [← hji15]; unfold mx; (repeat' split) <;> omega)))
     (try (have hji15m : 0 ≤ ji15 := by omega))
     have hji15_ : (if a2 < 0 then 0 else a2) = ji15 := hji15
     replace H := zB H
     obtain ⟨⟨t128, t131, t132⟩, A160, H⟩ := H
     try dsimp only at H
     have A16 := zM A160
     clear A160
     by_cases c17 : t132 = 0
     ·
      rw [if_pos c17] at H
      have c17b0 : (t132 == 0) = true := zG c17
      have c17b1 : (t132 != 0) = false := zH c17
      clear c17
      by_cases c18 : t113 = 0
      ·
       rw [if_pos c18] at H
       have c18b0 : (t113 == 0) = true := zG c18
       have c18b1 : (t113 != 0) = false := zH c18
       clear c18
       replace H := zB H
       obtain ⟨t133, A190, H⟩ := H
       try dsimp only at H
       have A19 := zM A190
       clear A190
       by_cases c20 : t133 = true
       ·
        subst c20
        rw [if_pos rfl] at H
        obtain rfl := zS H
        go_enter Try.func6, Try.ntmps6
        go_wp2_with (first | ((with_reducible refine gate_callee (f := 11) rfl ?_); refine goesL_ (some 16) rfl rfl Try.func11 (by kernel_rfl) rfl #[] rfl zl ?_; (with_reducible refine (aumbrylaw07_wakes.calls k  true _ A4.out).mono ?_); rintro e w22 ⟨rfl, hb⟩; refine ⟨_, rfl, ?_⟩; replace HB := zM (below_step zb hb); (try clear hb)) | ((with_reducible refine gate_callee (f := 19) rfl ?_); refine goesL_ (some 20) rfl rfl Try.func19 (by kernel_rfl) rfl #[.slice A0 l0.length c0, .int .i64 a2] rfl zl ?_; (with_reducible refine (aumbrylaw07_few.calls _ _ l0 a2 true _ ?side1 ?side2 A6.out).mono ?_); (case side1 => exact Kd.C_below HR0.out zb); (case side2 => exact HC0.out); rintro e w' ⟨rfl, ⟨nd, rfl⟩⟩; refine ⟨_, rfl, ?_⟩) | ((with_reducible refine gate_callee (f := 21) rfl ?_); refine goesL_ (some 24) rfl rfl Try.func21 (by kernel_rfl) rfl #[.slice A0 l0.length c0] rfl zl ?_; (with_reducible refine (aumbrylaw07_rules.calls k _ _ l0 t103 _ ?side1 ?side2 A8.out).mono ?_); (case side1 => exact Kd.C_below (Kd.C_below HR0.out zb) zg); (case side2 => exact HC0.out); rintro e w23 ⟨v104, rfl, ho0, hb⟩; refine ⟨_, rfl, ?_⟩; have HO105 := zM (Kd.N_lower (Kd.N_mono (ok' := fun k_ => True) (Kd.S_N (Kd.S_bound ho0)) (fun k_ hk_ => trivial)) (below_size zb)); replace HB := zM (below_step zb hb); (try clear hb); (try clear ho0)) | ((with_reducible refine gate_callee (f := 13) rfl ?_); refine goesL_ (some 26) rfl rfl Try.func13 (by kernel_rfl) rfl #[.slice A1 l1.length c1] rfl zl ?_; (with_reducible refine (aumbryref04_Copy.calls _ _ l1 t106 _ ?side1 ?side2 A9.out).mono ?_); (case side1 => exact Kd.C_below HR1.out zb); (case side2 => exact HC1.out); rintro e w24 ⟨v107, rfl, ho0, hb⟩; refine ⟨_, rfl, ?_⟩; replace HO105 := zM (Kd.N_elder' (Kd.N_below HO105.out zg) (Kd.R_base ho0) hb); have HO108 := zM (Kd.R_lower ho0 (below_size zb)); replace HB := zM (below_step zb hb); (try clear hb); (try clear ho0); obtain ⟨Ao25, co25, eo25⟩ := Kd.N_slice HO105.out; subst eo25; obtain ⟨Ao26, co26, eo26⟩ := Kd.R_slice HO108.out; subst eo26) | ((with_reducible refine gate_callee (f := 24) rfl ?_); refine goesL_ (some 28) rfl rfl Try.func24 (by kernel_rfl) rfl #[.slice Ao25 t103.length co25, .slice Ao26 t106.length co26, .int .i64 a2] rfl zl ?_; (with_reducible refine (rewrite_Normal.calls k _ _ t103 _ _ t106 a2 t109 t112 t113 _ ?side1 ?side2 ?side3 ?side4 A10.out).mono ?_); (case side1 => exact Kd.C_below (Kd.N_reads' HO105.out).2.2 zg); (case side2 => exact (Kd.N_reads' HO105.out).2.1); (case side3 => exact Kd.C_below (Kd.R_reads' HO108.out).2.2 zg); (case side4 => exact (Kd.R_reads' HO108.out).2.1); rintro e w27 ⟨v110, rfl, ho0, hb⟩; refine ⟨_, rfl, ?_⟩; have HO111 := zM (Kd.V_lower (Kd.V_mono (ok' := fun k_ => some k_ ≠ (.slice Ao25 t103.length co25 : Value).ownBlock ∧ some k_ ≠ (.slice Ao26 t106.length co26 : Value).ownBlock) ho0 (fun k_ hk_ => ⟨(Kd.fresh' (Kd.N_lt (Kd.N_below HO105.out zg)) k_ hk_), (Kd.fresh' (Kd.R_lt (zr HO108.out)) k_ hk_)⟩)) (below_size zb)); replace HO105 := zM (Kd.N_below (Kd.N_below HO105.out zg) hb); replace HO108 := zM (Kd.R_below (zr HO108.out) hb); replace HB := zM (below_step zb hb); (try clear hb); (try clear ho0)) | ((with_reducible refine gate_callee (f := 25) rfl ?_); refine goesL_ (some 33) rfl rfl Try.func25 (by kernel_rfl) rfl #[.slice A0 l0.length c0] rfl zl ?_; (with_reducible refine (aumbryref07_Together.calls k _ _ l0 t114 _ ?side1 ?side2 A11.out).mono ?_); (case side1 => exact Kd.C_below HR0.out zb); (case side2 => exact HC0.out); rintro e w28 ⟨rfl, hb⟩; refine ⟨_, rfl, ?_⟩; replace HO105 := zM (Kd.N_below (Kd.N_below HO105.out zg) hb); replace HO108 := zM (Kd.R_below (zr HO108.out) hb); replace HO111 := zM (Kd.V_below (Kd.V_below HO111.out zg) hb); replace HB := zM (below_step zb hb); (try clear hb)) | ((with_reducible refine gate_callee (f := 23) rfl ?_); refine goesL_ (some 49) rfl rfl Try.func23 (by kernel_rfl) rfl #[.slice A1 l1.length c1] rfl zl ?_; (with_reducible refine (aumbryref07_Ground.calls k _ _ l1 true _ ?side1 ?side2 A13.out).mono ?_); (case side1 => exact Kd.C_below HR1.out zb); (case side2 => exact HC1.out); rintro e w29 ⟨rfl, hb⟩; refine ⟨_, rfl, ?_⟩; replace HO105 := zM (Kd.N_below (Kd.N_below HO105.out zg) hb); replace HO108 := zM (Kd.R_below (zr HO108.out) hb); replace HO111 := zM (Kd.V_below (Kd.V_below HO111.out zg) hb); replace HB := zM (below_step zb hb); (try clear hb)) | ((with_reducible refine gate_callee (f := 26) rfl ?_); refine goesL_ (some 73) rfl rfl Try.func26 (by kernel_rfl) rfl #[.slice A0 l0.length c0, .slice A1 l1.length c1, .int .i64 ji15] rfl (by (try simp only [List.map_toArray, List.map_cons, List.map_nil]); first | done | (simp only [hji15]; rfl) | rfl | (simp only [List.length_drop, List.length_take]; rfl)) ?_; (with_reducible refine (aumbryref07_Inner.calls k _ _ l0 (fun k_ => k_ < w.heap.size) _ _ l1 ji15 t128 t131 t132 _ ?side1 ?side2 ?side3 A16.out).mono ?_); (case side1 => exact Kd.C_below HR0.out zb); (case side2 => exact HC0.out); (case side3 => exact Kd.V_mk HC1.out (Kd.F_below (Kd.C_F k54_heap HR1.out) zb)); rintro e w30 ⟨v129, rfl, ho0, hb⟩; refine ⟨_, rfl, ?_⟩; replace HO105 := zM (Kd.N_elder' (Kd.N_below HO105.out zg) (Kd.R_base ho0) hb); replace HO111 := zM (Kd.V_elder' (Kd.V_below HO111.out zg) (Kd.R_base ho0) hb); have HO130 := zM (Kd.R_lower (Kd.R_new' (Kd.R_mono (ok' := fun k_ => True) ho0 (fun _ hk_ => trivial)) (Kd.R_lt (zr HO108.out))) (below_size zb)); replace HO108 := zM (Kd.R_elder' (zr HO108.out) (Kd.R_base ho0) hb); replace HB := zM (below_step zb hb); (try clear hb); (try clear ho0); obtain ⟨Ao31, co31, eo31⟩ := Kd.V_slice HO111.out; subst eo31; obtain ⟨Ao32, co32, eo32⟩ := Kd.R_slice HO130.out; subst eo32) | (go_at_call 27; (with_reducible refine (aumbryref04_Same.calls k _ _ t109 _ _ t128 true _ ?side1 ?side2 ?side3 ?side4 A19.out).mono ?_); (case side1 => exact Kd.C_below (Kd.V_reads' HO111.out).2.2 zg); (case side2 => exact (Kd.V_reads' HO111.out).2.1); (case side3 => exact Kd.C_below (Kd.R_reads' HO130.out).2.2 zg); (case side4 => exact (Kd.R_reads' HO130.out).2.1); rintro e w' ⟨rfl, ⟨nd, rfl⟩⟩))
        go_ret
        exact ⟨by first | rfl | (simp [errW_none, errW_some] <;> rfl) | (simp only [← hji15]; first | rfl | (simp [errW_none, errW_some] <;> rfl)) | (simp [*, errW_none, errW_some] <;> rfl), zb⟩
       ·
        replace c20 := zI c20
        subst c20
        have H1 : (some false) = some r := by rw [if_neg (show ¬ (false = true) by decide)] at H; exact H
        exact absurd ((zS H1).trans HRT.out) (by decide)
      ·
       rw [if_neg c18] at H
       have c18b0 : (t113 == 0) = false := zE c18
       have c18b1 : (t113 != 0) = true := zF c18
       exact absurd ((zS H).trans HRT.out) (by decide)
     ·
      rw [if_neg c17] at H
      have c17b0 : (t132 == 0) = false := zE c17
      have c17b1 : (t132 != 0) = true := zF c17
      by_cases c53 : (t109.length : Int) = 0
      ·
       rw [if_pos c53] at H
       have c53b0 : ((t109.length : Int) == 0) = true := zG c53
       have c53b1 : ((t109.length : Int) != 0) = false := zH c53
       clear c53
       by_cases c54 : t112 = 0
       ·
        rw [if_pos c54] at H
        have c54b0 : (t112 == 0) = true := zG c54
        have c54b1 : (t112 != 0) = false := zH c54
        clear c54
        obtain rfl := zS H
        go_enter Try.func6, Try.ntmps6
        go_wp2_with (first | ((with_reducible refine gate_callee (f := 11) rfl ?_); refine goesL_ (some 16) rfl rfl Try.func11 (by kernel_rfl) rfl #[] rfl zl ?_; (with_reducible refine (aumbrylaw07_wakes.calls k  true _ A4.out).mono ?_); rintro e w55 ⟨rfl, hb⟩; refine ⟨_, rfl, ?_⟩; replace HB := zM (below_step zb hb); (try clear hb)) | ((with_reducible refine gate_callee (f := 19) rfl ?_); refine goesL_ (some 20) rfl rfl Try.func19 (by kernel_rfl) rfl #[.slice A0 l0.length c0, .int .i64 a2] rfl zl ?_; (with_reducible refine (aumbrylaw07_few.calls _ _ l0 a2 true _ ?side1 ?side2 A6.out).mono ?_); (case side1 => exact Kd.C_below HR0.out zb); (case side2 => exact HC0.out); rintro e w' ⟨rfl, ⟨nd, rfl⟩⟩; refine ⟨_, rfl, ?_⟩) | ((with_reducible refine gate_callee (f := 21) rfl ?_); refine goesL_ (some 24) rfl rfl Try.func21 (by kernel_rfl) rfl #[.slice A0 l0.length c0] rfl zl ?_; (with_reducible refine (aumbrylaw07_rules.calls k _ _ l0 t103 _ ?side1 ?side2 A8.out).mono ?_); (case side1 => exact Kd.C_below (Kd.C_below HR0.out zb) zg); (case side2 => exact HC0.out); rintro e w56 ⟨v104, rfl, ho0, hb⟩; refine ⟨_, rfl, ?_⟩; have HO105 := zM (Kd.N_lower (Kd.N_mono (ok' := fun k_ => True) (Kd.S_N (Kd.S_bound ho0)) (fun k_ hk_ => trivial)) (below_size zb)); replace HB := zM (below_step zb hb); (try clear hb); (try clear ho0)) | ((with_reducible refine gate_callee (f := 13) rfl ?_); refine goesL_ (some 26) rfl rfl Try.func13 (by kernel_rfl) rfl #[.slice A1 l1.length c1] rfl zl ?_; (with_reducible refine (aumbryref04_Copy.calls _ _ l1 t106 _ ?side1 ?side2 A9.out).mono ?_); (case side1 => exact Kd.C_below HR1.out zb); (case side2 => exact HC1.out); rintro e w57 ⟨v107, rfl, ho0, hb⟩; refine ⟨_, rfl, ?_⟩; replace HO105 := zM (Kd.N_elder' (Kd.N_below HO105.out zg) (Kd.R_base ho0) hb); have HO108 := zM (Kd.R_lower ho0 (below_size zb)); replace HB := zM (below_step zb hb); (try clear hb); (try clear ho0); obtain ⟨Ao58, co58, eo58⟩ := Kd.N_slice HO105.out; subst eo58; obtain ⟨Ao59, co59, eo59⟩ := Kd.R_slice HO108.out; subst eo59) | ((with_reducible refine gate_callee (f := 24) rfl ?_); refine goesL_ (some 28) rfl rfl Try.func24 (by kernel_rfl) rfl #[.slice Ao58 t103.length co58, .slice Ao59 t106.length co59, .int .i64 a2] rfl zl ?_; (with_reducible refine (rewrite_Normal.calls k _ _ t103 _ _ t106 a2 t109 t112 t113 _ ?side1 ?side2 ?side3 ?side4 A10.out).mono ?_); (case side1 => exact Kd.C_below (Kd.N_reads' HO105.out).2.2 zg); (case side2 => exact (Kd.N_reads' HO105.out).2.1); (case side3 => exact Kd.C_below (Kd.R_reads' HO108.out).2.2 zg); (case side4 => exact (Kd.R_reads' HO108.out).2.1); rintro e w60 ⟨v110, rfl, ho0, hb⟩; refine ⟨_, rfl, ?_⟩; have HO111 := zM (Kd.V_lower (Kd.V_mono (ok' := fun k_ => some k_ ≠ (.slice Ao58 t103.length co58 : Value).ownBlock ∧ some k_ ≠ (.slice Ao59 t106.length co59 : Value).ownBlock) ho0 (fun k_ hk_ => ⟨(Kd.fresh' (Kd.N_lt (Kd.N_below HO105.out zg)) k_ hk_), (Kd.fresh' (Kd.R_lt (zr HO108.out)) k_ hk_)⟩)) (below_size zb)); replace HO105 := zM (Kd.N_below (Kd.N_below HO105.out zg) hb); replace HO108 := zM (Kd.R_below (zr HO108.out) hb); replace HB := zM (below_step zb hb); (try clear hb); (try clear ho0)) | ((with_reducible refine gate_callee (f := 25) rfl ?_); refine goesL_ (some 33) rfl rfl Try.func25 (by kernel_rfl) rfl #[.slice A0 l0.length c0] rfl zl ?_; (with_reducible refine (aumbryref07_Together.calls k _ _ l0 t114 _ ?side1 ?side2 A11.out).mono ?_); (case side1 => exact Kd.C_below HR0.out zb); (case side2 => exact HC0.out); rintro e w61 ⟨rfl, hb⟩; refine ⟨_, rfl, ?_⟩; replace HO105 := zM (Kd.N_below (Kd.N_below HO105.out zg) hb); replace HO108 := zM (Kd.R_below (zr HO108.out) hb); replace HO111 := zM (Kd.V_below (Kd.V_below HO111.out zg) hb); replace HB := zM (below_step zb hb); (try clear hb)) | ((with_reducible refine gate_callee (f := 23) rfl ?_); refine goesL_ (some 49) rfl rfl Try.func23 (by kernel_rfl) rfl #[.slice A1 l1.length c1] rfl zl ?_; (with_reducible refine (aumbryref07_Ground.calls k _ _ l1 true _ ?side1 ?side2 A13.out).mono ?_); (case side1 => exact Kd.C_below HR1.out zb); (case side2 => exact HC1.out); rintro e w62 ⟨rfl, hb⟩; refine ⟨_, rfl, ?_⟩; replace HO105 := zM (Kd.N_below (Kd.N_below HO105.out zg) hb); replace HO108 := zM (Kd.R_below (zr HO108.out) hb); replace HO111 := zM (Kd.V_below (Kd.V_below HO111.out zg) hb); replace HB := zM (below_step zb hb); (try clear hb)) | ((with_reducible refine gate_callee (f := 26) rfl ?_); refine goesL_ (some 73) rfl rfl Try.func26 (by kernel_rfl) rfl #[.slice A0 l0.length c0, .slice A1 l1.length c1, .int .i64 ji15] rfl (by (try simp only [List.map_toArray, List.map_cons, List.map_nil]); first | done | (simp only [hji15]; rfl) | rfl | (simp only [List.length_drop, List.length_take]; rfl)) ?_; (with_reducible refine (aumbryref07_Inner.calls k _ _ l0 (fun k_ => k_ < w.heap.size) _ _ l1 ji15 t128 t131 t132 _ ?side1 ?side2 ?side3 A16.out).mono ?_); (case side1 => exact Kd.C_below HR0.out zb); (case side2 => exact HC0.out); (case side3 => exact Kd.V_mk HC1.out (Kd.F_below (Kd.C_F k54_heap HR1.out) zb)); rintro e w63 ⟨v129, rfl, ho0, hb⟩; refine ⟨_, rfl, ?_⟩; replace HO105 := zM (Kd.N_elder' (Kd.N_below HO105.out zg) (Kd.R_base ho0) hb); replace HO111 := zM (Kd.V_elder' (Kd.V_below HO111.out zg) (Kd.R_base ho0) hb); have HO130 := zM (Kd.R_lower (Kd.R_new' (Kd.R_mono (ok' := fun k_ => True) ho0 (fun _ hk_ => trivial)) (Kd.R_lt (zr HO108.out))) (below_size zb)); replace HO108 := zM (Kd.R_elder' (zr HO108.out) (Kd.R_base ho0) hb); replace HB := zM (below_step zb hb); (try clear hb); (try clear ho0); obtain ⟨Ao64, co64, eo64⟩ := Kd.V_slice HO111.out; subst eo64))
        go_ret
        exact ⟨by first | rfl | (simp [errW_none, errW_some] <;> rfl) | (simp only [← hji15]; first | rfl | (simp [errW_none, errW_some] <;> rfl)) | (simp [*, errW_none, errW_some] <;> rfl), zb⟩
       ·
        rw [if_neg c54] at H
        have c54b0 : (t112 == 0) = false := zE c54
        have c54b1 : (t112 != 0) = true := zF c54
        obtain rfl := zS H
        go_enter Try.func6, Try.ntmps6
        go_wp2_with (first | ((with_reducible refine gate_callee (f := 11) rfl ?_); refine goesL_ (some 16) rfl rfl Try.func11 (by kernel_rfl) rfl #[] rfl zl ?_; (with_reducible refine (aumbrylaw07_wakes.calls k  true _ A4.out).mono ?_); rintro e w65 ⟨rfl, hb⟩; refine ⟨_, rfl, ?_⟩; replace HB := zM (below_step zb hb); (try clear hb)) | ((with_reducible refine gate_callee (f := 19) rfl ?_); refine goesL_ (some 20) rfl rfl Try.func19 (by kernel_rfl) rfl #[.slice A0 l0.length c0, .int .i64 a2] rfl zl ?_; (with_reducible refine (aumbrylaw07_few.calls _ _ l0 a2 true _ ?side1 ?side2 A6.out).mono ?_); (case side1 => exact Kd.C_below HR0.out zb); (case side2 => exact HC0.out); rintro e w' ⟨rfl, ⟨nd, rfl⟩⟩; refine ⟨_, rfl, ?_⟩) | ((with_reducible refine gate_callee (f := 21) rfl ?_); refine goesL_ (some 24) rfl rfl Try.func21 (by kernel_rfl) rfl #[.slice A0 l0.length c0] rfl zl ?_; (with_reducible refine (aumbrylaw07_rules.calls k _ _ l0 t103 _ ?side1 ?side2 A8.out).mono ?_); (case side1 => exact Kd.C_below (Kd.C_below HR0.out zb) zg); (case side2 => exact HC0.out); rintro e w66 ⟨v104, rfl, ho0, hb⟩; refine ⟨_, rfl, ?_⟩; have HO105 := zM (Kd.N_lower (Kd.N_mono (ok' := fun k_ => True) (Kd.S_N (Kd.S_bound ho0)) (fun k_ hk_ => trivial)) (below_size zb)); replace HB := zM (below_step zb hb); (try clear hb); (try clear ho0)) | ((with_reducible refine gate_callee (f := 13) rfl ?_); refine goesL_ (some 26) rfl rfl Try.func13 (by kernel_rfl) rfl #[.slice A1 l1.length c1] rfl zl ?_; (with_reducible refine (aumbryref04_Copy.calls _ _ l1 t106 _ ?side1 ?side2 A9.out).mono ?_); (case side1 => exact Kd.C_below HR1.out zb); (case side2 => exact HC1.out); rintro e w67 ⟨v107, rfl, ho0, hb⟩; refine ⟨_, rfl, ?_⟩; replace HO105 := zM (Kd.N_elder' (Kd.N_below HO105.out zg) (Kd.R_base ho0) hb); have HO108 := zM (Kd.R_lower ho0 (below_size zb)); replace HB := zM (below_step zb hb); (try clear hb); (try clear ho0); obtain ⟨Ao68, co68, eo68⟩ := Kd.N_slice HO105.out; subst eo68; obtain ⟨Ao69, co69, eo69⟩ := Kd.R_slice HO108.out; subst eo69) | ((with_reducible refine gate_callee (f := 24) rfl ?_); refine goesL_ (some 28) rfl rfl Try.func24 (by kernel_rfl) rfl #[.slice Ao68 t103.length co68, .slice Ao69 t106.length co69, .int .i64 a2] rfl zl ?_; (with_reducible refine (rewrite_Normal.calls k _ _ t103 _ _ t106 a2 t109 t112 t113 _ ?side1 ?side2 ?side3 ?side4 A10.out).mono ?_); (case side1 => exact Kd.C_below (Kd.N_reads' HO105.out).2.2 zg); (case side2 => exact (Kd.N_reads' HO105.out).2.1); (case side3 => exact Kd.C_below (Kd.R_reads' HO108.out).2.2 zg); (case side4 => exact (Kd.R_reads' HO108.out).2.1); rintro e w70 ⟨v110, rfl, ho0, hb⟩; refine ⟨_, rfl, ?_⟩; have HO111 := zM (Kd.V_lower (Kd.V_mono (ok' := fun k_ => some k_ ≠ (.slice Ao68 t103.length co68 : Value).ownBlock ∧ some k_ ≠ (.slice Ao69 t106.length co69 : Value).ownBlock) ho0 (fun k_ hk_ => ⟨(Kd.fresh' (Kd.N_lt (Kd.N_below HO105.out zg)) k_ hk_), (Kd.fresh' (Kd.R_lt (zr HO108.out)) k_ hk_)⟩)) (below_size zb)); replace HO105 := zM (Kd.N_below (Kd.N_below HO105.out zg) hb); replace HO108 := zM (Kd.R_below (zr HO108.out) hb); replace HB := zM (below_step zb hb); (try clear hb); (try clear ho0)) | ((with_reducible refine gate_callee (f := 25) rfl ?_); refine goesL_ (some 33) rfl rfl Try.func25 (by kernel_rfl) rfl #[.slice A0 l0.length c0] rfl zl ?_; (with_reducible refine (aumbryref07_Together.calls k _ _ l0 t114 _ ?side1 ?side2 A11.out).mono ?_); (case side1 => exact Kd.C_below HR0.out zb); (case side2 => exact HC0.out); rintro e w71 ⟨rfl, hb⟩; refine ⟨_, rfl, ?_⟩; replace HO105 := zM (Kd.N_below (Kd.N_below HO105.out zg) hb); replace HO108 := zM (Kd.R_below (zr HO108.out) hb); replace HO111 := zM (Kd.V_below (Kd.V_below HO111.out zg) hb); replace HB := zM (below_step zb hb); (try clear hb)) | ((with_reducible refine gate_callee (f := 23) rfl ?_); refine goesL_ (some 49) rfl rfl Try.func23 (by kernel_rfl) rfl #[.slice A1 l1.length c1] rfl zl ?_; (with_reducible refine (aumbryref07_Ground.calls k _ _ l1 true _ ?side1 ?side2 A13.out).mono ?_); (case side1 => exact Kd.C_below HR1.out zb); (case side2 => exact HC1.out); rintro e w72 ⟨rfl, hb⟩; refine ⟨_, rfl, ?_⟩; replace HO105 := zM (Kd.N_below (Kd.N_below HO105.out zg) hb); replace HO108 := zM (Kd.R_below (zr HO108.out) hb); replace HO111 := zM (Kd.V_below (Kd.V_below HO111.out zg) hb); replace HB := zM (below_step zb hb); (try clear hb)) | ((with_reducible refine gate_callee (f := 26) rfl ?_); refine goesL_ (some 73) rfl rfl Try.func26 (by kernel_rfl) rfl #[.slice A0 l0.length c0, .slice A1 l1.length c1, .int .i64 ji15] rfl (by (try simp only [List.map_toArray, List.map_cons, List.map_nil]); first | done | (simp only [hji15]; rfl) | rfl | (simp only [List.length_drop, List.length_take]; rfl)) ?_; (with_reducible refine (aumbryref07_Inner.calls k _ _ l0 (fun k_ => k_ < w.heap.size) _ _ l1 ji15 t128 t131 t132 _ ?side1 ?side2 ?side3 A16.out).mono ?_); (case side1 => exact Kd.C_below HR0.out zb); (case side2 => exact HC0.out); (case side3 => exact Kd.V_mk HC1.out (Kd.F_below (Kd.C_F k54_heap HR1.out) zb)); rintro e w73 ⟨v129, rfl, ho0, hb⟩; refine ⟨_, rfl, ?_⟩; replace HO105 := zM (Kd.N_elder' (Kd.N_below HO105.out zg) (Kd.R_base ho0) hb); replace HO111 := zM (Kd.V_elder' (Kd.V_below HO111.out zg) (Kd.R_base ho0) hb); have HO130 := zM (Kd.R_lower (Kd.R_new' (Kd.R_mono (ok' := fun k_ => True) ho0 (fun _ hk_ => trivial)) (Kd.R_lt (zr HO108.out))) (below_size zb)); replace HO108 := zM (Kd.R_elder' (zr HO108.out) (Kd.R_base ho0) hb); replace HB := zM (below_step zb hb); (try clear hb); (try clear ho0); obtain ⟨Ao74, co74, eo74⟩ := Kd.V_slice HO111.out; subst eo74))
        go_ret
        exact ⟨by first | rfl | (simp [errW_none, errW_some] <;> rfl) | (simp only [← hji15]; first | rfl | (simp [errW_none, errW_some] <;> rfl)) | (simp [*, errW_none, errW_some] <;> rfl), zb⟩
      ·
       rw [if_neg c53] at H
       have c53b0 : ((t109.length : Int) == 0) = false := zE c53
       have c53b1 : ((t109.length : Int) != 0) = true := zF c53
       have c53b2 : ¬ (t109 = []) := fun h_ => c53 (by rw [h_]; rfl)
       obtain rfl := zS H
       go_enter Try.func6, Try.ntmps6
       go_wp2_with (first | ((with_reducible refine gate_callee (f := 11) rfl ?_); refine goesL_ (some 16) rfl rfl Try.func11 (by kernel_rfl) rfl #[] rfl zl ?_; (with_reducible refine (aumbrylaw07_wakes.calls k  true _ A4.out).mono ?_); rintro e w75 ⟨rfl, hb⟩; refine ⟨_, rfl, ?_⟩; replace HB := zM (below_step zb hb); (try clear hb)) | ((with_reducible refine gate_callee (f := 19) rfl ?_); refine goesL_ (some 20) rfl rfl Try.func19 (by kernel_rfl) rfl #[.slice A0 l0.length c0, .int .i64 a2] rfl zl ?_; (with_reducible refine (aumbrylaw07_few.calls _ _ l0 a2 true _ ?side1 ?side2 A6.out).mono ?_); (case side1 => exact Kd.C_below HR0.out zb); (case side2 => exact HC0.out); rintro e w' ⟨rfl, ⟨nd, rfl⟩⟩; refine ⟨_, rfl, ?_⟩) | ((with_reducible refine gate_callee (f := 21) rfl ?_); refine goesL_ (some 24) rfl rfl Try.func21 (by kernel_rfl) rfl #[.slice A0 l0.length c0] rfl zl ?_; (with_reducible refine (aumbrylaw07_rules.calls k _ _ l0 t103 _ ?side1 ?side2 A8.out).mono ?_); (case side1 => exact Kd.C_below (Kd.C_below HR0.out zb) zg); (case side2 => exact HC0.out); rintro e w76 ⟨v104, rfl, ho0, hb⟩; refine ⟨_, rfl, ?_⟩; have HO105 := zM (Kd.N_lower (Kd.N_mono (ok' := fun k_ => True) (Kd.S_N (Kd.S_bound ho0)) (fun k_ hk_ => trivial)) (below_size zb)); replace HB := zM (below_step zb hb); (try clear hb); (try clear ho0)) | ((with_reducible refine gate_callee (f := 13) rfl ?_); refine goesL_ (some 26) rfl rfl Try.func13 (by kernel_rfl) rfl #[.slice A1 l1.length c1] rfl zl ?_; (with_reducible refine (aumbryref04_Copy.calls _ _ l1 t106 _ ?side1 ?side2 A9.out).mono ?_); (case side1 => exact Kd.C_below HR1.out zb); (case side2 => exact HC1.out); rintro e w77 ⟨v107, rfl, ho0, hb⟩; refine ⟨_, rfl, ?_⟩; replace HO105 := zM (Kd.N_elder' (Kd.N_below HO105.out zg) (Kd.R_base ho0) hb); have HO108 := zM (Kd.R_lower ho0 (below_size zb)); replace HB := zM (below_step zb hb); (try clear hb); (try clear ho0); obtain ⟨Ao78, co78, eo78⟩ := Kd.N_slice HO105.out; subst eo78; obtain ⟨Ao79, co79, eo79⟩ := Kd.R_slice HO108.out; subst eo79) | ((with_reducible refine gate_callee (f := 24) rfl ?_); refine goesL_ (some 28) rfl rfl Try.func24 (by kernel_rfl) rfl #[.slice Ao78 t103.length co78, .slice Ao79 t106.length co79, .int .i64 a2] rfl zl ?_; (with_reducible refine (rewrite_Normal.calls k _ _ t103 _ _ t106 a2 t109 t112 t113 _ ?side1 ?side2 ?side3 ?side4 A10.out).mono ?_); (case side1 => exact Kd.C_below (Kd.N_reads' HO105.out).2.2 zg); (case side2 => exact (Kd.N_reads' HO105.out).2.1); (case side3 => exact Kd.C_below (Kd.R_reads' HO108.out).2.2 zg); (case side4 => exact (Kd.R_reads' HO108.out).2.1); rintro e w80 ⟨v110, rfl, ho0, hb⟩; refine ⟨_, rfl, ?_⟩; have HO111 := zM (Kd.V_lower (Kd.V_mono (ok' := fun k_ => some k_ ≠ (.slice Ao78 t103.length co78 : Value).ownBlock ∧ some k_ ≠ (.slice Ao79 t106.length co79 : Value).ownBlock) ho0 (fun k_ hk_ => ⟨(Kd.fresh' (Kd.N_lt (Kd.N_below HO105.out zg)) k_ hk_), (Kd.fresh' (Kd.R_lt (zr HO108.out)) k_ hk_)⟩)) (below_size zb)); replace HO105 := zM (Kd.N_below (Kd.N_below HO105.out zg) hb); replace HO108 := zM (Kd.R_below (zr HO108.out) hb); replace HB := zM (below_step zb hb); (try clear hb); (try clear ho0)) | ((with_reducible refine gate_callee (f := 25) rfl ?_); refine goesL_ (some 33) rfl rfl Try.func25 (by kernel_rfl) rfl #[.slice A0 l0.length c0] rfl zl ?_; (with_reducible refine (aumbryref07_Together.calls k _ _ l0 t114 _ ?side1 ?side2 A11.out).mono ?_); (case side1 => exact Kd.C_below HR0.out zb); (case side2 => exact HC0.out); rintro e w81 ⟨rfl, hb⟩; refine ⟨_, rfl, ?_⟩; replace HO105 := zM (Kd.N_below (Kd.N_below HO105.out zg) hb); replace HO108 := zM (Kd.R_below (zr HO108.out) hb); replace HO111 := zM (Kd.V_below (Kd.V_below HO111.out zg) hb); replace HB := zM (below_step zb hb); (try clear hb)) | ((with_reducible refine gate_callee (f := 23) rfl ?_); refine goesL_ (some 49) rfl rfl Try.func23 (by kernel_rfl) rfl #[.slice A1 l1.length c1] rfl zl ?_; (with_reducible refine (aumbryref07_Ground.calls k _ _ l1 true _ ?side1 ?side2 A13.out).mono ?_); (case side1 => exact Kd.C_below HR1.out zb); (case side2 => exact HC1.out); rintro e w82 ⟨rfl, hb⟩; refine ⟨_, rfl, ?_⟩; replace HO105 := zM (Kd.N_below (Kd.N_below HO105.out zg) hb); replace HO108 := zM (Kd.R_below (zr HO108.out) hb); replace HO111 := zM (Kd.V_below (Kd.V_below HO111.out zg) hb); replace HB := zM (below_step zb hb); (try clear hb)) | ((with_reducible refine gate_callee (f := 26) rfl ?_); refine goesL_ (some 73) rfl rfl Try.func26 (by kernel_rfl) rfl #[.slice A0 l0.length c0, .slice A1 l1.length c1, .int .i64 ji15] rfl (by (try simp only [List.map_toArray, List.map_cons, List.map_nil]); first | done | (simp only [hji15]; rfl) | rfl | (simp only [List.length_drop, List.length_take]; rfl)) ?_; (with_reducible refine (aumbryref07_Inner.calls k _ _ l0 (fun k_ => k_ < w.heap.size) _ _ l1 ji15 t128 t131 t132 _ ?side1 ?side2 ?side3 A16.out).mono ?_); (case side1 => exact Kd.C_below HR0.out zb); (case side2 => exact HC0.out); (case side3 => exact Kd.V_mk HC1.out (Kd.F_below (Kd.C_F k54_heap HR1.out) zb)); rintro e w83 ⟨v129, rfl, ho0, hb⟩; refine ⟨_, rfl, ?_⟩; replace HO105 := zM (Kd.N_elder' (Kd.N_below HO105.out zg) (Kd.R_base ho0) hb); replace HO111 := zM (Kd.V_elder' (Kd.V_below HO111.out zg) (Kd.R_base ho0) hb); have HO130 := zM (Kd.R_lower (Kd.R_new' (Kd.R_mono (ok' := fun k_ => True) ho0 (fun _ hk_ => trivial)) (Kd.R_lt (zr HO108.out))) (below_size zb)); replace HO108 := zM (Kd.R_elder' (zr HO108.out) (Kd.R_base ho0) hb); replace HB := zM (below_step zb hb); (try clear hb); (try clear ho0); obtain ⟨Ao84, co84, eo84⟩ := Kd.V_slice HO111.out; subst eo84))
       go_ret
       exact ⟨by first | rfl | (simp [errW_none, errW_some] <;> rfl) | (simp only [← hji15]; first | rfl | (simp [errW_none, errW_some] <;> rfl)) | (simp [*, errW_none, errW_some] <;> rfl), zb⟩
    ·
     replace c14 := zI c14
     subst c14
     rw [if_neg (show ¬ (false = true) by decide)] at H
     replace H := zB H
     obtain ⟨⟨t116, t119, t122, t123, t126⟩, A850, H⟩ := H
     try dsimp only at H
     have A85 := zM A850
     clear A850
     by_cases c86 : t113 = t126
     ·
      rw [if_pos c86] at H
      have c86b0 : (t113 == t126) = true := zG c86
      have c86b1 : (t113 != t126) = false := zH c86
      clear c86
      by_cases c87 : (t109.length : Int) = 0
      ·
       rw [if_pos c87] at H
       have c87b0 : ((t109.length : Int) == 0) = true := zG c87
       have c87b1 : ((t109.length : Int) != 0) = false := zH c87
       clear c87
       obtain rfl := zS H
       go_enter Try.func6, Try.ntmps6
       go_wp2_with (first | ((with_reducible refine gate_callee (f := 11) rfl ?_); refine goesL_ (some 16) rfl rfl Try.func11 (by kernel_rfl) rfl #[] rfl zl ?_; (with_reducible refine (aumbrylaw07_wakes.calls k  true _ A4.out).mono ?_); rintro e w88 ⟨rfl, hb⟩; refine ⟨_, rfl, ?_⟩; replace HB := zM (below_step zb hb); (try clear hb)) | ((with_reducible refine gate_callee (f := 19) rfl ?_); refine goesL_ (some 20) rfl rfl Try.func19 (by kernel_rfl) rfl #[.slice A0 l0.length c0, .int .i64 a2] rfl zl ?_; (with_reducible refine (aumbrylaw07_few.calls _ _ l0 a2 true _ ?side1 ?side2 A6.out).mono ?_); (case side1 => exact Kd.C_below HR0.out zb); (case side2 => exact HC0.out); rintro e w' ⟨rfl, ⟨nd, rfl⟩⟩; refine ⟨_, rfl, ?_⟩; (try (rw [drewN_self w88]; generalize hq_ : World.drewN w88 _ = w88; have n0_ : Aside0 (Below w.heap.size w w88) := ⟨by rw [← hq_]; exact zb⟩; clear HB hq_; have HB := n0_; clear n0_))) | ((with_reducible refine gate_callee (f := 21) rfl ?_); refine goesL_ (some 24) rfl rfl Try.func21 (by kernel_rfl) rfl #[.slice A0 l0.length c0] rfl zl ?_; (with_reducible refine (aumbrylaw07_rules.calls k _ _ l0 t103 _ ?side1 ?side2 A8.out).mono ?_); (case side1 => exact Kd.C_below HR0.out zb); (case side2 => exact HC0.out); rintro e w89 ⟨v104, rfl, ho0, hb⟩; refine ⟨_, rfl, ?_⟩; have HO105 := zM (Kd.N_lower (Kd.N_mono (ok' := fun k_ => True) (Kd.S_N (Kd.S_bound ho0)) (fun k_ hk_ => trivial)) (below_size zb)); replace HB := zM (below_step zb hb); (try clear hb); (try clear ho0)) | ((with_reducible refine gate_callee (f := 13) rfl ?_); refine goesL_ (some 26) rfl rfl Try.func13 (by kernel_rfl) rfl #[.slice A1 l1.length c1] rfl zl ?_; (with_reducible refine (aumbryref04_Copy.calls _ _ l1 t106 _ ?side1 ?side2 A9.out).mono ?_); (case side1 => exact Kd.C_below HR1.out zb); (case side2 => exact HC1.out); rintro e w90 ⟨v107, rfl, ho0, hb⟩; refine ⟨_, rfl, ?_⟩; replace HO105 := zM (Kd.N_elder' (Kd.N_below HO105.out zg) (Kd.R_base ho0) hb); have HO108 := zM (Kd.R_lower ho0 (below_size zb)); replace HB := zM (below_step zb hb); (try clear hb); (try clear ho0); obtain ⟨Ao91, co91, eo91⟩ := Kd.N_slice HO105.out; subst eo91; obtain ⟨Ao92, co92, eo92⟩ := Kd.R_slice HO108.out; subst eo92) | ((with_reducible refine gate_callee (f := 24) rfl ?_); refine goesL_ (some 28) rfl rfl Try.func24 (by kernel_rfl) rfl #[.slice Ao91 t103.length co91, .slice Ao92 t106.length co92, .int .i64 a2] rfl zl ?_; (with_reducible refine (rewrite_Normal.calls k _ _ t103 _ _ t106 a2 t109 t112 t113 _ ?side1 ?side2 ?side3 ?side4 A10.out).mono ?_); (case side1 => exact Kd.C_below (Kd.N_reads' HO105.out).2.2 zg); (case side2 => exact (Kd.N_reads' HO105.out).2.1); (case side3 => exact Kd.C_below (Kd.R_reads' HO108.out).2.2 zg); (case side4 => exact (Kd.R_reads' HO108.out).2.1); rintro e w93 ⟨v110, rfl, ho0, hb⟩; refine ⟨_, rfl, ?_⟩; have HO111 := zM (Kd.V_lower (Kd.V_mono (ok' := fun k_ => some k_ ≠ (.slice Ao91 t103.length co91 : Value).ownBlock ∧ some k_ ≠ (.slice Ao92 t106.length co92 : Value).ownBlock) ho0 (fun k_ hk_ => ⟨(Kd.fresh' (Kd.N_lt (Kd.N_below HO105.out zg)) k_ hk_), (Kd.fresh' (Kd.R_lt (zr HO108.out)) k_ hk_)⟩)) (below_size zb)); replace HO105 := zM (Kd.N_below (Kd.N_below HO105.out zg) hb); replace HO108 := zM (Kd.R_below (zr HO108.out) hb); replace HB := zM (below_step zb hb); (try clear hb); (try clear ho0)) | ((with_reducible refine gate_callee (f := 25) rfl ?_); refine goesL_ (some 33) rfl rfl Try.func25 (by kernel_rfl) rfl #[.slice A0 l0.length c0] rfl zl ?_; (with_reducible refine (aumbryref07_Together.calls k _ _ l0 t114 _ ?side1 ?side2 A11.out).mono ?_); (case side1 => exact Kd.C_below HR0.out zb); (case side2 => exact HC0.out); rintro e w94 ⟨rfl, hb⟩; refine ⟨_, rfl, ?_⟩; replace HO105 := zM (Kd.N_below (Kd.N_below HO105.out zg) hb); replace HO108 := zM (Kd.R_below (zr HO108.out) hb); replace HO111 := zM (Kd.V_below (Kd.V_below HO111.out zg) hb); replace HB := zM (below_step zb hb); (try clear hb)) | ((with_reducible refine gate_callee (f := 23) rfl ?_); refine goesL_ (some 49) rfl rfl Try.func23 (by kernel_rfl) rfl #[.slice A1 l1.length c1] rfl zl ?_; (with_reducible refine (aumbryref07_Ground.calls k _ _ l1 false _ ?side1 ?side2 A13.out).mono ?_); (case side1 => exact Kd.C_below HR1.out zb); (case side2 => exact HC1.out); rintro e w95 ⟨rfl, hb⟩; refine ⟨_, rfl, ?_⟩; replace HO105 := zM (Kd.N_below (Kd.N_below HO105.out zg) hb); replace HO108 := zM (Kd.R_below (zr HO108.out) hb); replace HO111 := zM (Kd.V_below (Kd.V_below HO111.out zg) hb); replace HB := zM (below_step zb hb); (try clear hb)) | ((with_reducible refine gate_callee (f := 14) rfl ?_); refine goesL_ (some 53) rfl rfl Try.func14 (by kernel_rfl) rfl #[.slice A1 l1.length c1] rfl zl ?_; (with_reducible refine (aumbryref07_Start.calls k _ _ l1 t116 t119 t122 t123 t126 _ ?side1 ?side2 A85.out).mono ?_); (case side1 => exact Kd.C_below HR1.out zb); (case side2 => exact HC1.out); rintro e w96 ⟨v117, v120, v124, rfl, ho0, ho1, ho2, hb⟩; refine ⟨_, rfl, ?_⟩; replace HO111 := zM (Kd.V_mono (Kd.V_told (Kd.V_told (Kd.V_told (Kd.V_old (Kd.V_below HO111.out zg) hb) (Kd.N_base ho0)) (Kd.N_base ho1)) (Kd.R_base ho2)) (fun _ h_ => h_.1)); have HO118 := zM (Kd.N_lower (Kd.N_mono (ok' := fun k_ => some k_ ≠ (v120 : Value).ownBlock ∧ some k_ ≠ (v124 : Value).ownBlock ∧ some k_ ≠ (.slice Ao91 t103.length co91 : Value).ownBlock ∧ some k_ ≠ (.slice Ao92 t106.length co92 : Value).ownBlock) ho0 (fun k_ hk_ => ⟨hk_.2.1, hk_.2.2, (Kd.fresh' (Kd.N_lt (Kd.N_below HO105.out zg)) k_ hk_.1), (Kd.fresh' (Kd.R_lt (zr HO108.out)) k_ hk_.1)⟩)) (below_size zb)); have HO121 := zM (Kd.N_lower (Kd.N_mono (ok' := fun k_ => some k_ ≠ (v117 : Value).ownBlock ∧ some k_ ≠ (v124 : Value).ownBlock ∧ some k_ ≠ (.slice Ao91 t103.length co91 : Value).ownBlock ∧ some k_ ≠ (.slice Ao92 t106.length co92 : Value).ownBlock) ho1 (fun k_ hk_ => ⟨hk_.2.1, hk_.2.2, (Kd.fresh' (Kd.N_lt (Kd.N_below HO105.out zg)) k_ hk_.1), (Kd.fresh' (Kd.R_lt (zr HO108.out)) k_ hk_.1)⟩)) (below_size zb)); replace HO105 := zM (Kd.N_mono (Kd.N_told (Kd.N_told (Kd.N_told (Kd.N_old (Kd.N_below HO105.out zg) hb) (Kd.N_base ho0)) (Kd.N_base ho1)) (Kd.R_base ho2)) (fun _ h_ => h_.1)); replace HO108 := zM (Kd.R_below (zr HO108.out) hb); have HO125 := zM (Kd.R_lower (Kd.R_mono (ok' := fun k_ => True) ho2 (fun _ hk_ => trivial)) (below_size zb)); replace HB := zM (below_step zb hb); (try clear hb); (try clear ho0); (try clear ho1); (try clear ho2)) | ((with_reducible refine gate_dst (N := 11) rfl ?_); (try (refine gate_guard (by rfl) ?_; dsimp only)); refine box_event ?hg (N := 11) ?hd (cs := #[.slice none 0 0, .slice none 0 0, .int .i64 0, .slice none 0 0]) (t := 28) ?hr ?_; (case hd => rfl); (case hg => rfl); (case hr => first | (go_simp; done) | (go_simp; rfl)); intro gb127 hg w97 hbox hb; replace HO105 := zM (Kd.N_below (Kd.N_elderB (Kd.N_below HO105.out zg) gb127 (Nat.le_of_eq hg.symm)) hb); replace HO108 := zM (Kd.R_below (zr HO108.out) hb); replace HO111 := zM (Kd.V_below (Kd.V_elderB (Kd.V_below HO111.out zg) gb127 (Nat.le_of_eq hg.symm)) hb); replace HO118 := zM (Kd.N_below (Kd.N_elderB (Kd.N_below HO118.out zg) gb127 (Nat.le_of_eq hg.symm)) hb); replace HO121 := zM (Kd.N_below (Kd.N_elderB (Kd.N_below HO121.out zg) gb127 (Nat.le_of_eq hg.symm)) hb); replace HO125 := zM (Kd.R_below (zr HO125.out) hb); have BK127 := zM (hbox); have GW127 := zM (zh hg : w.heap.size ≤ gb127); have GE127 := zM (zh hg : w.heap.size ≤ gb127); replace HB := zM (below_step zb hb); clear hb hbox hg; obtain ⟨Ao98, co98, eo98⟩ := Kd.N_slice HO118.out; subst eo98; have hcz99_0 : w97.cell? ⟨gb127, 0, none⟩ = some (.slice none 0 0) := (zX BK127.out 0).trans rfl; have hcz99_1 : w97.cell? ⟨gb127, 1, none⟩ = some (.slice none 0 0) := (zX BK127.out 1).trans rfl; have hcz99_2 : w97.cell? ⟨gb127, 2, none⟩ = some (.int .i64 0) := (zX BK127.out 2).trans rfl; have hcz99_3 : w97.cell? ⟨gb127, 3, none⟩ = some (.slice none 0 0) := (zX BK127.out 3).trans rfl; have hfz99_0 := zY BK127.out 0; have hfz99_1 := zY BK127.out 1; have hfz99_2 := zY BK127.out 2; have hfz99_3 := zY BK127.out 3; obtain ⟨Ao100, co100, eo100⟩ := Kd.N_slice HO121.out; subst eo100; obtain ⟨Ao101, co101, eo101⟩ := Kd.R_slice HO125.out; subst eo101; obtain ⟨Ao102, co102, eo102⟩ := Kd.V_slice HO111.out; subst eo102))
       go_ret
       exact ⟨zw, zb⟩
      ·
       rw [if_neg c87] at H
       have c87b0 : ((t109.length : Int) == 0) = false := zE c87
       have c87b1 : ((t109.length : Int) != 0) = true := zF c87
       have c87b2 : ¬ (t109 = []) := fun h_ => c87 (by rw [h_]; rfl)
       exact absurd ((zS H).trans HRT.out) (by decide)
     ·
      rw [if_neg c86] at H
      have c86b0 : (t113 == t126) = false := zE c86
      have c86b1 : (t113 != t126) = true := zF c86
      exact absurd ((zS H).trans HRT.out) (by decide)
   ·
    rw [if_neg c12] at H
    have c12b0 : (t114 == 0) = false := zE c12
    have c12b1 : (t114 != 0) = true := zF c12
    by_cases c132 : t113 = t114
    ·
     rw [if_pos c132] at H
     have c132b0 : (t113 == t114) = true := zG c132
     have c132b1 : (t113 != t114) = false := zH c132
     clear c132
     by_cases c133 : (t109.length : Int) = 0
     ·
      rw [if_pos c133] at H
      have c133b0 : ((t109.length : Int) == 0) = true := zG c133
      have c133b1 : ((t109.length : Int) != 0) = false := zH c133
      clear c133
      obtain rfl := zS H
      go_enter Try.func6, Try.ntmps6
      go_wp2_with (first | ((with_reducible refine gate_callee (f := 11) rfl ?_); refine goesL_ (some 16) rfl rfl Try.func11 (by kernel_rfl) rfl #[] rfl zl ?_; (with_reducible refine (aumbrylaw07_wakes.calls k  true _ A4.out).mono ?_); rintro e w134 ⟨rfl, hb⟩; refine ⟨_, rfl, ?_⟩; replace HB := zM (below_step zb hb); (try clear hb)) | ((with_reducible refine gate_callee (f := 19) rfl ?_); refine goesL_ (some 20) rfl rfl Try.func19 (by kernel_rfl) rfl #[.slice A0 l0.length c0, .int .i64 a2] rfl zl ?_; (with_reducible refine (aumbrylaw07_few.calls _ _ l0 a2 true _ ?side1 ?side2 A6.out).mono ?_); (case side1 => exact Kd.C_below HR0.out zb); (case side2 => exact HC0.out); rintro e w' ⟨rfl, ⟨nd, rfl⟩⟩; refine ⟨_, rfl, ?_⟩) | ((with_reducible refine gate_callee (f := 21) rfl ?_); refine goesL_ (some 24) rfl rfl Try.func21 (by kernel_rfl) rfl #[.slice A0 l0.length c0] rfl zl ?_; (with_reducible refine (aumbrylaw07_rules.calls k _ _ l0 t103 _ ?side1 ?side2 A8.out).mono ?_); (case side1 => exact Kd.C_below (Kd.C_below HR0.out zb) zg); (case side2 => exact HC0.out); rintro e w135 ⟨v104, rfl, ho0, hb⟩; refine ⟨_, rfl, ?_⟩; have HO105 := zM (Kd.N_lower (Kd.N_mono (ok' := fun k_ => True) (Kd.S_N (Kd.S_bound ho0)) (fun k_ hk_ => trivial)) (below_size zb)); replace HB := zM (below_step zb hb); (try clear hb); (try clear ho0)) | ((with_reducible refine gate_callee (f := 13) rfl ?_); refine goesL_ (some 26) rfl rfl Try.func13 (by kernel_rfl) rfl #[.slice A1 l1.length c1] rfl zl ?_; (with_reducible refine (aumbryref04_Copy.calls _ _ l1 t106 _ ?side1 ?side2 A9.out).mono ?_); (case side1 => exact Kd.C_below HR1.out zb); (case side2 => exact HC1.out); rintro e w136 ⟨v107, rfl, ho0, hb⟩; refine ⟨_, rfl, ?_⟩; replace HO105 := zM (Kd.N_elder' (Kd.N_below HO105.out zg) (Kd.R_base ho0) hb); have HO108 := zM (Kd.R_lower ho0 (below_size zb)); replace HB := zM (below_step zb hb); (try clear hb); (try clear ho0); obtain ⟨Ao137, co137, eo137⟩ := Kd.N_slice HO105.out; subst eo137; obtain ⟨Ao138, co138, eo138⟩ := Kd.R_slice HO108.out; subst eo138) | ((with_reducible refine gate_callee (f := 24) rfl ?_); refine goesL_ (some 28) rfl rfl Try.func24 (by kernel_rfl) rfl #[.slice Ao137 t103.length co137, .slice Ao138 t106.length co138, .int .i64 a2] rfl zl ?_; (with_reducible refine (rewrite_Normal.calls k _ _ t103 _ _ t106 a2 t109 t112 t113 _ ?side1 ?side2 ?side3 ?side4 A10.out).mono ?_); (case side1 => exact Kd.C_below (Kd.N_reads' HO105.out).2.2 zg); (case side2 => exact (Kd.N_reads' HO105.out).2.1); (case side3 => exact Kd.C_below (Kd.R_reads' HO108.out).2.2 zg); (case side4 => exact (Kd.R_reads' HO108.out).2.1); rintro e w139 ⟨v110, rfl, ho0, hb⟩; refine ⟨_, rfl, ?_⟩; have HO111 := zM (Kd.V_lower (Kd.V_mono (ok' := fun k_ => some k_ ≠ (.slice Ao137 t103.length co137 : Value).ownBlock ∧ some k_ ≠ (.slice Ao138 t106.length co138 : Value).ownBlock) ho0 (fun k_ hk_ => ⟨(Kd.fresh' (Kd.N_lt (Kd.N_below HO105.out zg)) k_ hk_), (Kd.fresh' (Kd.R_lt (zr HO108.out)) k_ hk_)⟩)) (below_size zb)); replace HO105 := zM (Kd.N_below (Kd.N_below HO105.out zg) hb); replace HO108 := zM (Kd.R_below (zr HO108.out) hb); replace HB := zM (below_step zb hb); (try clear hb); (try clear ho0)) | ((with_reducible refine gate_callee (f := 25) rfl ?_); refine goesL_ (some 33) rfl rfl Try.func25 (by kernel_rfl) rfl #[.slice A0 l0.length c0] rfl zl ?_; (with_reducible refine (aumbryref07_Together.calls k _ _ l0 t114 _ ?side1 ?side2 A11.out).mono ?_); (case side1 => exact Kd.C_below HR0.out zb); (case side2 => exact HC0.out); rintro e w140 ⟨rfl, hb⟩; refine ⟨_, rfl, ?_⟩; replace HO105 := zM (Kd.N_below (Kd.N_below HO105.out zg) hb); replace HO108 := zM (Kd.R_below (zr HO108.out) hb); replace HO111 := zM (Kd.V_below (Kd.V_below HO111.out zg) hb); replace HB := zM (below_step zb hb); (try clear hb); obtain ⟨Ao141, co141, eo141⟩ := Kd.V_slice HO111.out; subst eo141))
      go_ret
      exact ⟨zw, zb⟩
     ·
      rw [if_neg c133] at H
      have c133b0 : ((t109.length : Int) == 0) = false := zE c133
      have c133b1 : ((t109.length : Int) != 0) = true := zF c133
      have c133b2 : ¬ (t109 = []) := fun h_ => c133 (by rw [h_]; rfl)
      obtain rfl := zS H
      go_enter Try.func6, Try.ntmps6
      go_wp2_with (first | ((with_reducible refine gate_callee (f := 11) rfl ?_); refine goesL_ (some 16) rfl rfl Try.func11 (by kernel_rfl) rfl #[] rfl zl ?_; (with_reducible refine (aumbrylaw07_wakes.calls k  true _ A4.out).mono ?_); rintro e w142 ⟨rfl, hb⟩; refine ⟨_, rfl, ?_⟩; replace HB := zM (below_step zb hb); (try clear hb)) | ((with_reducible refine gate_callee (f := 19) rfl ?_); refine goesL_ (some 20) rfl rfl Try.func19 (by kernel_rfl) rfl #[.slice A0 l0.length c0, .int .i64 a2] rfl zl ?_; (with_reducible refine (aumbrylaw07_few.calls _ _ l0 a2 true _ ?side1 ?side2 A6.out).mono ?_); (case side1 => exact Kd.C_below HR0.out zb); (case side2 => exact HC0.out); rintro e w' ⟨rfl, ⟨nd, rfl⟩⟩; refine ⟨_, rfl, ?_⟩) | ((with_reducible refine gate_callee (f := 21) rfl ?_); refine goesL_ (some 24) rfl rfl Try.func21 (by kernel_rfl) rfl #[.slice A0 l0.length c0] rfl zl ?_; (with_reducible refine (aumbrylaw07_rules.calls k _ _ l0 t103 _ ?side1 ?side2 A8.out).mono ?_); (case side1 => exact Kd.C_below (Kd.C_below HR0.out zb) zg); (case side2 => exact HC0.out); rintro e w143 ⟨v104, rfl, ho0, hb⟩; refine ⟨_, rfl, ?_⟩; have HO105 := zM (Kd.N_lower (Kd.N_mono (ok' := fun k_ => True) (Kd.S_N (Kd.S_bound ho0)) (fun k_ hk_ => trivial)) (below_size zb)); replace HB := zM (below_step zb hb); (try clear hb); (try clear ho0)) | ((with_reducible refine gate_callee (f := 13) rfl ?_); refine goesL_ (some 26) rfl rfl Try.func13 (by kernel_rfl) rfl #[.slice A1 l1.length c1] rfl zl ?_; (with_reducible refine (aumbryref04_Copy.calls _ _ l1 t106 _ ?side1 ?side2 A9.out).mono ?_); (case side1 => exact Kd.C_below HR1.out zb); (case side2 => exact HC1.out); rintro e w144 ⟨v107, rfl, ho0, hb⟩; refine ⟨_, rfl, ?_⟩; replace HO105 := zM (Kd.N_elder' (Kd.N_below HO105.out zg) (Kd.R_base ho0) hb); have HO108 := zM (Kd.R_lower ho0 (below_size zb)); replace HB := zM (below_step zb hb); (try clear hb); (try clear ho0); obtain ⟨Ao145, co145, eo145⟩ := Kd.N_slice HO105.out; subst eo145; obtain ⟨Ao146, co146, eo146⟩ := Kd.R_slice HO108.out; subst eo146) | ((with_reducible refine gate_callee (f := 24) rfl ?_); refine goesL_ (some 28) rfl rfl Try.func24 (by kernel_rfl) rfl #[.slice Ao145 t103.length co145, .slice Ao146 t106.length co146, .int .i64 a2] rfl zl ?_; (with_reducible refine (rewrite_Normal.calls k _ _ t103 _ _ t106 a2 t109 t112 t113 _ ?side1 ?side2 ?side3 ?side4 A10.out).mono ?_); (case side1 => exact Kd.C_below (Kd.N_reads' HO105.out).2.2 zg); (case side2 => exact (Kd.N_reads' HO105.out).2.1); (case side3 => exact Kd.C_below (Kd.R_reads' HO108.out).2.2 zg); (case side4 => exact (Kd.R_reads' HO108.out).2.1); rintro e w147 ⟨v110, rfl, ho0, hb⟩; refine ⟨_, rfl, ?_⟩; have HO111 := zM (Kd.V_lower (Kd.V_mono (ok' := fun k_ => some k_ ≠ (.slice Ao145 t103.length co145 : Value).ownBlock ∧ some k_ ≠ (.slice Ao146 t106.length co146 : Value).ownBlock) ho0 (fun k_ hk_ => ⟨(Kd.fresh' (Kd.N_lt (Kd.N_below HO105.out zg)) k_ hk_), (Kd.fresh' (Kd.R_lt (zr HO108.out)) k_ hk_)⟩)) (below_size zb)); replace HO105 := zM (Kd.N_below (Kd.N_below HO105.out zg) hb); replace HO108 := zM (Kd.R_below (zr HO108.out) hb); replace HB := zM (below_step zb hb); (try clear hb); (try clear ho0)) | ((with_reducible refine gate_callee (f := 25) rfl ?_); refine goesL_ (some 33) rfl rfl Try.func25 (by kernel_rfl) rfl #[.slice A0 l0.length c0] rfl zl ?_; (with_reducible refine (aumbryref07_Together.calls k _ _ l0 t114 _ ?side1 ?side2 A11.out).mono ?_); (case side1 => exact Kd.C_below HR0.out zb); (case side2 => exact HC0.out); rintro e w148 ⟨rfl, hb⟩; refine ⟨_, rfl, ?_⟩; replace HO105 := zM (Kd.N_below (Kd.N_below HO105.out zg) hb); replace HO108 := zM (Kd.R_below (zr HO108.out) hb); replace HO111 := zM (Kd.V_below (Kd.V_below HO111.out zg) hb); replace HB := zM (below_step zb hb); (try clear hb); obtain ⟨Ao149, co149, eo149⟩ := Kd.V_slice HO111.out; subst eo149))
      go_ret
      exact ⟨zw, zb⟩
    ·
     rw [if_neg c132] at H
     have c132b0 : (t113 == t114) = false := zE c132
     have c132b1 : (t113 != t114) = true := zF c132
     obtain rfl := zS H
     go_enter Try.func6, Try.ntmps6
     go_wp2_with (first | ((with_reducible refine gate_callee (f := 11) rfl ?_); refine goesL_ (some 16) rfl rfl Try.func11 (by kernel_rfl) rfl #[] rfl zl ?_; (with_reducible refine (aumbrylaw07_wakes.calls k  true _ A4.out).mono ?_); rintro e w150 ⟨rfl, hb⟩; refine ⟨_, rfl, ?_⟩; replace HB := zM (below_step zb hb); (try clear hb)) | ((with_reducible refine gate_callee (f := 19) rfl ?_); refine goesL_ (some 20) rfl rfl Try.func19 (by kernel_rfl) rfl #[.slice A0 l0.length c0, .int .i64 a2] rfl zl ?_; (with_reducible refine (aumbrylaw07_few.calls _ _ l0 a2 true _ ?side1 ?side2 A6.out).mono ?_); (case side1 => exact Kd.C_below HR0.out zb); (case side2 => exact HC0.out); rintro e w' ⟨rfl, ⟨nd, rfl⟩⟩; refine ⟨_, rfl, ?_⟩) | ((with_reducible refine gate_callee (f := 21) rfl ?_); refine goesL_ (some 24) rfl rfl Try.func21 (by kernel_rfl) rfl #[.slice A0 l0.length c0] rfl zl ?_; (with_reducible refine (aumbrylaw07_rules.calls k _ _ l0 t103 _ ?side1 ?side2 A8.out).mono ?_); (case side1 => exact Kd.C_below (Kd.C_below HR0.out zb) zg); (case side2 => exact HC0.out); rintro e w151 ⟨v104, rfl, ho0, hb⟩; refine ⟨_, rfl, ?_⟩; have HO105 := zM (Kd.N_lower (Kd.N_mono (ok' := fun k_ => True) (Kd.S_N (Kd.S_bound ho0)) (fun k_ hk_ => trivial)) (below_size zb)); replace HB := zM (below_step zb hb); (try clear hb); (try clear ho0)) | ((with_reducible refine gate_callee (f := 13) rfl ?_); refine goesL_ (some 26) rfl rfl Try.func13 (by kernel_rfl) rfl #[.slice A1 l1.length c1] rfl zl ?_; (with_reducible refine (aumbryref04_Copy.calls _ _ l1 t106 _ ?side1 ?side2 A9.out).mono ?_); (case side1 => exact Kd.C_below HR1.out zb); (case side2 => exact HC1.out); rintro e w152 ⟨v107, rfl, ho0, hb⟩; refine ⟨_, rfl, ?_⟩; replace HO105 := zM (Kd.N_elder' (Kd.N_below HO105.out zg) (Kd.R_base ho0) hb); have HO108 := zM (Kd.R_lower ho0 (below_size zb)); replace HB := zM (below_step zb hb); (try clear hb); (try clear ho0); obtain ⟨Ao153, co153, eo153⟩ := Kd.N_slice HO105.out; subst eo153; obtain ⟨Ao154, co154, eo154⟩ := Kd.R_slice HO108.out; subst eo154) | ((with_reducible refine gate_callee (f := 24) rfl ?_); refine goesL_ (some 28) rfl rfl Try.func24 (by kernel_rfl) rfl #[.slice Ao153 t103.length co153, .slice Ao154 t106.length co154, .int .i64 a2] rfl zl ?_; (with_reducible refine (rewrite_Normal.calls k _ _ t103 _ _ t106 a2 t109 t112 t113 _ ?side1 ?side2 ?side3 ?side4 A10.out).mono ?_); (case side1 => exact Kd.C_below (Kd.N_reads' HO105.out).2.2 zg); (case side2 => exact (Kd.N_reads' HO105.out).2.1); (case side3 => exact Kd.C_below (Kd.R_reads' HO108.out).2.2 zg); (case side4 => exact (Kd.R_reads' HO108.out).2.1); rintro e w155 ⟨v110, rfl, ho0, hb⟩; refine ⟨_, rfl, ?_⟩; have HO111 := zM (Kd.V_lower (Kd.V_mono (ok' := fun k_ => some k_ ≠ (.slice Ao153 t103.length co153 : Value).ownBlock ∧ some k_ ≠ (.slice Ao154 t106.length co154 : Value).ownBlock) ho0 (fun k_ hk_ => ⟨(Kd.fresh' (Kd.N_lt (Kd.N_below HO105.out zg)) k_ hk_), (Kd.fresh' (Kd.R_lt (zr HO108.out)) k_ hk_)⟩)) (below_size zb)); replace HO105 := zM (Kd.N_below (Kd.N_below HO105.out zg) hb); replace HO108 := zM (Kd.R_below (zr HO108.out) hb); replace HB := zM (below_step zb hb); (try clear hb); (try clear ho0)) | ((with_reducible refine gate_callee (f := 25) rfl ?_); refine goesL_ (some 33) rfl rfl Try.func25 (by kernel_rfl) rfl #[.slice A0 l0.length c0] rfl zl ?_; (with_reducible refine (aumbryref07_Together.calls k _ _ l0 t114 _ ?side1 ?side2 A11.out).mono ?_); (case side1 => exact Kd.C_below HR0.out zb); (case side2 => exact HC0.out); rintro e w156 ⟨rfl, hb⟩; refine ⟨_, rfl, ?_⟩; replace HO105 := zM (Kd.N_below (Kd.N_below HO105.out zg) hb); replace HO108 := zM (Kd.R_below (zr HO108.out) hb); replace HO111 := zM (Kd.V_below (Kd.V_below HO111.out zg) hb); replace HB := zM (below_step zb hb); (try clear hb)))
     go_ret
     exact ⟨zw, zb⟩
  ·
   replace c7 := zI c7
   subst c7
   rw [if_neg (show ¬ (false = true) by decide)] at H
   obtain rfl := zS H
   go_enter Try.func6, Try.ntmps6
   go_wp2_with (first | ((with_reducible refine gate_callee (f := 11) rfl ?_); refine goesL_ (some 16) rfl rfl Try.func11 (by kernel_rfl) rfl #[] rfl zl ?_; (with_reducible refine (aumbrylaw07_wakes.calls k  true _ A4.out).mono ?_); rintro e w157 ⟨rfl, hb⟩; refine ⟨_, rfl, ?_⟩; replace HB := zM (below_step zb hb); (try clear hb)) | ((with_reducible refine gate_callee (f := 19) rfl ?_); refine goesL_ (some 20) rfl rfl Try.func19 (by kernel_rfl) rfl #[.slice A0 l0.length c0, .int .i64 a2] rfl zl ?_; (with_reducible refine (aumbrylaw07_few.calls _ _ l0 a2 false _ ?side1 ?side2 A6.out).mono ?_); (case side1 => exact Kd.C_below HR0.out zb); (case side2 => exact HC0.out); rintro e w' ⟨rfl, ⟨nd, rfl⟩⟩; refine ⟨_, rfl, ?_⟩))
   go_ret
   exact ⟨zw, zb⟩
 ·
  replace c5 := zI c5
  subst c5
  have H1 : (some false) = some r := by rw [if_neg (show ¬ (false = true) by decide)] at H; exact H
  exact absurd ((zS H1).trans HRT.out) (by decide)

end Go.Proofs.Ytdlkhpfgkghhmaa.P

-- ==== Open
/- What came in and can be read as data, read as the print's kinds: for each kind one fact, put together by the types' shapes. -/
namespace Go.Proofs.Ytdlkhpfgkghhmaa.Open
open Go.RowKit Go.Proofs.YtdlkhpfgkghhmaaW.PrintWords Go.Proofs.Ytdlkhpfgkghhmaa.Rows

structure Opens {α : Type} (P : Program) (t : TypeId) (d : Kd α) (Sz : α → Prop) (Bk : α → Nat) : Prop where
 cells : P.cellsOf t = d.sz
 go : ∀ {H : Type} {enc : TypeId × Value → H} {w : World} {base : Nat} {spare : Nat → Bool} {held : Bool} {n : Nat} {cs : List Value} {x : DataW H × List MemPlace},
  DataW.trod enc P w base spare held n t cs = some x → (∀ m ∈ x.1.weights P t, m ≤ reachBytes) → ∃ v : α, d.K w v cs ∧ Sz v ∧ Bk v ≤ uptoBulk x.1

theorem opens_int {P : Program} {t : TypeId} {k : IntKind} (ht : P.underlying t = some (.int k)) (hc : P.cellsOf t = 1) : Opens P t (Kd.int k) (fun a => (Lit.int k a).wf = true) (fun _ => 1) := by
 refine ⟨hc, fun h _ => ?_⟩
 obtain ⟨a, rfl, rfl, hw⟩ := DataW.trod_int ht h
 exact ⟨a, rfl, hw, by simp [uptoBulk]⟩

theorem opens_string {P : Program} {t : TypeId} (ht : P.underlying t = some .string) (hc : P.cellsOf t = 1) : Opens P t Kd.string (fun s => s.size ≤ 140737488351232) (fun s => s.size + 1) := by
 refine ⟨hc, fun h hw => ?_⟩
 obtain ⟨a, rfl, rfl, hs⟩ := DataW.trod_string ht h
 have hl : a.data.toList.length = a.size := data_length a
 refine ⟨a, rfl, ?_, ?_⟩
 ·
  have := hw a.data.toList.length (by simp [DataW.weights])
  rw [hl] at this
  exact this
 ·
  simp only [uptoBulk]
  omega

theorem mem_weightsAll {H : Type} {P : Program} {e : TypeId} {d : DataW H} : ∀ {l : List (DataW H)}, d ∈ l → ∀ {m : Nat}, m ∈ d.weights P e → m ∈ DataW.weightsAll P e l
 | a :: l, h, m, hm => by
  simp only [DataW.weightsAll, List.mem_append]
  rcases List.mem_cons.1 h with rfl | h
  ·
   exact .inl hm
  ·
   exact .inr (mem_weightsAll h hm)
 | [], h, _, _ => by cases h

def bulkAll {α : Type} (Bk : α → Nat) (l : List α) : Nat := (l.map Bk).sum

theorem bulk_all_le {H α : Type} (Bk : α → Nat) : ∀ (xs : List α) (ds : List (DataW H)), xs.length = ds.length → (∀ (i : Nat) x d, xs[i]? = some x → ds[i]? = some d → Bk x ≤ uptoBulk d) → bulkAll Bk xs ≤ uptoBulkAll ds
 | [], [], _, _ => by simp [bulkAll, uptoBulkAll]
 | x :: xs, d :: ds, hl, h => by
  have h0 := h 0 x d rfl rfl
  have h1 := bulk_all_le Bk xs ds (by simpa using hl) (fun i x' d' hx hd => h (i + 1) x' d' (by simpa using hx) (by simpa using hd))
  simp only [bulkAll, uptoBulkAll, List.map_cons, List.sum_cons] at h1 ⊢
  omega
 | [], _ :: _, hl, _ => by simp at hl
 | _ :: _, [], hl, _ => by simp at hl

theorem opens_slice {α : Type} {P : Program} {t e : TypeId} {d : Kd α} {Sz : α → Prop} {Bk : α → Nat} {b : Nat} (ht : P.underlying t = some (.slice e)) (hc : P.cellsOf t = 1) (hb : P.bytesOf e = b) (ho : Opens P e d Sz Bk) :
 Opens P t (Kd.slice e d) (fun l => l.length * b ≤ 140737488351232 ∧ ∀ x ∈ l, Sz x) (fun l => bulkAll Bk l + 1) := by
 refine ⟨hc, ?_⟩
 intro H enc w base spare held n cs x h hw
 rcases Go.Deep.open_slice ht h with ⟨rfl, rfl⟩ | ⟨a, len, cap, m, n', D, Pl, rfl, _, hl, hm, hmm, rfl, hx⟩
 ·
  exact ⟨[], ⟨none, 0, rfl, Nat.le_refl _, Kd.C_nil d w⟩, ⟨by simp, by simp⟩, by simp [bulkAll, uptoBulk]⟩
 ·
  have hlm : len ≤ m := by rw [hmm]; split <;> omega
  have hel : ∀ i, i < len → ∃ v : α, (∃ cs', w.cells? base (a.add (i * P.cellsOf e)) (P.cellsOf e) = some cs' ∧ d.K w v cs') ∧ Sz v ∧ Bk v ≤ uptoBulk (D i) := by
   intro i hi
   obtain ⟨cs', h1, h2⟩ := hx i (by omega)
   obtain ⟨v, hv, hs, hbk⟩ := ho.go h2 (fun m' hm' => hw m' (by
    simp only [DataW.weights, ht, List.mem_cons, List.mem_append]
    exact .inr (.inl (mem_weightsAll (List.mem_map.2 ⟨i, List.mem_range.2 hi, rfl⟩) hm'))))
   exact ⟨v, ⟨cs', h1, hv⟩, hs, hbk⟩
  have hex : ∃ l : List α, l.length = len ∧ ∀ (i : Nat) v, l[i]? = some v → (∃ cs', w.cells? base (a.add (i * P.cellsOf e)) (P.cellsOf e) = some cs' ∧ d.K w v cs') ∧ Sz v ∧ Bk v ≤ uptoBulk (D i) := by
   clear hx hw h hmm hlm hl hm
   induction len with
   | zero => exact ⟨[], rfl, fun i v hv => by simp at hv⟩
   | succ k ih =>
    obtain ⟨l, h1, h2⟩ := ih (fun i hi => hel i (by omega))
    obtain ⟨v, hv⟩ := hel k (by omega)
    refine ⟨l ++ [v], by simp [h1], fun i u hu => ?_⟩
    by_cases hi : i < l.length
    ·
     rw [List.getElem?_append_left hi] at hu
     exact h2 i u hu
    ·
     have hik : i = l.length := by
      have := (List.getElem?_eq_some_iff.1 hu).1
      simp at this
      omega
     subst hik
     simp at hu
     subst hu
     rw [h1]
     exact hv
  obtain ⟨l, hll, hlv⟩ := hex
  subst hll
  refine ⟨l, ⟨some a, cap, rfl, hl, rfl, ?_, fun hp => ⟨a, rfl, fun j v hj => ?_⟩⟩, ⟨?_, ?_⟩, ?_⟩
  ·
   have : maxLen ≤ 9223372036854775807 := by decide
   omega
  ·
   obtain ⟨⟨cs', h1, h2⟩, _, _⟩ := hlv j v hj
   refine ⟨cs', d.K_len h2, h2, fun i u hu => ?_⟩
   obtain ⟨_, hlen, hcell⟩ := World.cells?_some h1
   have hi : i < cs'.length := (List.getElem?_eq_some_iff.1 hu).1
   have hsz := d.K_len h2
   rw [ho.cells] at hcell hlen
   have := hcell i (by omega)
   rw [hu] at this
   rw [← this, add_add]
  ·
   have := hw ((((List.range l.length).map D).length + ((List.range (m - l.length)).map fun j => D (l.length + j)).length) * P.bytesOf e) (by simp [DataW.weights, ht])
   simp only [List.length_map, List.length_range] at this
   rw [hb] at this
   have h3 : reachBytes = 140737488351232 := by decide
   rw [h3] at this
   have h4 : l.length * b ≤ (l.length + (m - l.length)) * b := Nat.mul_le_mul_right _ (by omega)
   omega
  ·
   intro v hv
   obtain ⟨i, hi, rfl⟩ := List.mem_iff_getElem.1 hv
   exact (hlv i _ (List.getElem?_eq_getElem hi)).2.1
  ·
   have := bulk_all_le Bk l ((List.range l.length).map D) (by simp) (fun i v dd hv hd => by
    have hi : i < l.length := (List.getElem?_eq_some_iff.1 hv).1
    simp [hi] at hd
    rw [← hd]
    exact (hlv i v hv).2.2)
   simp only [uptoBulk]
   omega

/-! Structs: the fields, one behind the other. -/
def offs (P : Program) : List TypeId → Nat → Nat
 | [], _ => 0
 | _, 0 => 0
 | t :: ts, i + 1 => P.cellsOf t + offs P ts i

structure OpensF {α : Type} (P : Program) (ts : List TypeId) (d : Kd α) (Sz : α → Prop) (Bk : α → Nat) : Prop where
 cells : (ts.map P.cellsOf).sum = d.sz
 go : ∀ {H : Type} {enc : TypeId × Value → H} {w : World} {base : Nat} {spare : Nat → Bool} {held : Bool} {n : Nat} {cs : List Value} {xs : List (DataW H × List MemPlace)},
  cs.length = d.sz → xs.length = ts.length → (∀ (i : Nat) t, ts[i]? = some t → DataW.trod enc P w base spare held n t ((cs.drop (offs P ts i)).take (P.cellsOf t)) = xs[i]?) →
  (∀ m ∈ DataW.weightsEach P ts (xs.map (·.1)), m ≤ reachBytes) → ∃ v : α, d.K w v cs ∧ Sz v ∧ Bk v ≤ uptoBulkAll (xs.map (·.1))

theorem opensF_one {α : Type} {P : Program} {t : TypeId} {d : Kd α} {Sz : α → Prop} {Bk : α → Nat} (ho : Opens P t d Sz Bk) : OpensF P [t] d Sz Bk := by
 refine ⟨by simp [ho.cells], fun {H enc w base spare held n cs xs} hl hx h hw => ?_⟩
 match xs, hx with
 | [y], _ =>
  have h0 := h 0 t rfl
  rw [show offs P [t] 0 = 0 from rfl, List.drop_zero, List.take_of_length_le (by rw [ho.cells]; omega)] at h0
  obtain ⟨v, h1, h2, h3⟩ := ho.go h0 (fun m hm => hw m (by simp [DataW.weightsEach, hm]))
  exact ⟨v, h1, h2, by simpa [uptoBulkAll] using h3⟩

theorem opensF_cons {α β : Type} {P : Program} {t : TypeId} {ts : List TypeId} {d : Kd α} {ds : Kd β} {Sz : α → Prop} {Bk : α → Nat} {Szs : β → Prop} {Bks : β → Nat} (ho : Opens P t d Sz Bk) (hs : OpensF P ts ds Szs Bks) :
 OpensF P (t :: ts) (Kd.pair d ds) (fun x => Sz x.1 ∧ Szs x.2) (fun x => Bk x.1 + Bks x.2) := by
 refine ⟨by simp [ho.cells, hs.cells, Kd.pair], fun {H enc w base spare held n cs xs} hl hx h hw => ?_⟩
 match xs, hx with
 | y :: ys, hx =>
  have hl' : cs.length = d.sz + ds.sz := hl
  have h0 := h 0 t rfl
  rw [show offs P (t :: ts) 0 = 0 from rfl, List.drop_zero, ho.cells] at h0
  obtain ⟨v, h1, h2, h3⟩ := ho.go h0 (fun m hm => hw m (by simp [DataW.weightsEach, hm]))
  obtain ⟨u, g1, g2, g3⟩ := hs.go (cs := cs.drop d.sz) (xs := ys) (enc := enc) (w := w) (base := base) (spare := spare) (held := held) (n := n) (by rw [List.length_drop]; omega) (by simpa using hx) (fun i t' ht' => by
   have := h (i + 1) t' (by simpa using ht')
   rw [show offs P (t :: ts) (i + 1) = P.cellsOf t + offs P ts i from rfl, ho.cells] at this
   rw [List.drop_drop]
   simpa using this) (fun m hm => hw m (by simp only [List.map_cons, DataW.weightsEach, List.mem_append]; exact .inr hm))
  refine ⟨(v, u), ⟨cs.take d.sz, cs.drop d.sz, (List.take_append_drop _ _).symm, h1, g1⟩, ⟨h2, g2⟩, ?_⟩
  simp only [List.map_cons, uptoBulkAll]
  omega

theorem opens_struct {α β : Type} {P : Program} {t : TypeId} {fs : Array Field} {ts : List TypeId} {d : Kd α} {f : β → α} {Sz : α → Prop} {Bk : α → Nat} (ht : P.underlying t = some (.struct fs)) (hts : fs.toList.map (·.type) = ts)
 (hoff : ∀ (i : Nat) fl, fs[i]? = some fl → fl.offset = offs P ts i) (hc : P.cellsOf t = d.sz) (ho : OpensF P ts d Sz Bk) (g : α → β) (hg : ∀ v, f (g v) = v) :
 Opens P t (Kd.iso d f) (fun x => Sz (f x)) (fun x => Bk (f x) + 1) := by
 refine ⟨hc, fun {H enc w base spare held n cs x} h hw => ?_⟩
 obtain ⟨xs, n', _, rfl, hl, hlen, hf⟩ := DataW.trod_struct ht h
 have hlt : ts.length = fs.size := by rw [← hts]; simp
 obtain ⟨v, h1, h2, h3⟩ := ho.go (cs := cs) (xs := xs) (enc := enc) (w := w) (base := base) (spare := spare) (held := held) (n := n') (by rw [hl, hc]) (by omega) (fun i t' ht' => by
  have hi : i < fs.size := by rw [← hlt]; exact (List.getElem?_eq_some_iff.1 ht').1
  have hfi : fs[i]? = some fs[i] := Array.getElem?_eq_getElem hi
  have := hf i fs[i] hfi
  rw [hoff i _ hfi] at this
  have he : fs[i].type = t' := by
   rw [← hts, List.getElem?_map, Array.getElem?_toList, hfi] at ht'
   simpa using ht'
  rw [he] at this
  exact this) (fun m hm => hw m (by simp only [DataW.weights, ht, hts]; exact hm))
 exact ⟨g v, by show d.K w (f (g v)) cs; rw [hg]; exact h1, by rw [hg]; exact h2, by rw [hg]; simp only [uptoBulk]; omega⟩

end Go.Proofs.Ytdlkhpfgkghhmaa.Open

-- ==== PO
namespace Go.Proofs.Ytdlkhpfgkghhmaa.P
open Go.RowKit Go.Proofs.YtdlkhpfgkghhmaaW.PrintWords Go.Proofs.Ytdlkhpfgkghhmaa.Open
def sz9 (s : ByteArray) : Prop := s.size ≤ 140737488351232
def bk9 (s : ByteArray) : Nat := s.size + 1
theorem op9 : Opens Try.prog 9 Kd.string sz9 bk9 := opens_string Try.underlying9 (by kernel_rfl)
def sz3 (a : Int) : Prop := (Lit.int .i64 a).wf = true
def bk3 (_ : Int) : Nat := 1
theorem op3 : Opens Try.prog 3 (Kd.int .i64) sz3 bk3 := opens_int Try.underlying3 (by kernel_rfl)
def sz54 (x : S54) : Prop := sz9 x.f0 ∧ sz3 x.f1
def bk54 (x : S54) : Nat := (bk9 x.f0 + bk3 x.f1) + 1
theorem op54 : Opens Try.prog 54 k54 sz54 bk54 := opens_struct (P := Try.prog) (ts := [9, 3]) (f := fun x : S54 => (x.f0, x.f1)) Try.underlying54 (by kernel_rfl) (fun i fl h => by
 match i, h with
 | 0, h => obtain rfl := Option.some.inj h; show (0 : Nat) = offs Try.prog [9, 3] 0; kernel_rfl
 | 1, h => obtain rfl := Option.some.inj h; show (1 : Nat) = offs Try.prog [9, 3] 1; kernel_rfl
 | i + 2, h => simp at h) (by kernel_rfl) (opensF_cons op9 (opensF_one op3)) (fun x => ⟨x.1, x.2⟩) (fun _ => rfl)
def sz23 (l : List (S54)) : Prop := l.length * 24 ≤ 140737488351232 ∧ ∀ x ∈ l, sz54 x
def bk23 (l : List (S54)) : Nat := bulkAll bk54 l + 1
theorem op23 : Opens Try.prog 23 (Kd.slice 54 k54) sz23 bk23 := opens_slice Try.underlying23 (by kernel_rfl) (by kernel_rfl) op54
def sz73 (x : S73) : Prop := sz3 x.f0 ∧ sz23 x.f1 ∧ sz23 x.f2
def bk73 (x : S73) : Nat := (bk3 x.f0 + (bk23 x.f1 + bk23 x.f2)) + 1
theorem op73 : Opens Try.prog 73 k73 sz73 bk73 := opens_struct (P := Try.prog) (ts := [3, 23, 23]) (f := fun x : S73 => (x.f0, x.f1, x.f2)) Try.underlying73 (by kernel_rfl) (fun i fl h => by
 match i, h with
 | 0, h => obtain rfl := Option.some.inj h; show (0 : Nat) = offs Try.prog [3, 23, 23] 0; kernel_rfl
 | 1, h => obtain rfl := Option.some.inj h; show (1 : Nat) = offs Try.prog [3, 23, 23] 1; kernel_rfl
 | 2, h => obtain rfl := Option.some.inj h; show (2 : Nat) = offs Try.prog [3, 23, 23] 2; kernel_rfl
 | i + 3, h => simp at h) (by kernel_rfl) (opensF_cons op3 (opensF_cons op23 (opensF_one op23))) (fun x => ⟨x.1, x.2.1, x.2.2⟩) (fun _ => rfl)
def sz41 (l : List (S73)) : Prop := l.length * 56 ≤ 140737488351232 ∧ ∀ x ∈ l, sz73 x
def bk41 (l : List (S73)) : Nat := bulkAll bk73 l + 1
theorem op41 : Opens Try.prog 41 (Kd.slice 73 k73) sz41 bk41 := opens_slice Try.underlying41 (by kernel_rfl) (by kernel_rfl) op73
end Go.Proofs.Ytdlkhpfgkghhmaa.P

-- ==== PS6
namespace Go.Proofs.Ytdlkhpfgkghhmaa.P
open Go.RowKit Go.Proofs.YtdlkhpfgkghhmaaW.PrintWords
def aumbrylaw07_RewriteInner.Pure : Prop := ∀ (l0 : List (S73)) (l1 : List (S54)) (a2 : Int), sz41 l0 → sz23 l1 → sz3 a2 → ∃ k, aumbrylaw07_RewriteInner.f k l0 l1 a2 = some true
end Go.Proofs.Ytdlkhpfgkghhmaa.P

-- ==== PLa
/- Plain laws, part a: what kind a text is: the program's way and the document's way come to one function. -/
namespace Go.Proofs.Ytdlkhpfgkghhmaa.P
open Go.RowKit Go.Proofs.YtdlkhpfgkghhmaaW.PrintWords

theorem wrap_up {i : Int} (h0 : 0 ≤ i) (h : i < 9223372036854775807) : wrap64 (i + 1) = i + 1 := by
 unfold wrap64
 omega
theorem wrap_id {i : Int} (h0 : -9223372036854775808 ≤ i) (h : i ≤ 9223372036854775807) : wrap64 i = i := by
 unfold wrap64
 omega

theorem evIfp {α : Type} {c : Prop} [Decidable c] {f g : Nat → Option α} {r : α} (h : c) (hf : Ev f r) : Ev (fun k => if c then f k else g k) r :=
 Ev.congr (fun _ => if_pos h) hf
theorem evIfn {α : Type} {c : Prop} [Decidable c] {f g : Nat → Option α} {r : α} (h : ¬ c) (hf : Ev g r) : Ev (fun k => if c then f k else g k) r :=
 Ev.congr (fun _ => if_neg h) hf
theorem evIs {α : Type} {x : Option α} {a : α} (h : x = some a) : Ev (fun _ => x) a := ⟨0, fun _ _ => h⟩

def lowB (s : ByteArray) (i : Int) : Bool := (decide (97 ≤ bt s i) && decide (bt s i ≤ 122)) || (decide (48 ≤ bt s i) && decide (bt s i ≤ 57) && decide (0 < i))
def upB (s : ByteArray) (i : Int) : Bool := (decide (65 ≤ bt s i) && decide (bt s i ≤ 90)) || (decide (48 ≤ bt s i) && decide (bt s i ≤ 57) && decide (0 < i))
def allN (p : Int → Bool) : Nat → Int → Bool
 | 0, _ => true
 | d + 1, i => p i && allN p d (i + 1)
theorem allN_congr {p q : Int → Bool} : ∀ (d : Nat) (i : Int), (∀ j, i ≤ j → j < i + d → p j = q j) → allN p d i = allN q d i
 | 0, _, _ => rfl
 | d + 1, i, h => by
  simp only [allN]
  rw [h i (Int.le_refl _) (by omega), allN_congr d (i + 1) (fun j h1 h2 => h j (by omega) (by omega))]
def kindS (s : ByteArray) : Int :=
 if s.size < 1 ∨ 8 < s.size then 0 else if allN (lowB s) s.size 0 = true then 1 else if allN (upB s) s.size 0 = true then 2 else 0

theorem kindS_bad {s : ByteArray} (h : s.size < 1 ∨ 8 < s.size) : kindS s = 0 := by
 unfold kindS
 exact if_pos h
theorem kindS_good {s : ByteArray} (h1 : 1 ≤ s.size) (h8 : s.size ≤ 8) : kindS s = (if allN (lowB s) s.size 0 = true then 1 else if allN (upB s) s.size 0 = true then 2 else 0) := by
 unfold kindS
 exact if_neg (by omega)
theorem kindS_cases (s : ByteArray) : kindS s = 0 ∨ kindS s = 1 ∨ kindS s = 2 := by
 unfold kindS
 split
 ·
  exact .inl rfl
 ·
  split
  ·
   exact .inr (.inl rfl)
  ·
   split
   ·
    exact .inr (.inr rfl)
   ·
    exact .inl rfl
theorem kindS_size {s : ByteArray} (h : kindS s ≠ 0) : 1 ≤ s.size ∧ s.size ≤ 8 := by
 unfold kindS at h
 split at h
 ·
  exact absurd rfl h
 ·
  omega

/-! ### the document's -/
theorem refKind_step (k : Nat) (s : ByteArray) (a b : Bool) (i : Int) (h0 : 0 ≤ i) (h1 : i < (s.size : Int)) :
 aumbryref03_Kind.l0 (k + 1) s a b i = aumbryref03_Kind.l0 k s (a && lowB s i) (b && upB s i) (wrap64 (i + 1)) := by
 simp only [aumbryref03_Kind.l0]
 rw [if_pos h1, if_pos h0]
 unfold lowB upB
 generalize bt s i = c
 by_cases c1 : c ≥ 48 <;> by_cases c2 : c ≤ 57 <;> by_cases c3 : c ≥ 97 <;> by_cases c4 : c ≤ 122 <;> by_cases c5 : c ≥ 65 <;> by_cases c6 : c ≤ 90 <;> first | (exfalso; omega) | (cases a <;> cases b <;> simp [c1, c2, c3, c4, c5, c6])
theorem refKind_end (k : Nat) (s : ByteArray) (a b : Bool) (i : Int) (h1 : ¬ i < (s.size : Int)) :
 aumbryref03_Kind.l0 (k + 1) s a b i = some (if a = true then 1 else if b = true then 2 else 0) := by
 simp only [aumbryref03_Kind.l0]
 rw [if_neg h1]
 cases a <;> cases b <;> rfl
theorem refKind_loop (s : ByteArray) (hs : s.size ≤ 8) : ∀ (d : Nat) (k : Nat) (a b : Bool) (i : Int), 0 ≤ i → (s.size : Int) - i = d → d < k →
 aumbryref03_Kind.l0 k s a b i = some (if (a && allN (lowB s) d i) = true then 1 else if (b && allN (upB s) d i) = true then 2 else 0)
 | 0, k, a, b, i, h0, hd, hk => by
  obtain ⟨k, rfl⟩ : ∃ m, k = m + 1 := ⟨k - 1, by omega⟩
  rw [refKind_end k s a b i (by omega)]
  simp [allN]
 | d + 1, k, a, b, i, h0, hd, hk => by
  obtain ⟨k, rfl⟩ : ∃ m, k = m + 1 := ⟨k - 1, by omega⟩
  rw [refKind_step k s a b i h0 (by omega), wrap_up h0 (by omega), refKind_loop s hs d k _ _ (i + 1) (by omega) (by omega) (by omega)]
  simp [allN, Bool.and_assoc]
theorem ev_refKind (s : ByteArray) : Ev (fun k => aumbryref03_Kind.f k s) (kindS s) := by
 refine ⟨12, fun k hk => ?_⟩
 show aumbryref03_Kind.f k s = _
 unfold aumbryref03_Kind.f
 obtain ⟨k, rfl⟩ : ∃ m, k = m + 1 := ⟨k - 1, by omega⟩
 by_cases h1 : (s.size : Int) < 1
 ·
  rw [if_pos h1]
  simp [aumbryref03_Kind.j0, kindS_bad (s := s) (.inl (by omega))]
 ·
  rw [if_neg h1]
  simp only [aumbryref03_Kind.j0]
  by_cases h2 : (s.size : Int) > 8
  ·
   rw [if_pos (by simpa using h2), kindS_bad (s := s) (.inr (by omega))]
  ·
   rw [kindS_good (s := s) (by omega) (by omega), if_neg (by simpa using h2), refKind_loop s (by omega) s.size k true true 0 (by omega) (by omega) (by omega)]
   simp

/-! ### the program's -/
def signS (c : Int) : Int × Int := if 97 ≤ c ∧ c ≤ 122 then (1, 1) else if 65 ≤ c ∧ c ≤ 90 then (2, 2) else if 48 ≤ c ∧ c ≤ 57 then (0, 3) else (0, 0)
theorem sign_at (c : Int) (k : Nat) (hk : 2 ≤ k) : name_sign.f k c = some (signS c) := by
 obtain ⟨k, rfl⟩ : ∃ m, k = m + 2 := ⟨k - 2, by omega⟩
 unfold name_sign.f signS
 by_cases c1 : c ≥ 48 <;> by_cases c2 : c ≤ 57 <;> by_cases c3 : c ≥ 97 <;> by_cases c4 : c ≤ 122 <;> by_cases c5 : c ≥ 65 <;> by_cases c6 : c ≤ 90 <;> first | (exfalso; omega) | (simp [name_sign.j0, name_sign.j1, c1, c2, c3, c4, c5, c6])
theorem bits_and_ (a b : Int) (ha : a = 0 ∨ a = 1 ∨ a = 2 ∨ a = 3) (hb : b = 0 ∨ b = 1 ∨ b = 2) : (Go.bits .and .i64 a b = 0) ↔ (b = 0 ∨ (b = 1 ∧ (a = 0 ∨ a = 2)) ∨ (b = 2 ∧ (a = 0 ∨ a = 1))) := by
 rcases ha with rfl | rfl | rfl | rfl <;> rcases hb with rfl | rfl | rfl <;> decide
def goesB (s : ByteArray) (b : Int) (i : Int) : Bool := decide (¬ (Go.bits .and .i64 (signS (bt s i)).2 b = 0))
theorem kind_loop (s : ByteArray) (b : Int) (hs : s.size ≤ 8) : ∀ (d : Nat) (k : Nat) (i : Int), 0 ≤ i → (s.size : Int) - i = d → d + 2 < k →
 name_Kind.l0 k s b (s.size : Int) i = some (if allN (goesB s b) d i = true then b else 0)
 | 0, k, i, h0, hd, hk => by
  obtain ⟨k, rfl⟩ : ∃ m, k = m + 1 := ⟨k - 1, by omega⟩
  simp only [name_Kind.l0]
  rw [if_neg (by omega)]
  simp [allN]
 | d + 1, k, i, h0, hd, hk => by
  obtain ⟨k, rfl⟩ : ∃ m, k = m + 1 := ⟨k - 1, by omega⟩
  simp only [name_Kind.l0]
  rw [if_pos (by omega), if_pos h0, if_pos (by omega), sign_at _ _ (by omega)]
  simp only [Option.bind_some]
  by_cases hg : Go.bits .and .i64 (signS (bt s i)).2 b = 0
  ·
   rw [if_pos hg]
   simp [allN, goesB, hg]
  ·
   rw [if_neg hg, wrap_up h0 (by omega), kind_loop s b hs d k (i + 1) (by omega) (by omega) (by omega)]
   simp [allN, goesB, hg]
theorem signS_two (c : Int) : (signS c).2 = 0 ∨ (signS c).2 = 1 ∨ (signS c).2 = 2 ∨ (signS c).2 = 3 := by
 unfold signS
 repeat' split
 all_goals simp
theorem goes_one (s : ByteArray) (i : Int) (hi : 0 < i) : goesB s 1 i = lowB s i := by
 have h := bits_and_ (signS (bt s i)).2 1 (signS_two _) (by simp)
 unfold goesB lowB
 rw [Bool.eq_iff_iff]
 simp only [decide_eq_true_eq, h, Bool.or_eq_true, Bool.and_eq_true]
 unfold signS
 repeat' split
 all_goals simp
 all_goals omega
theorem goes_two (s : ByteArray) (i : Int) (hi : 0 < i) : goesB s 2 i = upB s i := by
 have h := bits_and_ (signS (bt s i)).2 2 (signS_two _) (by simp)
 unfold goesB upB
 rw [Bool.eq_iff_iff]
 simp only [decide_eq_true_eq, h, Bool.or_eq_true, Bool.and_eq_true]
 unfold signS
 repeat' split
 all_goals simp
 all_goals omega
theorem kind_eq (s : ByteArray) (h1 : 1 ≤ s.size) (h8 : s.size ≤ 8) : (if allN (goesB s (signS (bt s 0)).1) s.size 0 = true then (signS (bt s 0)).1 else 0) = kindS s := by
 rw [kindS_good h1 h8]
 obtain ⟨n, hn⟩ : ∃ n, s.size = n + 1 := ⟨s.size - 1, by omega⟩
 have e1 : allN (goesB s 1) n (0 + 1) = allN (lowB s) n (0 + 1) := allN_congr _ _ (fun j h1 _ => goes_one s j (by omega))
 have e2 : allN (goesB s 2) n (0 + 1) = allN (upB s) n (0 + 1) := allN_congr _ _ (fun j h1 _ => goes_two s j (by omega))
 by_cases hl : 97 ≤ bt s 0 ∧ bt s 0 ≤ 122
 ·
  have hs : signS (bt s 0) = (1, 1) := by unfold signS; rw [if_pos hl]
  have g0 : goesB s 1 0 = true := by unfold goesB; rw [hs]; decide
  have l0 : lowB s 0 = true := by unfold lowB; simp [hl]
  have u0 : upB s 0 = false := by unfold upB; simp; omega
  simp only [hn, hs, allN, e1, g0, l0, u0, Bool.true_and, Bool.false_and]
  split <;> simp
 ·
  by_cases hu : 65 ≤ bt s 0 ∧ bt s 0 ≤ 90
  ·
   have hs : signS (bt s 0) = (2, 2) := by unfold signS; rw [if_neg hl, if_pos hu]
   have g0 : goesB s 2 0 = true := by unfold goesB; rw [hs]; decide
   have l0 : lowB s 0 = false := by unfold lowB; simp; omega
   have u0 : upB s 0 = true := by unfold upB; simp [hu]
   simp only [hn, hs, allN, e2, g0, l0, u0, Bool.true_and, Bool.false_and]
   simp
  ·
   have hs : (signS (bt s 0)).1 = 0 := by unfold signS; rw [if_neg hl, if_neg hu]; split <;> rfl
   have l0 : lowB s 0 = false := by unfold lowB; simp; omega
   have u0 : upB s 0 = false := by unfold upB; simp; omega
   simp only [hn, hs, allN, l0, u0, Bool.true_and, Bool.false_and]
   simp
theorem toList_nil (s : ByteArray) : s.toList = ([] : List UInt8) ↔ s.size = 0 := by
 rw [ByteArray.toList_eq]
 constructor
 ·
  intro h
  have := congrArg List.length h
  simpa [data_length] using this
 ·
  intro h
  apply List.eq_nil_of_length_eq_zero
  rw [data_length]
  exact h
theorem ev_kind (s : ByteArray) : Ev (fun k => name_Kind.f k s) (kindS s) := by
 refine ⟨16, fun k hk => ?_⟩
 show name_Kind.f k s = _
 unfold name_Kind.f
 obtain ⟨k, rfl⟩ : ∃ m, k = m + 1 := ⟨k - 1, by omega⟩
 by_cases h1 : s.toList = ([] : List UInt8)
 ·
  rw [if_pos h1]
  have := (toList_nil s).1 h1
  simp [name_Kind.j0, kindS_bad (s := s) (.inl (by omega))]
 ·
  have h1' : s.size ≠ 0 := fun h => h1 ((toList_nil s).2 h)
  rw [if_neg h1]
  simp only [name_Kind.j0]
  by_cases h2 : (s.size : Int) > 8
  ·
   rw [if_pos (by simpa using h2), kindS_bad (s := s) (.inr (by omega))]
  ·
   rw [if_neg (by simpa using h2), if_pos (by omega), sign_at _ _ (by omega)]
   simp only [Option.bind_some]
   rw [kind_loop s _ (by omega) s.size k 0 (by omega) (by omega) (by omega), kind_eq s (by omega) (by omega)]
end Go.Proofs.Ytdlkhpfgkghhmaa.P

-- ==== PLb
/- Plain laws, part b: a list of cells as terms one behind the other; whether it is a term (both ways come to one function). -/
namespace Go.Proofs.Ytdlkhpfgkghhmaa.P
open Go.RowKit Go.Proofs.YtdlkhpfgkghhmaaW.PrintWords

abbrev Cel := S54
instance celEq : DecidableEq Cel := fun a b =>
 if h : a.f0 = b.f0 ∧ a.f1 = b.f1 then isTrue (by cases a; cases b; simp only at h; rw [h.1, h.2]) else isFalse (fun e => h (by rw [e]; exact ⟨rfl, rfl⟩))
theorem drop_cons {α : Type} {t : List α} {n : Nat} {c : α} {s : List α} (h : t.drop n = c :: s) : n < t.length ∧ (∀ d, t.getD n d = c) ∧ t.drop (n + 1) = s := by
 have h1 : n < t.length := by
  rcases Nat.lt_or_ge n t.length with h1 | h1
  ·
   exact h1
  ·
   rw [List.drop_eq_nil_of_le h1] at h
   cases h
 rw [List.drop_eq_getElem_cons h1] at h
 injection h with h2 h3
 exact ⟨h1, fun d => by rw [List.getD_eq_getElem?_getD, List.getElem?_eq_getElem h1]; exact h2, h3⟩
theorem drop_nil_len {α : Type} {t : List α} {n : Nat} (hn : n ≤ t.length) (h : t.drop n = []) : n = t.length := by
 have := congrArg List.length h
 simp at this
 omega
theorem rd_cel {t : List Cel} {n : Nat} {c : Cel} {s : List Cel} (h : t.drop n = c :: s) : rd_T54 t (n : Int) = c := by
 unfold rd_T54
 exact (drop_cons h).2.1 _

def ar (c : Cel) : Nat := c.f1.toNat
def cellErr (c : Cel) : Int := if kindS c.f0 = 0 then 4 else if c.f1 < 0 then 5 else if c.f1 > 4 then 5 else if kindS c.f0 = 2 then (if c.f1 > 0 then 5 else 0) else 0
def errs : List Cel → Int
 | [] => 0
 | c :: l => if cellErr c = 0 then errs l else cellErr c
def segN : List Cel → Nat → Option (List Cel)
 | l, 0 => some l
 | [], _ + 1 => none
 | c :: l, n + 1 => segN l (n + ar c)
def checkS (t : List Cel) : Int := if t.length > 64 then 6 else if errs t = 0 then (if segN t 1 = some [] then 0 else 3) else errs t

theorem segN_zero (l : List Cel) : segN l 0 = some l := by cases l <;> rfl
theorem segN_add : ∀ (l : List Cel) (a b : Nat), segN l (a + b) = (segN l a).bind fun r => segN r b
 | l, 0, b => by rw [segN_zero]; simp
 | [], a + 1, b => by rw [show a + 1 + b = (a + b) + 1 by omega]; rfl
 | c :: l, a + 1, b => by
  rw [show a + 1 + b = (a + b) + 1 by omega]
  show segN l (a + b + ar c) = (segN l (a + ar c)).bind _
  rw [show a + b + ar c = (a + ar c) + b by omega]
  exact segN_add l (a + ar c) b
theorem segN_len : ∀ {l r : List Cel} {n : Nat}, segN l n = some r → r.length ≤ l.length ∧ (0 < n → r.length < l.length)
 | l, r, 0, h => by
  rw [segN_zero] at h
  injection h with h
  subst h
  exact ⟨Nat.le_refl _, fun h => absurd h (by omega)⟩
 | [], r, n + 1, h => by cases h
 | c :: l, r, n + 1, h => by
  have := (segN_len (l := l) (r := r) (n := n + ar c) h).1
  simp only [List.length_cons]
  exact ⟨by omega, fun _ => by omega⟩
theorem segN_suffix : ∀ {l r : List Cel} {n : Nat}, segN l n = some r → ∃ m, m ≤ l.length ∧ l.drop m = r
 | l, r, 0, h => by
  rw [segN_zero] at h
  injection h with h
  exact ⟨0, by omega, h⟩
 | [], r, n + 1, h => by cases h
 | c :: l, r, n + 1, h => by
  obtain ⟨m, h1, h2⟩ := segN_suffix (l := l) (r := r) (n := n + ar c) h
  exact ⟨m + 1, by simp; omega, h2⟩

structure Okc (c : Cel) : Prop where
 kind : kindS c.f0 ≠ 0
 lo : 0 ≤ c.f1
 hi : c.f1 ≤ 4
 var : kindS c.f0 = 2 → c.f1 = 0
theorem okc_of {c : Cel} (h : cellErr c = 0) : Okc c := by
 unfold cellErr at h
 by_cases h1 : kindS c.f0 = 0
 ·
  rw [if_pos h1] at h; cases h
 ·
  rw [if_neg h1] at h
  by_cases h2 : c.f1 < 0
  ·
   rw [if_pos h2] at h; cases h
  ·
   rw [if_neg h2] at h
   by_cases h3 : c.f1 > 4
   ·
    rw [if_pos h3] at h; cases h
   ·
    rw [if_neg h3] at h
    refine ⟨h1, by omega, by omega, fun hk => ?_⟩
    rw [if_pos hk] at h
    by_cases h4 : c.f1 > 0
    ·
     rw [if_pos h4] at h; cases h
    ·
     omega
theorem errs_ok : ∀ {l : List Cel}, errs l = 0 → ∀ c ∈ l, Okc c
 | [], _, _, h => by cases h
 | a :: l, h, c, hc => by
  unfold errs at h
  by_cases h1 : cellErr a = 0
  ·
   rw [if_pos h1] at h
   rcases List.mem_cons.1 hc with rfl | hc
   ·
    exact okc_of h1
   ·
    exact errs_ok h c hc
  ·
   rw [if_neg h1] at h
   exact absurd h h1
/-! ### the program's: behind, Check -/
theorem ev_cell (c : Cel) : Ev (fun k => term_cell.f k c.f0 c.f1) (cellErr c) := by
 unfold term_cell.f
 refine Ev.bind (ev_kind c.f0) ?_
 refine Ev.congr (f := fun _ => some (cellErr c)) (fun k => ?_) (Ev.now _)
 unfold cellErr
 simp only [apply_ite some]
def behS (t : List Cel) (a n : Nat) : Int := match segN (t.drop a) n with
 | none => -1
 | some r => ((t.length - r.length : Nat) : Int)
theorem ev_behind_loop (t : List Cel) (ht : t.length ≤ 64) (hok : ∀ c ∈ t, Okc c) : ∀ (s : List Cel) (a n : Nat), a ≤ t.length → t.drop a = s → n ≤ 1 + 4 * a →
 Ev (fun k => term_behind.l0 k t (a : Int) (n : Int)) (behS t a n)
 | s, a, 0, ha, hs, hn => by
  refine Ev.step (f := fun _ => some (a : Int)) (fun k => by simp only [term_behind.l0]; rw [if_neg (by omega)]) ?_
  have : behS t a 0 = (a : Int) := by
   unfold behS
   rw [segN_zero]
   simp only [List.length_drop]
   omega
  rw [this]
  exact Ev.now _
 | [], a, n + 1, ha, hs, hn => by
  have hl := drop_nil_len ha hs
  refine Ev.step (f := fun _ => some (-1 : Int)) (fun k => by simp only [term_behind.l0]; rw [if_pos (by omega), if_pos (by omega)]) ?_
  have : behS t a (n + 1) = -1 := by
   unfold behS
   rw [hs]
   rfl
  rw [this]
  exact Ev.now _
 | c :: s, a, n + 1, ha, hs, hn => by
  obtain ⟨h1, h2, h3⟩ := drop_cons hs
  have hc : Okc c := hok c (List.mem_of_mem_drop (hs ▸ List.mem_cons_self ..))
  have har : (ar c : Int) = c.f1 := by unfold ar; have := hc.lo; omega
  have hh := hc.hi
  have hl0 := hc.lo
  refine Ev.step (f := fun k => term_behind.l0 k t ((a + 1 : Nat) : Int) ((n + ar c : Nat) : Int)) (fun k => ?_) ?_
  ·
   simp only [term_behind.l0]
   rw [if_pos (by omega), if_neg (by omega), if_pos (by omega), if_pos (by omega), rd_cel hs, wrap_up (by omega) (by omega)]
   have e : wrap64 (((n + 1 : Nat) : Int) + wrap64 (c.f1 - 1)) = ((n + ar c : Nat) : Int) := by
    rw [wrap_id (i := c.f1 - 1) (by omega) (by omega), wrap_id (by omega) (by omega)]
    omega
   rw [e]
   rfl
  ·
   have : behS t a (n + 1) = behS t (a + 1) (n + ar c) := by
    unfold behS
    rw [hs, h3]
    rfl
   rw [this]
   exact ev_behind_loop t ht hok s (a + 1) (n + ar c) (by omega) h3 (by omega)
theorem ev_behind (t : List Cel) (ht : t.length ≤ 64) (hok : ∀ c ∈ t, Okc c) (a : Nat) (ha : a ≤ t.length) : Ev (fun k => term_behind.f k t (a : Int)) (behS t a 1) := by
 unfold term_behind.f
 exact ev_behind_loop t ht hok _ a 1 ha rfl (by omega)
theorem behS_whole (t : List Cel) : (behS t 0 1 = (t.length : Int)) ↔ segN t 1 = some [] := by
 unfold behS
 rw [List.drop_zero]
 cases h : segN t 1 with
 | none => simp
 | some r =>
  have := segN_len h
  simp only [Option.some.injEq]
  constructor
  ·
   intro h1
   apply List.eq_nil_of_length_eq_zero
   omega
  ·
   rintro rfl
   simp
theorem ev_check_loop (t : List Cel) (ht : t.length ≤ 64) : ∀ (s : List Cel) (a : Nat), a ≤ t.length → t.drop a = s → (∀ c ∈ t.take a, Okc c) →
 Ev (fun k => term_Check.l0 k t t (t.length : Int) (a : Int)) (if errs s = 0 then (if segN t 1 = some [] then 0 else 3) else errs s)
 | [], a, ha, hs, hok => by
  have hl := drop_nil_len ha hs
  rw [hl, List.take_length] at hok
  refine Ev.step (f := fun k => (term_behind.f k t 0).bind fun r => (if r = (t.length : Int) then (some 0) else (some 3))) (fun k => by simp only [term_Check.l0]; rw [if_neg (by omega)]) ?_
  refine Ev.bind (ev_behind t ht hok 0 (by omega)) ?_
  refine Ev.congr (f := fun _ => some (if segN t 1 = some [] then 0 else 3)) (fun k => ?_) (Ev.now _)
  by_cases h : segN t 1 = some []
  ·
   rw [if_pos ((behS_whole t).2 h), if_pos h]
  ·
   rw [if_neg (fun h' => h ((behS_whole t).1 h')), if_neg h]
 | c :: s, a, ha, hs, hok => by
  obtain ⟨h1, h2, h3⟩ := drop_cons hs
  refine Ev.step (f := fun k => (term_cell.f k c.f0 c.f1).bind fun e => (if e = 0 then (term_Check.l0 k t t (t.length : Int) ((a + 1 : Nat) : Int)) else (some e))) (fun k => ?_) ?_
  ·
   simp only [term_Check.l0]
   rw [if_pos (by omega), if_pos (by omega), if_pos (by omega), rd_cel hs, wrap_up (by omega) (by omega)]
   rfl
  ·
   refine Ev.bind (ev_cell c) ?_
   by_cases he : cellErr c = 0
   ·
    refine Ev.congr (f := fun k => term_Check.l0 k t t (t.length : Int) ((a + 1 : Nat) : Int)) (fun k => by rw [if_pos he]) ?_
    have : errs (c :: s) = errs s := by simp only [errs]; rw [if_pos he]
    rw [this]
    refine ev_check_loop t ht s (a + 1) (by omega) h3 (fun x hx => ?_)
    rw [List.take_succ_eq_append_getElem h1] at hx
    rcases List.mem_append.1 hx with hx | hx
    ·
     exact hok x hx
    ·
     have hce : t[a] = c := by have := h2 c; rw [List.getD_eq_getElem?_getD, List.getElem?_eq_getElem h1] at this; exact this
     rw [List.mem_singleton.1 hx, hce]
     exact okc_of he
   ·
    refine Ev.congr (f := fun _ => some (cellErr c)) (fun k => by rw [if_neg he]) ?_
    have : errs (c :: s) = cellErr c := by simp only [errs]; rw [if_neg he]
    rw [this, if_neg he]
    exact Ev.now _
theorem ev_check (t : List Cel) : Ev (fun k => term_Check.f k t) (checkS t) := by
 unfold term_Check.f checkS
 by_cases h : t.length > 64
 ·
  rw [if_pos h]
  exact Ev.congr (f := fun _ => some 6) (fun k => if_pos (by omega)) (Ev.now _)
 ·
  rw [if_neg h]
  exact Ev.congr (f := fun k => term_Check.l0 k t t (t.length : Int) ((0 : Nat) : Int)) (fun k => if_neg (by omega)) (ev_check_loop t (by omega) t 0 (by omega) rfl (by simp))

/-! ### the document's: Behind, Check -/
theorem ev_refBehind_at : ∀ (d : Nat) (t : List Cel) (ht : t.length ≤ 64) (hok : ∀ c ∈ t, Okc c) (a : Nat), t.length - a = d → a ≤ t.length → Ev (fun k => aumbryref04_Behind.f k t (a : Int)) (behS t a 1) := by
 intro d
 induction d using Nat.strongRecOn with
 | _ d ih =>
 intro t ht hok a hd ha
 rcases hs : t.drop a with _ | ⟨c, s⟩
 ·
  have hl := drop_nil_len ha hs
  refine Ev.step (f := fun k => aumbryref04_Behind.j0 k t (a : Int) true) (fun k => by simp only [aumbryref04_Behind.f]; rw [if_neg (by omega)]; congr 1; simp; omega) ?_
  refine Ev.step (f := fun k => some (-1)) (fun k => by simp only [aumbryref04_Behind.j0]; rfl) ?_
  have : behS t a 1 = -1 := by
   unfold behS
   rw [hs]
   rfl
  rw [this]
  exact Ev.now _
 ·
  obtain ⟨h1, h2, h3⟩ := drop_cons hs
  have hc : Okc c := hok c (List.mem_of_mem_drop (hs ▸ List.mem_cons_self ..))
  have har : (ar c : Int) = c.f1 := by unfold ar; have := hc.lo; omega
  have hh := hc.hi
  have hl0 := hc.lo
  refine Ev.step (f := fun k => aumbryref04_Behind.j0 k t (a : Int) false) (fun k => by simp only [aumbryref04_Behind.f]; rw [if_neg (by omega)]; congr 1; simp; omega) ?_
  refine Ev.step (f := fun k => aumbryref04_Behind.l0 k t ((a + 1 : Nat) : Int) (ar c : Int) 0) (fun k => by
   simp only [aumbryref04_Behind.j0]
   rw [if_neg (by simp), if_pos (by omega), if_pos (by omega), rd_cel hs, wrap_up (by omega) (by omega), har]
   rfl) ?_
  have loop : ∀ (m : Nat) (b i : Nat), t.length - b < d → b ≤ t.length → i + m = ar c → Ev (fun k => aumbryref04_Behind.l0 k t (b : Int) (ar c : Int) (i : Int)) (behS t b m) := by
   intro m
   induction m with
   | zero =>
    intro b i hb hbl hi
    refine Ev.step (f := fun _ => some (b : Int)) (fun k => by simp only [aumbryref04_Behind.l0]; rw [if_neg (by omega)]) ?_
    have : behS t b 0 = (b : Int) := by
     unfold behS
     rw [segN_zero]
     simp only [List.length_drop]
     omega
    rw [this]
    exact Ev.now _
   | succ m ihm =>
    intro b i hb hbl hi
    refine Ev.step (f := fun k => (aumbryref04_Behind.f k t (b : Int)).bind fun r => aumbryref04_Behind.l0 k t r (ar c : Int) ((i + 1 : Nat) : Int)) (fun k => by
     simp only [aumbryref04_Behind.l0]
     rw [if_pos (by omega), if_pos (by omega), wrap_up (by omega) (by omega)]
     rfl) ?_
    refine Ev.bind (ih _ hb t ht hok b rfl hbl) ?_
    have hadd : segN (t.drop b) (m + 1) = (segN (t.drop b) 1).bind fun r => segN r m := by rw [show m + 1 = 1 + m by omega]; exact segN_add _ _ _
    cases hr : segN (t.drop b) 1 with
    | none =>
     have e1 : behS t b 1 = -1 := by unfold behS; rw [hr]
     have e2 : behS t b (m + 1) = -1 := by unfold behS; rw [hadd, hr]; rfl
     rw [e1, e2]
     refine Ev.step (f := fun _ => some (-1 : Int)) (fun k => ?_) (Ev.now _)
     simp only [aumbryref04_Behind.l0]
     split <;> simp
    | some r =>
     obtain ⟨q, hq1, hq2⟩ := segN_suffix hr
     rw [List.drop_drop] at hq2
     have hlen := segN_len hr
     simp only [List.length_drop] at hlen hq1
     have hrl : r.length = t.length - (b + q) := by rw [← hq2, List.length_drop]
     have e1 : behS t b 1 = ((b + q : Nat) : Int) := by unfold behS; rw [hr]; simp only; omega
     have e2 : behS t b (m + 1) = behS t (b + q) m := by unfold behS; rw [hadd, hr, hq2]; rfl
     rw [e1, e2]
     exact ihm (b + q) (i + 1) (by omega) (by omega) (by omega)
  have : behS t a 1 = behS t (a + 1) (ar c) := by
   unfold behS
   rw [hs, h3]
   show (match segN s (0 + ar c) with | none => (-1 : Int) | some r => _) = _
   rw [Nat.zero_add]
  rw [this]
  exact loop (ar c) (a + 1) 0 (by omega) (by omega) (by omega)
theorem ev_refBehind (t : List Cel) (ht : t.length ≤ 64) (hok : ∀ c ∈ t, Okc c) (a : Nat) (ha : a ≤ t.length) : Ev (fun k => aumbryref04_Behind.f k t (a : Int)) (behS t a 1) := ev_refBehind_at _ t ht hok a rfl ha
theorem ev_refCheck_loop (t : List Cel) (ht : t.length ≤ 64) : ∀ (s : List Cel) (a : Nat), a ≤ t.length → t.drop a = s → (∀ c ∈ t.take a, Okc c) →
 Ev (fun k => aumbryref04_Check.l0 k t (t.length : Int) (a : Int)) (if errs s = 0 then (if segN t 1 = some [] then 0 else 3) else errs s)
 | [], a, ha, hs, hok => by
  have hl := drop_nil_len ha hs
  rw [hl, List.take_length] at hok
  refine Ev.step (f := fun k => (aumbryref04_Behind.f k t 0).bind fun r => (if r = (t.length : Int) then (some 0) else (some 3))) (fun k => by simp only [aumbryref04_Check.l0]; rw [if_neg (by omega)]) ?_
  refine Ev.bind (ev_refBehind t ht hok 0 (by omega)) ?_
  refine Ev.congr (f := fun _ => some (if segN t 1 = some [] then 0 else 3)) (fun k => ?_) (Ev.now _)
  by_cases h : segN t 1 = some []
  ·
   rw [if_pos ((behS_whole t).2 h), if_pos h]
  ·
   rw [if_neg (fun h' => h ((behS_whole t).1 h')), if_neg h]
 | c :: s, a, ha, hs, hok => by
  obtain ⟨h1, h2, h3⟩ := drop_cons hs
  refine Ev.step (f := fun k => (aumbryref03_Kind.f k c.f0).bind fun e => (if e = 0 then (some 4) else (if c.f1 < 0 then (some 5) else (if c.f1 > 4 then (some 5) else (if e = 2 then (if c.f1 = 0 then (aumbryref04_Check.l0 k t (t.length : Int) ((a + 1 : Nat) : Int)) else (some 5)) else (aumbryref04_Check.l0 k t (t.length : Int) ((a + 1 : Nat) : Int))))))) (fun k => ?_) ?_
  ·
   simp only [aumbryref04_Check.l0]
   rw [if_pos (by omega), if_pos (by omega), if_pos (by omega), rd_cel hs, wrap_up (by omega) (by omega)]
   rfl
  ·
   refine Ev.bind (ev_refKind c.f0) ?_
   by_cases he : cellErr c = 0
   ·
    have ho := okc_of he
    have h4 := ho.hi
    have h0 := ho.lo
    refine Ev.congr (f := fun k => aumbryref04_Check.l0 k t (t.length : Int) ((a + 1 : Nat) : Int)) (fun k => ?_) ?_
    ·
     rw [if_neg ho.kind, if_neg (by omega), if_neg (by omega)]
     by_cases hv : kindS c.f0 = 2
     ·
      rw [if_pos hv, if_pos (ho.var hv)]
     ·
      rw [if_neg hv]
    have : errs (c :: s) = errs s := by simp only [errs]; rw [if_pos he]
    rw [this]
    refine ev_refCheck_loop t ht s (a + 1) (by omega) h3 (fun x hx => ?_)
    rw [List.take_succ_eq_append_getElem h1] at hx
    rcases List.mem_append.1 hx with hx | hx
    ·
     exact hok x hx
    ·
     have hce : t[a] = c := by have := h2 c; rw [List.getD_eq_getElem?_getD, List.getElem?_eq_getElem h1] at this; exact this
     rw [List.mem_singleton.1 hx, hce]
     exact ho
   ·
    refine Ev.congr (f := fun _ => some (cellErr c)) (fun k => ?_) ?_
    ·
     unfold cellErr at he ⊢
     by_cases e1 : kindS c.f0 = 0
     ·
      rw [if_pos e1, if_pos e1]
     ·
      rw [if_neg e1] at he
      rw [if_neg e1, if_neg e1]
      by_cases e2 : c.f1 < 0
      ·
       rw [if_pos e2, if_pos e2]
      ·
       rw [if_neg e2] at he
       rw [if_neg e2, if_neg e2]
       by_cases e3 : c.f1 > 4
       ·
        rw [if_pos e3, if_pos e3]
       ·
        rw [if_neg e3] at he
        rw [if_neg e3, if_neg e3]
        by_cases e4 : kindS c.f0 = 2
        ·
         rw [if_pos e4] at he
         rw [if_pos e4, if_pos e4]
         by_cases e5 : c.f1 > 0
         ·
          rw [if_pos e5, if_neg (by omega)]
         ·
          rw [if_neg e5] at he
          exact absurd rfl he
        ·
         rw [if_neg e4] at he
         exact absurd rfl he
    ·
     have : errs (c :: s) = cellErr c := by simp only [errs]; rw [if_neg he]
     rw [this, if_neg he]
     exact Ev.now _
theorem ev_refCheck (t : List Cel) : Ev (fun k => aumbryref04_Check.f k t) (checkS t) := by
 unfold aumbryref04_Check.f checkS
 by_cases h : t.length > 64
 ·
  rw [if_pos h]
  exact Ev.congr (f := fun _ => some 6) (fun k => if_pos (by omega)) (Ev.now _)
 ·
  rw [if_neg h]
  exact Ev.congr (f := fun k => aumbryref04_Check.l0 k t (t.length : Int) ((0 : Nat) : Int)) (fun k => if_neg (by omega)) (ev_refCheck_loop t (by omega) t 0 (by omega) rfl (by simp))
end Go.Proofs.Ytdlkhpfgkghhmaa.P

-- ==== PLs
/- Plain laws: lists of cells as terms, taken apart (for chapters without match). -/
namespace Go.Proofs.Ytdlkhpfgkghhmaa.P
open Go.RowKit Go.Proofs.YtdlkhpfgkghhmaaW.PrintWords

def fstT (t r : List Cel) : List Cel := t.take (t.length - r.length)
theorem segN_append : ∀ {l r : List Cel} {n : Nat} (q : List Cel), segN l n = some r → segN (l ++ q) n = some (r ++ q)
 | l, r, 0, q, h => by
  rw [segN_zero] at h ⊢
  injection h with h
  rw [h]
 | [], r, n + 1, q, h => by cases h
 | c :: l, r, n + 1, q, h => segN_append (l := l) (r := r) (n := n + ar c) q h
theorem segN_split {t : List Cel} {n : Nat} (h : segN t (n + 1) = some []) : ∃ r, segN t 1 = some r ∧ segN r n = some [] := by
 rw [show n + 1 = 1 + n by omega, segN_add] at h
 cases hr : segN t 1 with
 | none => rw [hr] at h; cases h
 | some r => rw [hr] at h; exact ⟨r, rfl, h⟩
theorem segN_fst {t r : List Cel} {n : Nat} (h : segN t n = some r) : t = fstT t r ++ r ∧ segN (fstT t r) n = some [] := by
 obtain ⟨m, hm, hd⟩ := segN_suffix h
 have hl : r.length = t.length - m := by rw [← hd, List.length_drop]
 have he : fstT t r = t.take m := by unfold fstT; rw [show t.length - r.length = m by omega]
 rw [he]
 refine ⟨by rw [← hd]; exact (List.take_append_drop m t).symm, ?_⟩
 have : ∀ (l : List Cel) (n m : Nat), m ≤ l.length → segN l n = some (l.drop m) → segN (l.take m) n = some [] := by
  intro l
  induction l with
  | nil =>
   intro n m hm h
   have hm0 : m = 0 := by simpa using hm
   subst hm0
   simpa using h
  | cons c l ih =>
   intro n m hm h
   cases n with
   | zero =>
    rw [segN_zero] at h ⊢
    injection h with h
    have := congrArg List.length h
    simp only [List.length_cons, List.length_drop] at this
    have hm0 : m = 0 := by simp at hm; omega
    rw [hm0]
    rfl
   | succ n =>
    cases m with
    | zero =>
     have := segN_len h
     simp at this
    | succ m =>
     simp only [List.drop_succ_cons] at h
     exact ih (n + ar c) m (by simpa using hm) h
 rw [← hd] at h
 exact this t n m hm h

theorem bytes_eq (a b : ByteArray) : a.toList = b.toList ↔ a = b := by
 rw [ByteArray.toList_eq, ByteArray.toList_eq]
 constructor
 ·
  intro h
  cases a; cases b
  simp only [ByteArray.mk.injEq]
  exact Array.toList_inj.1 h
 ·
  intro h
  rw [h]
theorem cel_ne (c d : Cel) : ((!((c.f0.toList) == (d.f0.toList)) || (!(c.f1 == d.f1))) = true) ↔ c ≠ d := by
 cases c with | mk a b => cases d with | mk a' b' =>
 simp only [Bool.or_eq_true, Bool.not_eq_true', beq_eq_false_iff_ne, ne_eq, bytes_eq, S54.mk.injEq]
 by_cases h : a = a' <;> simp [h]
theorem ev_cels_loop (F : Nat → List Cel → List Cel → Int → Int → Option Bool)
 (hF : ∀ k x y n i, F (k + 1) x y n i = if i < n then (if 0 ≤ i then (if i < (x.length : Int) then (if i < (y.length : Int) then (if (!((((rd_T54 x i).f0).toList) == (((rd_T54 y i).f0).toList)) || (!(((rd_T54 x i).f1) == ((rd_T54 y i).f1)))) = true then (some false) else (F k x y n (wrap64 (i + 1)))) else (none)) else (none)) else (none)) else (some true))
 (x y : List Cel) (hl : x.length = y.length) (hb : x.length ≤ 9223372036854775806) : ∀ (s u : List Cel) (a : Nat), a ≤ x.length → x.drop a = s → y.drop a = u → Ev (fun k => F k x y (x.length : Int) (a : Int)) (decide (s = u))
 | [], u, a, ha, hs, hu => by
  have h1 := drop_nil_len ha hs
  have h2 : u = [] := by rw [← hu]; exact List.drop_eq_nil_of_le (by omega)
  refine Ev.step (f := fun _ => some true) (fun k => by rw [hF, if_neg (by omega)]) ?_
  rw [h2]
  exact Ev.now _
 | c :: s, u, a, ha, hs, hu => by
  obtain ⟨h1, _, h3⟩ := drop_cons hs
  rcases u with _ | ⟨d, u⟩
  ·
   have := drop_nil_len (by omega) hu
   omega
  obtain ⟨_, _, h4⟩ := drop_cons hu
  by_cases hcd : c = d
  ·
   refine Ev.step (f := fun k => F k x y (x.length : Int) ((a + 1 : Nat) : Int)) (fun k => by
    rw [hF, if_pos (by omega), if_pos (by omega), if_pos (by omega), if_pos (by omega), rd_cel hs, rd_cel hu, if_neg (fun h => (cel_ne c d).1 h hcd), wrap_up (by omega) (by omega)]
    rfl) ?_
   have : decide (c :: s = d :: u) = decide (s = u) := by subst hcd; simp
   rw [this]
   exact ev_cels_loop F hF x y hl hb s u (a + 1) (by omega) h3 h4
  ·
   refine Ev.step (f := fun _ => some false) (fun k => by
    rw [hF, if_pos (by omega), if_pos (by omega), if_pos (by omega), if_pos (by omega), rd_cel hs, rd_cel hu, if_pos ((cel_ne c d).2 hcd)]) ?_
   have : decide (c :: s = d :: u) = false := by simp [hcd]
   rw [this]
   exact Ev.now _
theorem ev_refSame4 (x y : List Cel) (hb : x.length ≤ 9223372036854775806 ∨ y.length ≤ 9223372036854775806) : Ev (fun k => aumbryref04_Same.f k x y) (decide (x = y)) := by
 unfold aumbryref04_Same.f
 by_cases h : (x.length : Int) = (y.length : Int)
 ·
  exact Ev.congr (f := fun k => aumbryref04_Same.l0 k x y (x.length : Int) ((0 : Nat) : Int)) (fun k => by rw [if_pos h]; rfl) (ev_cels_loop _ (fun k x y n i => rfl) x y (by omega) (by omega) x y 0 (by omega) rfl rfl)
 ·
  refine Ev.congr (f := fun _ => some (decide (x = y))) (fun k => ?_) (Ev.now _)
  rw [if_neg h]
  congr 1
  rw [Eq.comm, decide_eq_false_iff_not]
  rintro rfl
  exact h rfl
theorem clone_at (x : List Cel) (h : x.length < 5864062014805) : api_Cell_71.f x = some x := by
 unfold api_Cell_71.f
 rw [if_pos (by simpa using h)]
 rfl
theorem copy_at (x : List Cel) (h : x.length < 5864062014805) : aumbryref04_Copy.f x = some x := by
 unfold aumbryref04_Copy.f
 rw [if_pos (by simpa using h)]
 rfl

theorem checkS_ok {t : List Cel} (h : checkS t = 0) : t.length ≤ 64 ∧ (∀ c ∈ t, Okc c) ∧ segN t 1 = some [] := by
 unfold checkS at h
 by_cases h1 : t.length > 64
 ·
  rw [if_pos h1] at h
  cases h
 ·
  rw [if_neg h1] at h
  by_cases h2 : errs t = 0
  ·
   rw [if_pos h2] at h
   by_cases h3 : segN t 1 = some []
   ·
    exact ⟨by omega, errs_ok h2, h3⟩
   ·
    rw [if_neg h3] at h
    cases h
  ·
   rw [if_neg h2] at h
   exact absurd h h2
def splitT : Nat → List Cel → List (List Cel)
 | 0, _ => []
 | n + 1, l => match segN l 1 with
  | none => []
  | some r => fstT l r :: splitT n r
def kidsS : List Cel → List (List Cel)
 | [] => []
 | c :: l => splitT (ar c) l
theorem splitT_spec : ∀ (n : Nat) (l : List Cel), segN l n = some [] → (splitT n l).flatten = l ∧ (splitT n l).length = n ∧ ∀ a ∈ splitT n l, segN a 1 = some []
 | 0, l, h => by
  rw [segN_zero] at h
  injection h with h
  subst h
  exact ⟨rfl, rfl, fun a ha => by cases ha⟩
 | n + 1, l, h => by
  obtain ⟨r, h1, h2⟩ := segN_split h
  obtain ⟨g1, g2, g3⟩ := splitT_spec n r h2
  have hf := segN_fst h1
  simp only [splitT, h1, List.flatten_cons, List.length_cons, List.mem_cons]
  refine ⟨by rw [g1]; exact hf.1.symm, by omega, fun a ha => ?_⟩
  rcases ha with rfl | ha
  ·
   exact hf.2
  ·
   exact g3 a ha
theorem cellErr_okc {c : Cel} (h : Okc c) : cellErr c = 0 := by
 unfold cellErr
 have h1 := h.lo
 have h2 := h.hi
 rw [if_neg h.kind, if_neg (by omega), if_neg (by omega)]
 by_cases hk : kindS c.f0 = 2
 ·
  rw [if_pos hk, if_neg (by have := h.var hk; omega)]
 ·
  rw [if_neg hk]
theorem ok_errs : ∀ {l : List Cel}, (∀ c ∈ l, Okc c) → errs l = 0
 | [], _ => rfl
 | a :: l, h => by
  unfold errs
  rw [if_pos (cellErr_okc (h a (List.mem_cons_self ..)))]
  exact ok_errs fun c hc => h c (List.mem_cons_of_mem _ hc)
theorem checkS_of {t : List Cel} (h1 : t.length ≤ 64) (h2 : ∀ c ∈ t, Okc c) (h3 : segN t 1 = some []) : checkS t = 0 := by
 unfold checkS
 rw [if_neg (by omega), if_pos (ok_errs h2), if_pos h3]
theorem mem_fstT {t r : List Cel} {c : Cel} (h : c ∈ fstT t r) : c ∈ t := List.mem_of_mem_take h
theorem seg_at : ∀ (t : List Cel) (n a : Nat), segN t n = some [] → a < t.length → ∃ m, segN (t.drop a) (m + 1) = some []
 | [], _, a, _, ha => by simp at ha
 | c :: l, 0, a, h, ha => by rw [segN_zero] at h; injection h with h; cases h
 | c :: l, n + 1, 0, h, ha => ⟨n, h⟩
 | c :: l, n + 1, a + 1, h, ha => by
  have h' : segN l (n + ar c) = some [] := h
  exact seg_at l (n + ar c) a h' (by simpa using ha)
theorem seg_one {t : List Cel} {n a : Nat} (h : segN t n = some []) (ha : a < t.length) : ∃ r, segN (t.drop a) 1 = some r := by
 obtain ⟨m, hm⟩ := seg_at t n a h ha
 obtain ⟨r, hr, _⟩ := segN_split hm
 exact ⟨r, hr⟩
end Go.Proofs.Ytdlkhpfgkghhmaa.P

-- ==== PLz
/- Plain laws: places in lists, sizes that came in. -/
namespace Go.Proofs.Ytdlkhpfgkghhmaa.P
open Go.RowKit Go.Proofs.YtdlkhpfgkghhmaaW.PrintWords
theorem sz_len {l : List Cel} (h : sz23 l) : l.length < 5864062014805 := by
 have := h.1
 omega
theorem rd_trm {t : List (List Cel)} {n : Nat} {c : List Cel} {s : List (List Cel)} (h : t.drop n = c :: s) : rd_L3 t (n : Int) = c := by
 unfold rd_L3
 exact (drop_cons h).2.1 _
theorem up_cast (a : Nat) (h : a < 9223372036854775807) : wrap64 ((a : Int) + 1) = ((a + 1 : Nat) : Int) := by rw [wrap_up (by omega) (by omega)]; rfl
theorem checkS_len {t : List Cel} (h : checkS t = 0) : t.length ≤ 64 := (checkS_ok h).1
end Go.Proofs.Ytdlkhpfgkghhmaa.P

-- ==== PL7v
/- Plain laws: a term's variables and its arguments: the program's answers and the document's (for chapters without texts of terms). -/
namespace Go.Proofs.Ytdlkhpfgkghhmaa.P
open Go.RowKit Go.Proofs.YtdlkhpfgkghhmaaW.PrintWords
/-! ### lists of texts -/
instance txtMem (a : ByteArray) (l : List ByteArray) : Decidable (a ∈ l) :=
 if h : l.any (fun b => decide (a = b)) = true then isTrue (by obtain ⟨b, h1, h2⟩ := List.any_eq_true.1 h; rw [of_decide_eq_true h2]; exact h1) else isFalse (fun h1 => h (List.any_eq_true.2 ⟨a, h1, decide_eq_true rfl⟩))
theorem rd_txt {t : List ByteArray} {n : Nat} {c : ByteArray} {s : List ByteArray} (h : t.drop n = c :: s) : rdOf ByteArray.empty t (n : Int) = c := by
 unfold rdOf
 exact (drop_cons h).2.1 _
theorem ev_index_loop (l : List ByteArray) (a : ByteArray) (hl : l.length ≤ 9223372036854775806) : ∀ (u : List ByteArray) (i : Nat), i ≤ l.length → l.drop i = u →
 ∃ r, Ev (fun k => slices_Index_string_string.l0 k l a (l.length : Int) (i : Int)) r ∧ decide (r ≥ 0) = decide (a ∈ u)
 | [], i, hi, hu => by
  have h1 := drop_nil_len hi hu
  refine ⟨-1, Ev.step (fun k => (show slices_Index_string_string.l0 (k + 1) l a (l.length : Int) (i : Int) = _ from by rw [slices_Index_string_string.l0])) ?_, by simp⟩
  exact evIfn (by omega) (Ev.now _)
 | b :: u, i, hi, hu => by
  obtain ⟨h1, _, h3⟩ := drop_cons hu
  by_cases hab : a.toList = b.toList
  ·
   refine ⟨(i : Int), Ev.step (fun k => (show slices_Index_string_string.l0 (k + 1) l a (l.length : Int) (i : Int) = _ from by rw [slices_Index_string_string.l0])) ?_, ?_⟩
   ·
    refine evIfp (by omega) (evIfp (by omega) (evIfp (by omega) ?_))
    rw [rd_txt hu]
    exact evIfp hab (Ev.now _)
   ·
    rw [(bytes_eq a b).1 hab]
    simp
  ·
   obtain ⟨r, hr, he⟩ := ev_index_loop l a hl u (i + 1) (by omega) h3
   refine ⟨r, Ev.step (fun k => (show slices_Index_string_string.l0 (k + 1) l a (l.length : Int) (i : Int) = _ from by rw [slices_Index_string_string.l0])) ?_, ?_⟩
   ·
    refine evIfp (by omega) (evIfp (by omega) (evIfp (by omega) ?_))
    rw [rd_txt hu]
    refine evIfn hab ?_
    rw [up_cast i (by omega)]
    exact hr
   ·
    rw [he]
    have : a ≠ b := fun h => hab (by rw [h])
    simp [this]
theorem ev_contains (l : List ByteArray) (a : ByteArray) (hl : l.length ≤ 9223372036854775806) : Ev (fun k => slices_Contains_string_string.f k l a) (decide (a ∈ l)) := by
 unfold slices_Contains_string_string.f slices_Index_string_string.f
 obtain ⟨r, hr, he⟩ := ev_index_loop l a hl l 0 (by omega) rfl
 refine Ev.bind hr ?_
 rw [he]
 exact Ev.now _
theorem ev_has_loop (l : List ByteArray) (a : ByteArray) (hl : l.length ≤ 9223372036854775806) : ∀ (u : List ByteArray) (i : Nat), i ≤ l.length → l.drop i = u →
 Ev (fun k => aumbryref03_Has.l0 k l a (l.length : Int) (i : Int)) (decide (a ∈ u))
 | [], i, hi, hu => by
  have h1 := drop_nil_len hi hu
  refine Ev.step (fun k => (show aumbryref03_Has.l0 (k + 1) l a (l.length : Int) (i : Int) = _ from by rw [aumbryref03_Has.l0])) ?_
  exact evIfn (by omega) (Ev.now _)
 | b :: u, i, hi, hu => by
  obtain ⟨h1, _, h3⟩ := drop_cons hu
  refine Ev.step (fun k => (show aumbryref03_Has.l0 (k + 1) l a (l.length : Int) (i : Int) = _ from by rw [aumbryref03_Has.l0])) ?_
  refine evIfp (by omega) (evIfp (by omega) (evIfp (by omega) ?_))
  rw [rd_txt hu]
  by_cases hab : b.toList = a.toList
  ·
   have : decide (a ∈ b :: u) = true := by rw [(bytes_eq b a).1 hab]; simp
   rw [this]
   exact evIfp hab (Ev.now _)
  ·
   have : decide (a ∈ b :: u) = decide (a ∈ u) := by
    have : a ≠ b := fun h => hab (by rw [h])
    simp [this]
   rw [this]
   refine evIfn hab ?_
   rw [up_cast i (by omega)]
   exact ev_has_loop l a hl u (i + 1) (by omega) h3
theorem ev_has (l : List ByteArray) (a : ByteArray) (hl : l.length ≤ 9223372036854775806) : Ev (fun k => aumbryref03_Has.f k l a) (decide (a ∈ l)) := by
 unfold aumbryref03_Has.f
 exact ev_has_loop l a hl l 0 (by omega) rfl
/-! ### variables -/
def varsS : List ByteArray → List Cel → List ByteArray
 | out, [] => out
 | out, c :: l => if kindS c.f0 = 2 then (if c.f0 ∈ out then varsS out l else varsS (out ++ [c.f0]) l) else varsS out l
theorem ev_vars_loop (t : List Cel) (ht : t.length ≤ 1000) : ∀ (u : List Cel) (i : Nat) (out : List ByteArray), i ≤ t.length → t.drop i = u → out.length ≤ i →
 Ev (fun k => term_Vars.l0 k out t (t.length : Int) (i : Int)) (varsS out u, 0)
 | [], i, out, hi, hu, ho => by
  have h1 := drop_nil_len hi hu
  refine Ev.step (fun k => (show term_Vars.l0 (k + 1) out t (t.length : Int) (i : Int) = _ from by rw [term_Vars.l0])) ?_
  exact evIfn (by omega) (Ev.now _)
 | c :: u, i, out, hi, hu, ho => by
  obtain ⟨h1, _, h3⟩ := drop_cons hu
  refine Ev.step (fun k => (show term_Vars.l0 (k + 1) out t (t.length : Int) (i : Int) = _ from by rw [term_Vars.l0])) ?_
  refine evIfp (by omega) (evIfp (by omega) (evIfp (by omega) ?_))
  simp only [rd_cel hu, up_cast i (by omega)]
  refine Ev.bind (ev_kind c.f0) ?_
  have hv : varsS out (c :: u) = if kindS c.f0 = 2 then (if c.f0 ∈ out then varsS out u else varsS (out ++ [c.f0]) u) else varsS out u := rfl
  by_cases hk : kindS c.f0 = 2
  ·
   refine evIfp hk ?_
   rw [hv, if_pos hk]
   refine Ev.bind (ev_contains out c.f0 (by omega)) ?_
   by_cases hm : c.f0 ∈ out
   ·
    rw [if_pos hm]
    exact evIfp (decide_eq_true hm) (ev_vars_loop t ht u (i + 1) out (by omega) h3 (by omega))
   ·
    rw [if_neg hm]
    exact evIfn (by simpa using hm) (evIfp (by omega) (ev_vars_loop t ht u (i + 1) (out ++ [c.f0]) (by omega) h3 (by simp; omega)))
  ·
   refine evIfn hk ?_
   rw [hv, if_neg hk]
   exact ev_vars_loop t ht u (i + 1) out (by omega) h3 (by omega)
theorem ev_rvars_loop (t : List Cel) (ht : t.length ≤ 1000) : ∀ (u : List Cel) (i : Nat) (out : List ByteArray), i ≤ t.length → t.drop i = u → out.length ≤ i →
 Ev (fun k => aumbryref04_Vars.l0 k t out (t.length : Int) (i : Int)) (varsS out u)
 | [], i, out, hi, hu, ho => by
  have h1 := drop_nil_len hi hu
  refine Ev.step (fun k => (show aumbryref04_Vars.l0 (k + 1) t out (t.length : Int) (i : Int) = _ from by rw [aumbryref04_Vars.l0])) ?_
  exact evIfn (by omega) (Ev.now _)
 | c :: u, i, out, hi, hu, ho => by
  obtain ⟨h1, _, h3⟩ := drop_cons hu
  refine Ev.step (fun k => (show aumbryref04_Vars.l0 (k + 1) t out (t.length : Int) (i : Int) = _ from by rw [aumbryref04_Vars.l0])) ?_
  refine evIfp (by omega) (evIfp (by omega) (evIfp (by omega) ?_))
  simp only [rd_cel hu, up_cast i (by omega)]
  refine Ev.bind (ev_refKind c.f0) ?_
  have hv : varsS out (c :: u) = if kindS c.f0 = 2 then (if c.f0 ∈ out then varsS out u else varsS (out ++ [c.f0]) u) else varsS out u := rfl
  by_cases hk : kindS c.f0 = 2
  ·
   refine evIfp hk ?_
   rw [hv, if_pos hk]
   refine Ev.bind (ev_has out c.f0 (by omega)) ?_
   by_cases hm : c.f0 ∈ out
   ·
    rw [if_pos hm]
    exact evIfp (decide_eq_true hm) (ev_rvars_loop t ht u (i + 1) out (by omega) h3 (by omega))
   ·
    rw [if_neg hm]
    exact evIfn (by simpa using hm) (evIfp (by omega) (ev_rvars_loop t ht u (i + 1) (out ++ [c.f0]) (by omega) h3 (by simp; omega)))
  ·
   refine evIfn hk ?_
   rw [hv, if_neg hk]
   exact ev_rvars_loop t ht u (i + 1) out (by omega) h3 (by omega)
theorem ev_vars {t : List Cel} (h : checkS t = 0) : Ev (fun k => term_Vars.f k t) (varsS [] t, 0) := by
 have := checkS_len h
 unfold term_Vars.f
 refine Ev.bind (ev_check t) (evIfp h ?_)
 exact ev_vars_loop t (by omega) t 0 [] (by omega) rfl (by simp)
theorem ev_vars_no {t : List Cel} (h : ¬ checkS t = 0) : Ev (fun k => term_Vars.f k t) ([], checkS t) := by
 unfold term_Vars.f
 exact Ev.bind (ev_check t) (evIfn h (Ev.now _))
theorem ev_rvars {t : List Cel} (h : t.length ≤ 1000) : Ev (fun k => aumbryref04_Vars.f k t) (varsS [] t) := by
 unfold aumbryref04_Vars.f
 exact ev_rvars_loop t h t 0 [] (by omega) rfl (by simp)
theorem varsS_len : ∀ (u : List Cel) (out : List ByteArray), (varsS out u).length ≤ out.length + u.length
 | [], out => by simp [varsS]
 | c :: u, out => by
  have hv : varsS out (c :: u) = if kindS c.f0 = 2 then (if c.f0 ∈ out then varsS out u else varsS (out ++ [c.f0]) u) else varsS out u := rfl
  have h1 := varsS_len u out
  have h2 := varsS_len u (out ++ [c.f0])
  rw [hv]
  simp only [List.length_append, List.length_cons, List.length_nil] at h2 ⊢
  split
  ·
   split <;> omega
  ·
   omega
/-! ### the document's arguments -/
end Go.Proofs.Ytdlkhpfgkghhmaa.P

-- ==== PL7a
/- Plain laws of chapter 7: ground terms; what is to be done for a term; the state ahead of its first op: the program's answers and the document's. -/
namespace Go.Proofs.Ytdlkhpfgkghhmaa.P
open Go.RowKit Go.Proofs.YtdlkhpfgkghhmaaW.PrintWords
abbrev Opn := S70
abbrev Bnd7 := S104
/-! ### ground terms -/
def gndS (t : List Cel) : Bool := decide (checkS t = 0) && (varsS [] t).isEmpty
theorem len_beq_isEmpty {α : Type} (l : List α) : ((l.length : Int) == 0) = l.isEmpty := by cases l <;> rfl
theorem ev_ground (t : List Cel) : Ev (fun k => rewrite_ground.f k t) (gndS t) := by
 unfold rewrite_ground.f gndS
 by_cases h : checkS t = 0
 ·
  refine Ev.bind (ev_vars h) (evIfp rfl ?_)
  rw [decide_eq_true h, Bool.true_and, ← len_beq_isEmpty]
  exact Ev.now _
 ·
  refine Ev.bind (ev_vars_no h) (evIfn h ?_)
  rw [decide_eq_false h, Bool.false_and]
  exact Ev.now _
theorem ev_rGround (t : List Cel) : Ev (fun k => aumbryref07_Ground.f k t) (gndS t) := by
 unfold aumbryref07_Ground.f gndS
 refine Ev.bind (ev_refCheck t) ?_
 by_cases h : checkS t = 0
 ·
  have := checkS_len h
  refine evIfp h (Ev.bind (ev_rvars (by omega)) ?_)
  rw [decide_eq_true h, Bool.true_and, ← len_beq_isEmpty]
  exact Ev.now _
 ·
  refine evIfn h ?_
  rw [decide_eq_false h, Bool.false_and]
  exact Ev.now _
theorem varsS_ge : ∀ (u : List Cel) (out : List ByteArray), out.length ≤ (varsS out u).length
 | [], out => Nat.le_refl _
 | c :: l, out => by
  unfold varsS
  by_cases h : kindS c.f0 = 2
  ·
   rw [if_pos h]
   by_cases h2 : c.f0 ∈ out
   ·
    rw [if_pos h2]; exact varsS_ge l out
   ·
    rw [if_neg h2]
    have := varsS_ge l (out ++ [c.f0])
    simp at this
    omega
  ·
   rw [if_neg h]; exact varsS_ge l out
theorem varsS_nil : ∀ (u : List Cel), varsS [] u = [] ↔ ∀ c ∈ u, kindS c.f0 ≠ 2
 | [] => by simp [varsS]
 | c :: l => by
  unfold varsS
  by_cases h : kindS c.f0 = 2
  ·
   rw [if_pos h, if_neg (by simp)]
   refine ⟨fun e => ?_, fun e => absurd h (e c (by simp))⟩
   have := varsS_ge l ([] ++ [c.f0])
   rw [e] at this
   simp at this
  ·
   rw [if_neg h, varsS_nil l]
   simp [h]
theorem gndS_iff {t : List Cel} : gndS t = true ↔ checkS t = 0 ∧ ∀ c ∈ t, kindS c.f0 ≠ 2 := by
 unfold gndS
 rw [Bool.and_eq_true, decide_eq_true_eq, List.isEmpty_iff, varsS_nil]
/-! ### what is to be done -/
inductive Po (H : ByteArray → List Cel) : Nat → List Cel → List Opn → Prop
 | nil : Po H 0 [] []
 | have_ {n : Nat} {c : Cel} {l : List Cel} {o : List Opn} : 0 < (H c.f0).length → Po H n l o → Po H (n + 1) (c :: l) (⟨2, z54, H c.f0⟩ :: o)
 | make {n : Nat} {c : Cel} {l1 l2 : List Cel} {o1 o2 : List Opn} : ¬ 0 < (H c.f0).length → Po H (ar c) l1 o1 → Po H n l2 o2 → Po H (n + 1) (c :: (l1 ++ l2)) (o1 ++ ⟨1, c, []⟩ :: o2)
theorem po_of {H : ByteArray → List Cel} : ∀ (m : Nat) (l : List Cel) (n : Nat), l.length ≤ m → (∀ c ∈ l, 0 < (H c.f0).length → ar c = 0) → segN l n = some [] → ∃ o, Po H n l o
 | m, [], n, _, _, h => by
  cases n with
  | zero => exact ⟨[], .nil⟩
  | succ n => cases h
 | 0, c :: l, n, hm, _, h => absurd hm (by simp)
 | m + 1, c :: l, n, hm, hv, h => by
  cases n with
  | zero => rw [segN_zero] at h; injection h with h; cases h
  | succ n =>
   have h' : segN l (n + ar c) = some [] := h
   have hm' : l.length ≤ m := by simpa using hm
   have hv' : ∀ c ∈ l, 0 < (H c.f0).length → ar c = 0 := fun x hx => hv x (List.mem_cons_of_mem _ hx)
   by_cases hc : 0 < (H c.f0).length
   ·
    rw [hv c (List.mem_cons_self ..) hc, Nat.add_zero] at h'
    obtain ⟨o, ho⟩ := po_of m l n hm' hv' h'
    exact ⟨_, .have_ hc ho⟩
   ·
    rw [show n + ar c = ar c + n from Nat.add_comm _ _, segN_add] at h'
    obtain ⟨r, h1, h2⟩ := Option.bind_eq_some_iff.mp h'
    obtain ⟨e, h3⟩ := segN_fst h1
    have hl : (fstT l r).length ≤ m := by rw [e] at hm'; simp at hm'; omega
    have hr : r.length ≤ m := by rw [e] at hm'; simp at hm'; omega
    obtain ⟨o1, p1⟩ := po_of m (fstT l r) (ar c) hl (fun x hx => hv' x (mem_fstT hx)) h3
    obtain ⟨o2, p2⟩ := po_of m r n hr (fun x hx => hv' x (by rw [e]; exact List.mem_append_right _ hx)) h2
    have := Po.make hc p1 p2
    rw [← e] at this
    exact ⟨_, this⟩
theorem po_len {H : ByteArray → List Cel} {n : Nat} {l : List Cel} {o : List Opn} (h : Po H n l o) : o.length = l.length := by
 induction h with
 | nil => rfl
 | have_ _ _ ih => simp [ih]
 | make _ _ _ ih1 ih2 => simp [ih1, ih2]; omega
theorem ev_todoN {H : ByteArray → List Cel} (t : List Cel) (ht : t.length ≤ 64) {n : Nat} {l : List Cel} {o : List Opn} (h : Po H n l o) :
 ∀ (pos : Nat) (q : List Cel) (acc : List Opn), t.drop pos = l ++ q → (∀ c ∈ l, Okc c) → acc.length + o.length ≤ 1000 →
  Ev (fun k => todoN (todoL H t k) n (pos : Int) acc) (acc ++ o, ((pos + l.length : Nat) : Int)) := by
 induction h with
 | nil =>
  intro pos q acc _ _ _
  simp only [todoN, List.append_nil, List.length_nil, Nat.add_zero]
  exact Ev.now _
 | @have_ n c l o hc h ih =>
  intro pos q acc hd hok hs
  obtain ⟨hlt, _, hdr⟩ := drop_cons hd
  have hrd := rd_cel hd
  simp only [List.length_cons] at hs
  simp only [todoN]
  refine Ev.bind (a := (acc ++ [⟨2, z54, H c.f0⟩], (pos : Int) + 1)) ?_ ?_
  ·
   refine Ev.step (fun k => (show todoL H t (k + 1) (pos : Int) acc = _ from by rw [todoL])) ?_
   rw [hrd]
   exact evIfp ⟨by omega, by omega⟩ (evIfp hc (evIfp (by omega) (Ev.now _)))
  ·
   have := ih (pos + 1) q (acc ++ [⟨2, z54, H c.f0⟩]) hdr (fun x hx => hok x (List.mem_cons_of_mem _ hx)) (by simp; omega)
   rw [List.append_assoc, show (pos + 1 + l.length) = (pos + (c :: l).length) by simp; omega] at this
   exact this
 | @make n c l1 l2 o1 o2 hc h1 h2 ih1 ih2 =>
  intro pos q acc hd hok hs
  obtain ⟨hlt, _, hdr⟩ := drop_cons hd
  have hrd := rd_cel hd
  have hoc := hok c (List.mem_cons_self ..)
  simp only [List.length_cons, List.length_append] at hs
  replace hdr : t.drop (pos + 1) = l1 ++ (l2 ++ q) := hdr.trans (List.append_assoc _ _ _)
  simp only [todoN]
  refine Ev.bind (a := (acc ++ o1 ++ [⟨1, c, []⟩], ((pos + 1 + l1.length : Nat) : Int))) ?_ ?_
  ·
   refine Ev.step (fun k => (show todoL H t (k + 1) (pos : Int) acc = _ from by rw [todoL])) ?_
   rw [hrd]
   refine evIfp ⟨by omega, by omega⟩ (evIfn hc (evIfp hoc.hi ?_))
   refine Ev.bind (ih1 (pos + 1) (l2 ++ q) acc hdr (fun x hx => hok x (by simp [hx])) (by omega)) ?_
   exact evIfp (by simp; omega) (Ev.now _)
  ·
   have hdr2 : t.drop (pos + 1 + l1.length) = l2 ++ q := by
    rw [← List.drop_drop, hdr, List.drop_left]
   have := ih2 (pos + 1 + l1.length) q (acc ++ o1 ++ [⟨1, c, []⟩]) hdr2 (fun x hx => hok x (by simp [hx])) (by simp; omega)
   rw [show acc ++ o1 ++ [⟨1, c, []⟩] ++ o2 = acc ++ (o1 ++ ⟨1, c, []⟩ :: o2) by simp, show (pos + 1 + l1.length + l2.length) = (pos + (c :: (l1 ++ l2)).length) by simp; omega] at this
   exact this
theorem ev_todo {H : ByteArray → List Cel} {t : List Cel} (ht : checkS t = 0) {o : List Opn} (h : Po H 1 t o) : Ev (fun k => todoL H t k 0 []) (o, (t.length : Int)) := by
 obtain ⟨h1, h2, _⟩ := checkS_ok ht
 have := ev_todoN t h1 h 0 [] [] (by simp) h2 (by rw [po_len h]; simp; omega)
 obtain ⟨K, hK⟩ := this
 refine ⟨K, fun k hk => ?_⟩
 have h3 := hK k hk
 simp only [todoN, List.nil_append, Nat.zero_add] at h3
 obtain ⟨r, e1, e2⟩ := Option.bind_eq_some_iff.mp h3
 rw [show ((0 : Nat) : Int) = 0 from rfl] at e1
 show todoL H t k 0 [] = _
 rw [e1]
 exact e2
/-! ### the document's -/
theorem ev_var7 (p : List Cel) : Ev (fun k => aumbryref05_Var.f k p) (match p with | [c] => kindS c.f0 == 2 | _ => false) := by
 unfold aumbryref05_Var.f
 match p with
 | [] => exact evIfn (by simp) (Ev.now _)
 | [c] =>
  refine evIfp (by simp) (evIfp (by simp) ?_)
  exact Ev.bind (ev_refKind c.f0) (Ev.now _)
 | a :: b :: l => exact evIfn (by simp; omega) (Ev.now _)
def Told (H : ByteArray → List Cel) (binds : List Bnd7) (c : Cel) : Prop :=
 ∃ j : Nat, Ev (fun k => aumbryref05_At.f k binds c.f0) (j : Int) ∧ j < binds.length ∧ (rd_T104 binds (j : Int)).f1 = H c.f0 ∧ (H c.f0).length < 5864062014805
theorem splitT_cons {n : Nat} {c : Cel} {l1 l2 : List Cel} (h : segN l1 (ar c) = some []) : splitT (n + 1) (c :: (l1 ++ l2)) = (c :: l1) :: splitT n l2 := by
 have h1 : segN (c :: (l1 ++ l2)) 1 = some l2 := by
  show segN (l1 ++ l2) (0 + ar c) = some l2
  rw [Nat.zero_add, segN_append l2 h, List.nil_append]
 simp only [splitT, h1]
 congr 1
 unfold fstT
 rw [show (c :: (l1 ++ l2)).length - l2.length = (c :: l1).length by simp; omega, show c :: (l1 ++ l2) = (c :: l1) ++ l2 from rfl, List.take_left]
/-! ### the other way round; Start -/
theorem rd_opn {t : List Opn} {n : Nat} {c : Opn} {s : List Opn} (h : t.drop n = c :: s) : rd_T70 t (n : Int) = c := by
 have := (drop_cons h).2.1 z70
 unfold rd_T70
 simpa using this
theorem gnd_po {t : List Cel} (h : gndS t = true) : ∃ o, Po (fun _ => []) 1 t o :=
 po_of t.length t 1 (Nat.le_refl _) (fun c _ h1 => by simp at h1) (checkS_ok (gndS_iff.1 h).1).2.2
theorem ev_start_ok {t : List Cel} (h : gndS t = true) {o : List Opn} (ho : Po (fun _ => []) 1 t o) : Ev (fun k => startF k t) (o.reverse, [], 0, [], 0) := by
 have hc := (gndS_iff.1 h).1
 unfold startF
 refine Ev.bind (ev_check t) (evIfp hc (Ev.bind (ev_ground t) (evIfp h ?_)))
 exact Ev.bind (ev_todo hc ho) (Ev.now _)
theorem ev_start_no {t : List Cel} (h : ¬ gndS t = true) : Ev (fun k => startF k t) ([], [], 0, [], if checkS t = 0 then 7 else checkS t) := by
 unfold startF
 refine Ev.bind (ev_check t) ?_
 by_cases hc : checkS t = 0
 ·
  rw [if_pos hc]
  exact evIfp hc (Ev.bind (ev_ground t) (evIfn h (Ev.now _)))
 ·
  rw [if_neg hc]
  exact evIfn hc (Ev.now _)
theorem ev_rStart_no {t : List Cel} (h : ¬ gndS t = true) : Ev (fun k => aumbryref07_Start.f k t) ([], [], 0, [], if checkS t = 0 then 7 else checkS t) := by
 unfold aumbryref07_Start.f
 refine Ev.bind (ev_refCheck t) ?_
 by_cases hc : checkS t = 0
 ·
  rw [if_pos hc]
  exact evIfp hc (Ev.bind (ev_rGround t) (evIfn h (Ev.now _)))
 ·
  rw [if_neg hc]
  exact evIfn hc (Ev.now _)
end Go.Proofs.Ytdlkhpfgkghhmaa.P

-- ==== PL7r
/- Plain laws of chapter 6: whether a rule may be: the program's answer and the document's come to one function. -/
namespace Go.Proofs.Ytdlkhpfgkghhmaa.P
open Go.RowKit Go.Proofs.YtdlkhpfgkghhmaaW.PrintWords
abbrev zc : Cel := z54
def ruleS (id : Int) (l r : List Cel) : Int := if id < 0 then 1 else if id > 65535 then 1 else if checkS l = 0 then (if checkS r = 0 then (if l.length > 8 then 6 else if r.length > 8 then 6 else
 if kindS (l.getD 0 zc).f0 = 2 then 20 else if (varsS [] r).all (fun v => decide (v ∈ varsS [] l)) = true then 0 else 7) else checkS r) else checkS l
theorem ev_strF (vl : List ByteArray) (hl : vl.length ≤ 9223372036854775806) : ∀ vr : List ByteArray, Ev (fun k => strF k vl vr) (!(vr.all (fun v => decide (v ∈ vl))))
 | [] => Ev.now _
 | v :: u => by
  have e : (fun k => strF k vl (v :: u)) = (fun k => (slices_Contains_string_string.f k vl v).bind fun b => if b = true then strF k vl u else some true) := rfl
  rw [e]
  refine Ev.bind (ev_contains vl v hl) ?_
  by_cases hv : v ∈ vl
  ·
   refine evIfp (decide_eq_true hv) ?_
   have : (v :: u).all (fun v => decide (v ∈ vl)) = u.all (fun v => decide (v ∈ vl)) := by simp [hv]
   rw [this]
   exact ev_strF vl hl u
  ·
   refine evIfn (by simpa using hv) ?_
   have : (v :: u).all (fun v => decide (v ∈ vl)) = false := by simp [hv]
   rw [this]
   exact Ev.now _
theorem cons_term {t : List Cel} (h : checkS t = 0) : ∃ c l, t = c :: l ∧ segN l (ar c) = some [] := by
 obtain ⟨_, _, h3⟩ := checkS_ok h
 cases t with
 | nil => cases h3
 | cons c l =>
  refine ⟨c, l, rfl, ?_⟩
  have h4 : segN l (0 + ar c) = some [] := h3
  rwa [Nat.zero_add] at h4
theorem ok_pos {l : List Cel} (h : checkS l = 0) : 0 < l.length := by
 obtain ⟨c, u, rfl, _⟩ := cons_term h
 simp
theorem vars_len {l : List Cel} (h : checkS l = 0) : (varsS [] l).length ≤ 64 := by
 have := varsS_len l []
 have := checkS_len h
 simp only [List.length_nil] at *
 omega
theorem ev_rch (id : Int) (l r : List Cel) : Ev (fun k => rule_Check.f k id l r) (ruleS id l r) := by
 unfold rule_Check.f rchF ruleS
 by_cases h1 : id < 0
 ·
  simp only [if_pos h1]; exact Ev.now _
 simp only [if_neg h1]
 by_cases h2 : id > 65535
 ·
  simp only [if_pos h2]; exact Ev.now _
 simp only [if_neg h2]
 refine Ev.bind (ev_check l) ?_
 by_cases h3 : checkS l = 0
 case neg =>
  refine evIfn h3 ?_
  rw [if_neg h3]
  exact Ev.now _
 refine evIfp h3 ?_
 rw [if_pos h3]
 refine Ev.bind (ev_check r) ?_
 by_cases h4 : checkS r = 0
 case neg =>
  refine evIfn h4 ?_
  rw [if_neg h4]
  exact Ev.now _
 refine evIfp h4 ?_
 rw [if_pos h4]
 by_cases h5 : l.length > 8
 ·
  simp only [if_pos h5]; exact Ev.now _
 simp only [if_neg h5]
 by_cases h6 : r.length > 8
 ·
  simp only [if_pos h6]; exact Ev.now _
 simp only [if_neg h6]
 refine evIfp (ok_pos h3) ?_
 refine Ev.bind (ev_kind _) ?_
 have e : rd_T54 l 0 = l.getD 0 zc := rfl
 rw [e]
 by_cases h7 : kindS (l.getD 0 zc).f0 = 2
 ·
  refine evIfp h7 ?_
  rw [if_pos h7]
  exact Ev.now _
 refine evIfn h7 ?_
 rw [if_neg h7]
 refine Ev.bind (ev_vars h3) (Ev.bind (ev_vars h4) ?_)
 refine Ev.bind (ev_strF (varsS [] l) (by have := vars_len h3; omega) (varsS [] r)) ?_
 by_cases h8 : (varsS [] r).all (fun v => decide (v ∈ varsS [] l)) = true
 ·
  rw [if_pos h8, h8]
  exact Ev.now _
 ·
  have h9 : (varsS [] r).all (fun v => decide (v ∈ varsS [] l)) = false := by simpa using h8
  rw [if_neg h8, h9]
  exact Ev.now _
theorem one_var {l : List Cel} (h : checkS l = 0) (hk : kindS (l.getD 0 zc).f0 = 2) : l.length = 1 := by
 obtain ⟨c, u, rfl, h1⟩ := cons_term h
 have h2 := (checkS_ok h).2.1
 have hc := h2 c (List.mem_cons_self ..)
 have ha : ar c = 0 := by unfold ar; rw [hc.var hk]; rfl
 rw [ha] at h1
 have := h1
 rw [segN_zero] at this
 injection this with this
 rw [this]
 rfl
theorem ev_rcheck_loop (vl vr : List ByteArray) (hl : vl.length ≤ 9223372036854775806) (hr : vr.length ≤ 9223372036854775806) : ∀ (u : List ByteArray) (i : Nat), i ≤ vr.length → vr.drop i = u →
 Ev (fun k => aumbryref06_Check.l0 k vl vr (vr.length : Int) (i : Int)) (if u.all (fun v => decide (v ∈ vl)) = true then 0 else 7)
 | [], i, hi, hu => by
  have h1 := drop_nil_len hi hu
  refine Ev.step (fun k => (show aumbryref06_Check.l0 (k + 1) vl vr (vr.length : Int) (i : Int) = _ from by rw [aumbryref06_Check.l0])) ?_
  exact evIfn (by omega) (Ev.now _)
 | v :: u, i, hi, hu => by
  obtain ⟨h1, _, h3⟩ := drop_cons hu
  refine Ev.step (fun k => (show aumbryref06_Check.l0 (k + 1) vl vr (vr.length : Int) (i : Int) = _ from by rw [aumbryref06_Check.l0])) ?_
  refine evIfp (by omega) (evIfp (by omega) (evIfp (by omega) ?_))
  rw [rd_txt hu, up_cast i (by omega)]
  refine Ev.bind (ev_has vl v hl) ?_
  by_cases hv : v ∈ vl
  ·
   refine evIfp (decide_eq_true hv) ?_
   have : (v :: u).all (fun v => decide (v ∈ vl)) = u.all (fun v => decide (v ∈ vl)) := by simp [hv]
   rw [this]
   exact ev_rcheck_loop vl vr hl hr u (i + 1) (by omega) h3
  ·
   refine evIfn (by simpa using hv) ?_
   have : (v :: u).all (fun v => decide (v ∈ vl)) = false := by simp [hv]
   rw [this]
   exact Ev.now _
theorem ev_rcheck (id : Int) (l r : List Cel) : Ev (fun k => aumbryref06_Check.f k id l r) (ruleS id l r) := by
 have hj0t : ∀ q : Int, q = 1 → Ev (fun k => aumbryref06_Check.j0 k true id l r) q := fun q hq => by
  subst hq
  refine Ev.step (fun k => (show aumbryref06_Check.j0 (k + 1) true id l r = _ from by rw [aumbryref06_Check.j0])) ?_
  exact evIfp rfl (Ev.now _)
 have hj1t : ∀ q : Int, q = 6 → Ev (fun k => aumbryref06_Check.j1 k true id l r) q := fun q hq => by
  subst hq
  refine Ev.step (fun k => (show aumbryref06_Check.j1 (k + 1) true id l r = _ from by rw [aumbryref06_Check.j1])) ?_
  exact evIfp rfl (Ev.now _)
 unfold aumbryref06_Check.f ruleS
 by_cases h1 : id < 0
 ·
  rw [if_pos h1]
  exact evIfp h1 (hj0t _ rfl)
 rw [if_neg h1]
 refine evIfn h1 ?_
 by_cases h2 : id > 65535
 ·
  rw [if_pos h2, decide_eq_true h2]
  exact hj0t _ rfl
 rw [if_neg h2, decide_eq_false h2]
 refine Ev.step (fun k => (show aumbryref06_Check.j0 (k + 1) false id l r = _ from by rw [aumbryref06_Check.j0])) ?_
 refine evIfn (by simp) ?_
 refine Ev.bind (ev_refCheck l) ?_
 by_cases h3 : checkS l = 0
 case neg =>
  refine evIfn h3 ?_
  rw [if_neg h3]
  exact Ev.now _
 refine evIfp h3 ?_
 rw [if_pos h3]
 refine Ev.bind (ev_refCheck r) ?_
 by_cases h4 : checkS r = 0
 case neg =>
  refine evIfn h4 ?_
  rw [if_neg h4]
  exact Ev.now _
 refine evIfp h4 ?_
 rw [if_pos h4]
 have hl64 := checkS_len h3
 have hr64 := checkS_len h4
 by_cases h5 : l.length > 8
 ·
  rw [if_pos h5]
  exact evIfp (by omega) (hj1t _ rfl)
 rw [if_neg h5]
 refine evIfn (by omega) ?_
 by_cases h6 : r.length > 8
 ·
  rw [if_pos h6, decide_eq_true (show (r.length : Int) > 8 by omega)]
  exact hj1t _ rfl
 rw [if_neg h6, decide_eq_false (show ¬ (r.length : Int) > 8 by omega)]
 refine Ev.step (fun k => (show aumbryref06_Check.j1 (k + 1) false id l r = _ from by rw [aumbryref06_Check.j1])) ?_
 refine evIfn (by simp) ?_
 have hvar : Ev (fun k => aumbryref05_Var.f k l) (decide (kindS (l.getD 0 zc).f0 = 2)) := by
  unfold aumbryref05_Var.f
  by_cases h7 : (l.length : Int) = 1
  ·
   refine evIfp h7 (evIfp (by omega) ?_)
   refine Ev.bind (ev_refKind _) ?_
   have e : rd_T54 l 0 = l.getD 0 zc := rfl
   rw [e]
   exact Ev.now _
  ·
   refine evIfn h7 ?_
   have : ¬ kindS (l.getD 0 zc).f0 = 2 := fun hk => h7 (by have := one_var h3 hk; omega)
   rw [decide_eq_false this]
   exact Ev.now _
 refine Ev.bind hvar ?_
 by_cases h7 : kindS (l.getD 0 zc).f0 = 2
 ·
  rw [if_pos h7]
  exact evIfp (decide_eq_true h7) (Ev.now _)
 rw [if_neg h7]
 refine evIfn (by simpa using h7) ?_
 refine Ev.bind (ev_rvars (by omega)) (Ev.bind (ev_rvars (by omega)) ?_)
 exact ev_rcheck_loop _ _ (by have := vars_len h3; omega) (by have := vars_len h4; omega) _ 0 (by omega) rfl
theorem ruleS_ok {id : Int} {l r : List Cel} (h : ruleS id l r = 0) : checkS l = 0 ∧ checkS r = 0 ∧ l.length ≤ 8 ∧ r.length ≤ 8 ∧ kindS (l.getD 0 zc).f0 ≠ 2 ∧ (∀ v ∈ varsS [] r, v ∈ varsS [] l) ∧ 0 ≤ id ∧ id ≤ 65535 := by
 unfold ruleS at h
 by_cases h1 : id < 0
 ·
  rw [if_pos h1] at h; cases h
 rw [if_neg h1] at h
 by_cases h2 : id > 65535
 ·
  rw [if_pos h2] at h; cases h
 rw [if_neg h2] at h
 by_cases h3 : checkS l = 0
 case neg => rw [if_neg h3] at h; exact absurd h h3
 rw [if_pos h3] at h
 by_cases h4 : checkS r = 0
 case neg => rw [if_neg h4] at h; exact absurd h h4
 rw [if_pos h4] at h
 by_cases h5 : l.length > 8
 ·
  rw [if_pos h5] at h; cases h
 rw [if_neg h5] at h
 by_cases h6 : r.length > 8
 ·
  rw [if_pos h6] at h; cases h
 rw [if_neg h6] at h
 by_cases h7 : kindS (l.getD 0 zc).f0 = 2
 ·
  rw [if_pos h7] at h; cases h
 rw [if_neg h7] at h
 by_cases h8 : (varsS [] r).all (fun v => decide (v ∈ varsS [] l)) = true
 case neg => rw [if_neg h8] at h; cases h
 exact ⟨h3, h4, by omega, by omega, h7, fun v hv => of_decide_eq_true (List.all_eq_true.1 h8 v hv), by omega, by omega⟩
theorem rcopy_at (id : Int) (l r : List Cel) (hl : l.length < 5864062014805) (hr : r.length < 5864062014805) : aumbryref06_Copy.f id l r = some (id, l, r) := by
 unfold aumbryref06_Copy.f
 rw [copy_at l hl]
 simp only [Option.bind_some]
 rw [copy_at r hr]
 rfl
end Go.Proofs.Ytdlkhpfgkghhmaa.P

-- ==== PL7t
/- Plain laws of chapter 7: may rules be used together: the program's answer and the document's; copies of rules. -/
namespace Go.Proofs.Ytdlkhpfgkghhmaa.P
open Go.RowKit Go.Proofs.YtdlkhpfgkghhmaaW.PrintWords
abbrev Rul := S73
theorem rd_rul {t : List Rul} {n : Nat} {c : Rul} {s : List Rul} (h : t.drop n = c :: s) : rd_T73 t (n : Int) = c := by
 have := (drop_cons h).2.1 z73
 unfold rd_T73
 simpa using this
def chkAll : List Rul → Int
 | [] => 0
 | r :: u => if ruleS r.f0 r.f1 r.f2 = 0 then chkAll u else ruleS r.f0 r.f1 r.f2
def ordP : Option Rul → List Rul → Bool
 | _, [] => true
 | none, b :: u => ordP (some b) u
 | some a, b :: u => decide (a.f0 < b.f0) && ordP (some b) u
def togS (l : List Rul) : Int := if chkAll l = 0 then (if ordP none l = true then 0 else 19) else chkAll l
theorem chkAll_ok : ∀ {l : List Rul}, chkAll l = 0 → ∀ r ∈ l, ruleS r.f0 r.f1 r.f2 = 0
 | [], _, r, hr => by cases hr
 | a :: u, h, r, hr => by
  unfold chkAll at h
  by_cases h1 : ruleS a.f0 a.f1 a.f2 = 0
  ·
   rw [if_pos h1] at h
   rcases List.mem_cons.1 hr with rfl | hr
   ·
    exact h1
   ·
    exact chkAll_ok h r hr
  ·
   rw [if_neg h1] at h; exact absurd h h1
theorem togS_ok {l : List Rul} (h : togS l = 0) : ∀ r ∈ l, ruleS r.f0 r.f1 r.f2 = 0 := by
 unfold togS at h
 by_cases h1 : chkAll l = 0
 ·
  exact chkAll_ok h1
 ·
  rw [if_neg h1] at h; exact absurd h h1
theorem ev_tog1 (l : List Rul) (hl : l.length ≤ 2513169434915) : ∀ (u : List Rul) (i : Nat) (a : Rul), 1 ≤ i → i ≤ l.length → l.drop i = u → rd_T73 l ((i : Int) - 1) = a → Ev (fun k => rewrite_together.l1 k l (i : Int)) (if ordP (some a) u = true then 0 else 19)
 | [], i, a, h0, hi, hu, ha => by
  have h1 := drop_nil_len hi hu
  refine Ev.step (fun k => (show rewrite_together.l1 (k + 1) l (i : Int) = _ from by rw [rewrite_together.l1])) ?_
  exact evIfn (by omega) (Ev.now _)
 | b :: u, i, a, h0, hi, hu, ha => by
  obtain ⟨h1, h2, h3⟩ := drop_cons hu
  refine Ev.step (fun k => (show rewrite_together.l1 (k + 1) l (i : Int) = _ from by rw [rewrite_together.l1])) ?_
  simp only [rd_rul hu, up_cast i (by omega), wrap_id (i := (i : Int) - 1) (by omega) (by omega), ha]
  refine evIfp (by omega) (evIfp (by omega) (evIfp (by omega) (evIfp (by omega) ?_)))
  by_cases g : a.f0 ≥ b.f0
  ·
   refine evIfp g ?_
   rw [if_neg (by simp [ordP]; omega)]
   exact Ev.now _
  ·
   refine evIfn g ?_
   have e : ordP (some a) (b :: u) = ordP (some b) u := by simp only [ordP]; rw [decide_eq_true (by omega), Bool.true_and]
   rw [e]
   exact ev_tog1 l hl u (i + 1) b (by omega) (by omega) h3 (by rw [show ((i + 1 : Nat) : Int) - 1 = (i : Int) by omega]; exact rd_rul hu)
theorem ev_tog0 (l : List Rul) (hl : l.length ≤ 2513169434915) (R : Int) (hR : Ev (fun k => rewrite_together.l1 k l 1) R) : ∀ (u : List Rul) (i : Nat), i ≤ l.length → l.drop i = u → Ev (fun k => rewrite_together.l0 k l l (l.length : Int) (i : Int)) (if chkAll u = 0 then R else chkAll u)
 | [], i, hi, hu => by
  have h1 := drop_nil_len hi hu
  refine Ev.step (fun k => (show rewrite_together.l0 (k + 1) l l (l.length : Int) (i : Int) = _ from by rw [rewrite_together.l0])) ?_
  exact evIfn (by omega) hR
 | b :: u, i, hi, hu => by
  obtain ⟨h1, h2, h3⟩ := drop_cons hu
  refine Ev.step (fun k => (show rewrite_together.l0 (k + 1) l l (l.length : Int) (i : Int) = _ from by rw [rewrite_together.l0])) ?_
  simp only [rd_rul hu, up_cast i (by omega)]
  refine evIfp (by omega) (evIfp (by omega) (evIfp (by omega) (Ev.bind (ev_rch b.f0 b.f1 b.f2) ?_)))
  by_cases g : ruleS b.f0 b.f1 b.f2 = 0
  ·
   refine evIfp g ?_
   rw [show chkAll (b :: u) = chkAll u by simp only [chkAll, if_pos g]]
   exact ev_tog0 l hl R hR u (i + 1) (by omega) h3
  ·
   refine evIfn g ?_
   rw [show chkAll (b :: u) = ruleS b.f0 b.f1 b.f2 by simp only [chkAll, if_neg g], if_neg g]
   exact Ev.now _
theorem ev_tog (l : List Rul) (hl : l.length ≤ 2513169434915) : Ev (fun k => rewrite_together.f k l) (togS l) := by
 unfold rewrite_together.f togS
 refine ev_tog0 l hl (if ordP none l = true then 0 else 19) ?_ l 0 (by omega) rfl
 cases l with
 | nil =>
  refine Ev.step (fun k => (show rewrite_together.l1 (k + 1) [] 1 = _ from by rw [rewrite_together.l1])) ?_
  exact evIfn (by simp) (Ev.now _)
 | cons a u => exact ev_tog1 (a :: u) hl u 1 a (by omega) (by simp) rfl rfl
theorem ev_rtog1 (l : List Rul) (hl : l.length ≤ 2513169434915) : ∀ (u : List Rul) (i : Nat) (p : Option Rul), i ≤ l.length → l.drop i = u → ((p = none ∧ i = 0) ∨ ∃ a, p = some a ∧ 0 < i ∧ rd_T73 l ((i : Int) - 1) = a) → Ev (fun k => aumbryref07_Together.l1 k l (l.length : Int) (i : Int)) (if ordP p u = true then 0 else 19)
 | [], i, p, hi, hu, hp => by
  have h1 := drop_nil_len hi hu
  refine Ev.step (fun k => (show aumbryref07_Together.l1 (k + 1) l (l.length : Int) (i : Int) = _ from by rw [aumbryref07_Together.l1])) ?_
  rw [if_pos (by cases p <;> rfl)]
  exact evIfn (by omega) (Ev.now _)
 | b :: u, i, p, hi, hu, hp => by
  obtain ⟨h1, h2, h3⟩ := drop_cons hu
  refine Ev.step (fun k => (show aumbryref07_Together.l1 (k + 1) l (l.length : Int) (i : Int) = _ from by rw [aumbryref07_Together.l1])) ?_
  have T := ev_rtog1 l hl u (i + 1) (some b) (by omega) h3 (.inr ⟨b, rfl, by omega, by rw [show ((i + 1 : Nat) : Int) - 1 = (i : Int) by omega]; exact rd_rul hu⟩)
  simp only [rd_rul hu, up_cast i (by omega)]
  refine evIfp (by omega) ?_
  rcases hp with ⟨rfl, rfl⟩ | ⟨a, rfl, hi0, ha⟩
  ·
   exact evIfn (by omega) T
  ·
   simp only [wrap_id (i := (i : Int) - 1) (by omega) (by omega), ha]
   refine evIfp (by omega) (evIfp (by omega) (evIfp (by omega) (evIfp (by omega) (evIfp (by omega) ?_))))
   by_cases g : a.f0 ≥ b.f0
   ·
    refine evIfp g ?_
    rw [if_neg (by simp [ordP]; omega)]
    exact Ev.now _
   ·
    refine evIfn g ?_
    have e : ordP (some a) (b :: u) = ordP (some b) u := by simp only [ordP]; rw [decide_eq_true (by omega), Bool.true_and]
    rw [e]
    exact T
theorem ev_rtog0 (l : List Rul) (hl : l.length ≤ 2513169434915) (R : Int) (hR : Ev (fun k => aumbryref07_Together.l1 k l (l.length : Int) 0) R) : ∀ (u : List Rul) (i : Nat), i ≤ l.length → l.drop i = u → Ev (fun k => aumbryref07_Together.l0 k l (l.length : Int) (i : Int)) (if chkAll u = 0 then R else chkAll u)
 | [], i, hi, hu => by
  have h1 := drop_nil_len hi hu
  refine Ev.step (fun k => (show aumbryref07_Together.l0 (k + 1) l (l.length : Int) (i : Int) = _ from by rw [aumbryref07_Together.l0])) ?_
  exact evIfn (by omega) hR
 | b :: u, i, hi, hu => by
  obtain ⟨h1, h2, h3⟩ := drop_cons hu
  refine Ev.step (fun k => (show aumbryref07_Together.l0 (k + 1) l (l.length : Int) (i : Int) = _ from by rw [aumbryref07_Together.l0])) ?_
  simp only [rd_rul hu, up_cast i (by omega)]
  refine evIfp (by omega) (evIfp (by omega) (evIfp (by omega) (Ev.bind (ev_rcheck b.f0 b.f1 b.f2) ?_)))
  by_cases g : ruleS b.f0 b.f1 b.f2 = 0
  ·
   refine evIfp g ?_
   rw [show chkAll (b :: u) = chkAll u by simp only [chkAll, if_pos g]]
   exact ev_rtog0 l hl R hR u (i + 1) (by omega) h3
  ·
   refine evIfn g ?_
   rw [show chkAll (b :: u) = ruleS b.f0 b.f1 b.f2 by simp only [chkAll, if_neg g], if_neg g]
   exact Ev.now _
theorem ev_rtog (l : List Rul) (hl : l.length ≤ 2513169434915) : Ev (fun k => aumbryref07_Together.f k l) (togS l) := by
 unfold aumbryref07_Together.f togS
 exact ev_rtog0 l hl (if ordP none l = true then 0 else 19) (ev_rtog1 l hl l 0 none (by omega) rfl (.inl ⟨rfl, rfl⟩)) l 0 (by omega) rfl
/-! ### copies of rules -/
theorem ev_rules_loop (l : List Rul) (hl : l.length ≤ 2513169434915) (hs : ∀ r ∈ l, r.f1.length < 5864062014805 ∧ r.f2.length < 5864062014805) : ∀ (u : List Rul) (i : Nat) (x : List Rul), i ≤ l.length → l.drop i = u → x = l.take i →
 Ev (fun k => aumbryref06_CopyAll.l0 k l x (l.length : Int) (i : Int)) l
 | [], i, x, hi, hu, hx => by
  have h1 := drop_nil_len hi hu
  refine Ev.step (fun k => (show aumbryref06_CopyAll.l0 (k + 1) l x (l.length : Int) (i : Int) = _ from by rw [aumbryref06_CopyAll.l0])) ?_
  refine evIfn (by omega) ?_
  have : x = l := by rw [hx, h1, List.take_length]
  rw [this]
  exact Ev.now _
 | a :: u, i, x, hi, hu, hx => by
  obtain ⟨h1, h2, h3⟩ := drop_cons hu
  refine Ev.step (fun k => (show aumbryref06_CopyAll.l0 (k + 1) l x (l.length : Int) (i : Int) = _ from by rw [aumbryref06_CopyAll.l0])) ?_
  refine evIfp (by omega) (evIfp (by omega) (evIfp (by omega) ?_))
  simp only [rd_rul hu, up_cast i (by omega)]
  have hm : a ∈ l := List.mem_of_mem_drop (hu ▸ List.mem_cons_self ..)
  refine Ev.bind (evIs (rcopy_at a.f0 a.f1 a.f2 (hs a hm).1 (hs a hm).2)) ?_
  have hxl : x.length = i := by rw [hx, List.length_take]; omega
  refine evIfp (by omega) ?_
  refine ev_rules_loop l hl hs u (i + 1) (x ++ [a]) (by omega) h3 ?_
  rw [hx, List.take_succ_eq_append_getElem h1]
  have := h2 a
  rw [List.getD_eq_getElem?_getD, List.getElem?_eq_getElem h1] at this
  rw [show l[i] = a from this]
theorem ev_rules (l : List Rul) (hl : l.length ≤ 2513169434915) (hs : ∀ r ∈ l, r.f1.length < 5864062014805 ∧ r.f2.length < 5864062014805) : Ev (fun k => aumbrylaw07_rules.f k l) l := by
 unfold aumbrylaw07_rules.f
 exact Ev.bind (show Ev (fun k => aumbryref06_CopyAll.f k l) l from ev_rules_loop l hl hs l 0 [] (by omega) rfl rfl) (Ev.now _)
end Go.Proofs.Ytdlkhpfgkghhmaa.P

-- ==== PQ7c
/- Plain laws, part c: where a pattern fits: along the cells, and part by part. -/
namespace Go.Proofs.Ytdlkhpfgkghhmaa.P.M
open Go.RowKit Go.Proofs.YtdlkhpfgkghhmaaW.PrintWords

abbrev Bnd := S104
def lookB (out : List Bnd) (s : ByteArray) : Option (List Cel) := (out.find? (fun b => decide (b.f0 = s))).map (·.f1)
def fstT (t r : List Cel) : List Cel := t.take (t.length - r.length)
def mat : List Cel → List Cel → List Bnd → Option (List Bnd × List Cel)
 | [], t, out => some (out, t)
 | c :: p, t, out =>
  if kindS c.f0 = 2 then
   match segN t 1 with
   | none => none
   | some r => match lookB out c.f0 with
    | none => mat p r (out ++ [⟨c.f0, fstT t r⟩])
    | some v => if v = fstT t r then mat p r out else none
  else match t with
   | [] => none
   | d :: t' => if d = c then mat p t' out else none

theorem segN_append : ∀ {l r : List Cel} {n : Nat} (q : List Cel), segN l n = some r → segN (l ++ q) n = some (r ++ q)
 | l, r, 0, q, h => by
  rw [segN_zero] at h ⊢
  injection h with h
  rw [h]
 | [], r, n + 1, q, h => by cases h
 | c :: l, r, n + 1, q, h => segN_append (l := l) (r := r) (n := n + ar c) q h
theorem segN_split {t : List Cel} {n : Nat} (h : segN t (n + 1) = some []) : ∃ r, segN t 1 = some r ∧ segN r n = some [] := by
 rw [show n + 1 = 1 + n by omega, segN_add] at h
 cases hr : segN t 1 with
 | none => rw [hr] at h; cases h
 | some r => rw [hr] at h; exact ⟨r, rfl, h⟩
theorem segN_nil_pos {n : Nat} (h : segN [] n = some []) : n = 0 := by
 cases n with
 | zero => rfl
 | succ n => cases h
theorem segN_fst {t r : List Cel} {n : Nat} (h : segN t n = some r) : t = fstT t r ++ r ∧ segN (fstT t r) n = some [] := by
 obtain ⟨m, hm, hd⟩ := segN_suffix h
 have hl : r.length = t.length - m := by rw [← hd, List.length_drop]
 have he : fstT t r = t.take m := by unfold fstT; rw [show t.length - r.length = m by omega]
 rw [he]
 refine ⟨by rw [← hd]; exact (List.take_append_drop m t).symm, ?_⟩
 have : ∀ (l : List Cel) (n m : Nat), m ≤ l.length → segN l n = some (l.drop m) → segN (l.take m) n = some [] := by
  intro l
  induction l with
  | nil =>
   intro n m hm h
   have hm0 : m = 0 := by simpa using hm
   subst hm0
   simpa using h
  | cons c l ih =>
   intro n m hm h
   cases n with
   | zero =>
    rw [segN_zero] at h ⊢
    injection h with h
    have := congrArg List.length h
    simp only [List.length_cons, List.length_drop] at this
    have hm0 : m = 0 := by simp at hm; omega
    rw [hm0]
    rfl
   | succ n =>
    cases m with
    | zero =>
     have := segN_len h
     simp at this
    | succ m =>
     simp only [List.drop_succ_cons] at h
     exact ih (n + ar c) m (by simpa using hm) h
 rw [← hd] at h
 exact this t n m hm h

theorem ev_variable (c : Cel) : Ev (fun k => match_variable.f k c.f0 c.f1) (kindS c.f0 == 2) := by
 unfold match_variable.f
 exact Ev.bind (ev_kind c.f0) (Ev.now _)
theorem ev_end_loop (t : List Cel) (ht : t.length ≤ 64) (hok : ∀ c ∈ t, Okc c) : ∀ (s : List Cel) (a n : Nat) (r : List Cel), a ≤ t.length → t.drop a = s → n ≤ 1 + 4 * a → segN s n = some r →
 Ev (fun k => match_end.l0 k t (a : Int) (n : Int)) ((t.length - r.length : Nat) : Int)
 | s, a, 0, r, ha, hs, hn, hr => by
  refine Ev.step (f := fun _ => some (a : Int)) (fun k => by simp only [match_end.l0]; rw [if_neg (by omega)]) ?_
  rw [segN_zero] at hr
  injection hr with hr
  have : ((t.length - r.length : Nat) : Int) = (a : Int) := by rw [← hr, ← hs, List.length_drop]; omega
  rw [this]
  exact Ev.now _
 | [], a, n + 1, r, ha, hs, hn, hr => by cases hr
 | c :: s, a, n + 1, r, ha, hs, hn, hr => by
  obtain ⟨h1, h2, h3⟩ := drop_cons hs
  have hc : Okc c := hok c (List.mem_of_mem_drop (hs ▸ List.mem_cons_self ..))
  have har : (ar c : Int) = c.f1 := by unfold ar; have := hc.lo; omega
  have hh := hc.hi
  have hl0 := hc.lo
  refine Ev.step (f := fun k => match_end.l0 k t ((a + 1 : Nat) : Int) ((n + ar c : Nat) : Int)) (fun k => ?_) (ev_end_loop t ht hok s (a + 1) (n + ar c) r (by omega) h3 (by omega) hr)
  simp only [match_end.l0]
  rw [if_pos (by omega), if_pos (by omega), if_pos (by omega), rd_cel hs, wrap_up (by omega) (by omega)]
  have e : wrap64 (((n + 1 : Nat) : Int) + wrap64 (c.f1 - 1)) = ((n + ar c : Nat) : Int) := by
   rw [wrap_id (i := c.f1 - 1) (by omega) (by omega), wrap_id (by omega) (by omega)]
   omega
  rw [e]
  rfl
theorem ev_end (t : List Cel) (ht : t.length ≤ 64) (hok : ∀ c ∈ t, Okc c) (a : Nat) (ha : a ≤ t.length) {r : List Cel} (hr : segN (t.drop a) 1 = some r) : Ev (fun k => match_end.f k t (a : Int)) ((t.length - r.length : Nat) : Int) := by
 unfold match_end.f
 exact ev_end_loop t ht hok _ a 1 r ha rfl (by omega) hr
theorem bytes_eq (a b : ByteArray) : a.toList = b.toList ↔ a = b := by
 rw [ByteArray.toList_eq, ByteArray.toList_eq]
 constructor
 ·
  intro h
  cases a; cases b
  simp only [ByteArray.mk.injEq]
  exact Array.toList_inj.1 h
 ·
  intro h
  rw [h]
theorem cel_ne (c d : Cel) : ((!((c.f0.toList) == (d.f0.toList)) || (!(c.f1 == d.f1))) = true) ↔ c ≠ d := by
 cases c with | mk a b => cases d with | mk a' b' =>
 simp only [Bool.or_eq_true, Bool.not_eq_true', beq_eq_false_iff_ne, ne_eq, bytes_eq, S54.mk.injEq]
 by_cases h : a = a' <;> simp [h]
theorem ev_cels_loop (F : Nat → List Cel → List Cel → Int → Int → Option Bool)
 (hF : ∀ k x y n i, F (k + 1) x y n i = if i < n then (if 0 ≤ i then (if i < (x.length : Int) then (if i < (y.length : Int) then (if (!((((rd_T54 x i).f0).toList) == (((rd_T54 y i).f0).toList)) || (!(((rd_T54 x i).f1) == ((rd_T54 y i).f1)))) = true then (some false) else (F k x y n (wrap64 (i + 1)))) else (none)) else (none)) else (none)) else (some true))
 (x y : List Cel) (hl : x.length = y.length) (hb : x.length ≤ 9223372036854775806) : ∀ (s u : List Cel) (a : Nat), a ≤ x.length → x.drop a = s → y.drop a = u → Ev (fun k => F k x y (x.length : Int) (a : Int)) (decide (s = u))
 | [], u, a, ha, hs, hu => by
  have h1 := drop_nil_len ha hs
  have h2 : u = [] := by rw [← hu]; exact List.drop_eq_nil_of_le (by omega)
  refine Ev.step (f := fun _ => some true) (fun k => by rw [hF, if_neg (by omega)]) ?_
  rw [h2]
  exact Ev.now _
 | c :: s, u, a, ha, hs, hu => by
  obtain ⟨h1, _, h3⟩ := drop_cons hs
  rcases u with _ | ⟨d, u⟩
  ·
   have := drop_nil_len (by omega) hu
   omega
  obtain ⟨_, _, h4⟩ := drop_cons hu
  by_cases hcd : c = d
  ·
   refine Ev.step (f := fun k => F k x y (x.length : Int) ((a + 1 : Nat) : Int)) (fun k => by
    rw [hF, if_pos (by omega), if_pos (by omega), if_pos (by omega), if_pos (by omega), rd_cel hs, rd_cel hu, if_neg (fun h => (cel_ne c d).1 h hcd), wrap_up (by omega) (by omega)]
    rfl) ?_
   have : decide (c :: s = d :: u) = decide (s = u) := by subst hcd; simp
   rw [this]
   exact ev_cels_loop F hF x y hl hb s u (a + 1) (by omega) h3 h4
  ·
   refine Ev.step (f := fun _ => some false) (fun k => by
    rw [hF, if_pos (by omega), if_pos (by omega), if_pos (by omega), if_pos (by omega), rd_cel hs, rd_cel hu, if_pos ((cel_ne c d).2 hcd)]) ?_
   have : decide (c :: s = d :: u) = false := by simp [hcd]
   rw [this]
   exact Ev.now _
theorem ev_equal (x y : List Cel) (hb : x.length ≤ 9223372036854775806 ∨ y.length ≤ 9223372036854775806) : Ev (fun k => api_Cell_104.f k x y) (decide (x = y)) := by
 unfold api_Cell_104.f
 by_cases h : (x.length : Int) = (y.length : Int)
 ·
  exact Ev.congr (f := fun k => api_Cell_104.l0 k x y (x.length : Int) ((0 : Nat) : Int)) (fun k => by rw [if_pos h]; rfl) (ev_cels_loop _ (fun k x y n i => rfl) x y (by omega) (by omega) x y 0 (by omega) rfl rfl)
 ·
  refine Ev.congr (f := fun _ => some (decide (x = y))) (fun k => ?_) (Ev.now _)
  rw [if_neg h]
  congr 1
  rw [Eq.comm, decide_eq_false_iff_not]
  rintro rfl
  exact h rfl
theorem ev_refSame4 (x y : List Cel) (hb : x.length ≤ 9223372036854775806 ∨ y.length ≤ 9223372036854775806) : Ev (fun k => aumbryref04_Same.f k x y) (decide (x = y)) := by
 unfold aumbryref04_Same.f
 by_cases h : (x.length : Int) = (y.length : Int)
 ·
  exact Ev.congr (f := fun k => aumbryref04_Same.l0 k x y (x.length : Int) ((0 : Nat) : Int)) (fun k => by rw [if_pos h]; rfl) (ev_cels_loop _ (fun k x y n i => rfl) x y (by omega) (by omega) x y 0 (by omega) rfl rfl)
 ·
  refine Ev.congr (f := fun _ => some (decide (x = y))) (fun k => ?_) (Ev.now _)
  rw [if_neg h]
  congr 1
  rw [Eq.comm, decide_eq_false_iff_not]
  rintro rfl
  exact h rfl
structure MapOk (m : List Cel) (out : List Bnd) : Prop where
 len : m.length = out.length
 has : ∀ s, mapHas m s = (lookB out s).isSome
 at_ : ∀ s v, lookB out s = some v → ∃ j : Nat, mapAt m s = (j : Int) ∧ j < out.length ∧ ∃ b, out[j]? = some b ∧ b.f1 = v
theorem data_eq (a b : ByteArray) : a.data.toList = b.data.toList ↔ a = b := by
 rw [← bytes_eq, ByteArray.toList_eq, ByteArray.toList_eq]
theorem mapOk_nil : MapOk [] [] := ⟨rfl, fun s => rfl, fun s v h => by cases h⟩
theorem mapOk_put {m : List Cel} {out : List Bnd} (h : MapOk m out) (s : ByteArray) (v : List Cel) (hn : lookB out s = none) : MapOk (mapPut m s (out.length : Int)) (out ++ [⟨s, v⟩]) := by
 have hlook : ∀ s', lookB (out ++ [⟨s, v⟩]) s' = if s = s' then some v else lookB out s' := by
  intro s'
  unfold lookB at hn ⊢
  rw [List.find?_append]
  by_cases hs : s = s'
  ·
   subst hs
   rw [if_pos rfl]
   cases hf : out.find? (fun b => decide (b.f0 = s)) with
   | none => simp
   | some b => rw [hf] at hn; cases hn
  ·
   rw [if_neg hs]
   cases hf : out.find? (fun b => decide (b.f0 = s')) with
   | none => simp [hs]
   | some b => simp
 refine ⟨by simp [mapPut, h.len], fun s' => ?_, fun s' v' hv => ?_⟩
 ·
  rw [hlook]
  by_cases hs : s = s'
  ·
   subst hs
   simp [mapHas, mapPut]
  ·
   rw [if_neg hs, ← h.has s']
   have : (s.data.toList == s'.data.toList) = false := by simp only [beq_eq_false_iff_ne, ne_eq, data_eq]; exact hs
   simp only [mapHas, mapPut, List.any_cons, this, Bool.false_or]
 ·
  rw [hlook] at hv
  by_cases hs : s = s'
  ·
   subst hs
   rw [if_pos rfl] at hv
   injection hv with hv
   subst hv
   exact ⟨out.length, by simp [mapAt, mapPut], by simp, ⟨s, v⟩, by simp, rfl⟩
  ·
   rw [if_neg hs] at hv
   obtain ⟨j, h1, h2, b, h3, h4⟩ := h.at_ s' v' hv
   have : (s.data.toList == s'.data.toList) = false := by simp only [beq_eq_false_iff_ne, ne_eq, data_eq]; exact hs
   refine ⟨j, ?_, by simp; omega, b, by rw [List.getElem?_append_left h2]; exact h3, h4⟩
   rw [← h1]
   simp only [mapAt, mapPut, List.find?_cons, this]
def matR (x : Option (List Bnd × List Cel)) : List Bnd × Bool × Int := match x with
 | none => ([], false, 0)
 | some y => (y.1, true, 0)
theorem ev_match_loop (p t : List Cel) (hp : p.length ≤ 64) (ht : t.length ≤ 64) (hokp : ∀ c ∈ p, Okc c) (hokt : ∀ c ∈ t, Okc c) :
 ∀ (s : List Cel) (i a n : Nat) (out : List Bnd) (m : List Cel), i ≤ p.length → a ≤ t.length → p.drop i = s → segN s n = some [] → segN (t.drop a) n = some [] → MapOk m out → out.length ≤ i →
 Ev (fun k => match_Match.l0 k t out m (a : Int) p (p.length : Int) (i : Int)) (matR (mat s (t.drop a) out))
 | [], i, a, n, out, m, hi, ha, hs, hn, hnt, hm, ho => by
  have h1 := drop_nil_len hi hs
  refine Ev.step (f := fun _ => some (out, true, 0)) (fun k => by simp only [match_Match.l0]; rw [if_neg (by omega)]) ?_
  exact Ev.now _
 | c :: s, i, a, n, out, m, hi, ha, hs, hn, hnt, hm, ho => by
  obtain ⟨h1, _, h3⟩ := drop_cons hs
  have hc : Okc c := hokp c (List.mem_of_mem_drop (hs ▸ List.mem_cons_self ..))
  obtain ⟨n, rfl⟩ : ∃ q, n = q + 1 := by
   cases n with
   | zero => rw [segN_zero] at hn; injection hn with hn; cases hn
   | succ n => exact ⟨n, rfl⟩
  have hn' : segN s (n + ar c) = some [] := hn
  obtain ⟨r, hr1, hrn⟩ := segN_split hnt
  have hks := kindS_size hc.kind
  by_cases hv : kindS c.f0 = 2
  ·
   have hac : ar c = 0 := by unfold ar; rw [hc.var hv]; rfl
   rw [hac, Nat.add_zero] at hn'
   obtain ⟨q, hq, hqr⟩ := segN_suffix hr1
   rw [List.drop_drop] at hqr
   rw [List.length_drop] at hq
   have hrl : r.length = t.length - (a + q) := by rw [← hqr, List.length_drop]
   have hpart : ((t.take (((t.length - r.length : Nat) : Int)).toNat).drop ((a : Int)).toNat : List Cel) = fstT (t.drop a) r := by
    unfold fstT
    rw [List.length_drop]
    simp only [Int.toNat_natCast]
    rw [List.drop_take]
    congr 1
    omega
   have hfl : (fstT (t.drop a) r).length = q := by unfold fstT; rw [List.length_take, List.length_drop]; omega
   have hw1 : True → wrap64 ((a : Int) + ((fstT (t.drop a) r).length : Int)) = ((a + q : Nat) : Int) := fun _ => by rw [hfl, wrap_id (by omega) (by omega)]; omega
   have hw2 : True → wrap64 ((i : Int) + 1) = ((i + 1 : Nat) : Int) := fun _ => by rw [wrap_up (by omega) (by omega)]; rfl
   refine Ev.step (fun k => (show match_Match.l0 (k + 1) t out m (a : Int) p (p.length : Int) (i : Int) = _ from by rw [match_Match.l0])) ?_
   refine evIfp (by omega) (evIfp (by omega) (evIfp (by omega) ?_))
   simp only [rd_cel hs]
   refine Ev.bind (ev_variable c) ?_
   refine evIfp (by simp [hv]) ?_
   refine Ev.bind (ev_end t ht hokt a ha hr1) ?_
   refine evIfp (by omega) (evIfp (by omega) (evIfp (by omega) ?_))
   refine Ev.bind (Ev.now _) ?_
   simp only [hpart, hw1 trivial, hw2 trivial]
   refine evIfp (by omega) ?_
   have hmat : mat (c :: s) (t.drop a) out = (match lookB out c.f0 with | none => mat s r (out ++ [⟨c.f0, fstT (t.drop a) r⟩]) | some v => if v = fstT (t.drop a) r then mat s r out else none) := by
    show (if kindS c.f0 = 2 then _ else _) = _
    rw [if_pos hv, hr1]
   rw [hmat]
   cases hl : lookB out c.f0 with
   | none =>
    refine evIfn (by rw [hm.has, hl]; simp) ?_
    have hml := hm.len
    refine evIfp (by omega) ?_
    refine Ev.bind (evIs (clone_at _ (by omega))) ?_
    refine evIfp (by omega) ?_
    have := ev_match_loop p t hp ht hokp hokt s (i + 1) (a + q) n (out ++ [⟨c.f0, fstT (t.drop a) r⟩]) (mapPut m c.f0 (out.length : Int)) (by omega) (by omega) h3 hn' (by rw [hqr]; exact hrn) (mapOk_put hm _ _ hl) (by simp; omega)
    rw [hqr] at this
    exact this
   | some v =>
    obtain ⟨j, hj1, hj2, b, hj3, hj4⟩ := hm.at_ _ _ hl
    have hrd : (rd_T104 out (mapAt m c.f0)).f1 = v := by
     rw [hj1]
     unfold rd_T104
     rw [List.getD_eq_getElem?_getD, Int.toNat_natCast, hj3]
     exact hj4
    refine evIfp (by rw [hm.has, hl]; simp) ?_
    refine evIfp (by omega) (evIfp (by omega) ?_)
    simp only [hrd]
    refine Ev.bind (ev_equal _ _ (.inr (by omega))) ?_
    by_cases he : v = fstT (t.drop a) r
    ·
     refine evIfp (by simpa using he) ?_
     have := ev_match_loop p t hp ht hokp hokt s (i + 1) (a + q) n out m (by omega) (by omega) h3 hn' (by rw [hqr]; exact hrn) hm (by omega)
     rw [hqr] at this
     simp only [he, if_true]
     exact this
    ·
     refine evIfn (by simpa using he) ?_
     simp only [he, if_false]
     exact Ev.now _
  ·
   rcases ht' : t.drop a with _ | ⟨d, u⟩
   ·
    rw [ht'] at hnt
    cases hnt
   obtain ⟨g1, _, g3⟩ := drop_cons ht'
   have hw1 : True → wrap64 ((a : Int) + 1) = ((a + 1 : Nat) : Int) := fun _ => by rw [wrap_up (by omega) (by omega)]; rfl
   have hw2 : True → wrap64 ((i : Int) + 1) = ((i + 1 : Nat) : Int) := fun _ => by rw [wrap_up (by omega) (by omega)]; rfl
   refine Ev.step (fun k => (show match_Match.l0 (k + 1) t out m (a : Int) p (p.length : Int) (i : Int) = _ from by rw [match_Match.l0])) ?_
   refine evIfp (by omega) (evIfp (by omega) (evIfp (by omega) ?_))
   simp only [rd_cel hs, rd_cel ht']
   refine Ev.bind (ev_variable c) ?_
   refine evIfn (by simp [hv]) ?_
   refine evIfp (by omega) (evIfp (by omega) ?_)
   have hmat : mat (c :: s) (d :: u) out = if d = c then mat s u out else none := by
    show (if kindS c.f0 = 2 then _ else _) = _
    rw [if_neg hv]
   rw [hmat]
   by_cases hdc : d = c
   ·
    refine evIfn (fun h => (cel_ne d c).1 h hdc) ?_
    rw [if_pos hdc]
    simp only [hw1 trivial, hw2 trivial]
    have := ev_match_loop p t hp ht hokp hokt s (i + 1) (a + 1) (n + ar c) out m (by omega) (by omega) h3 hn' (by rw [ht'] at hnt; rw [g3, ← hdc]; exact hnt) hm (by omega)
    rw [g3] at this
    exact this
   ·
    refine evIfp ((cel_ne d c).2 hdc) ?_
    rw [if_neg hdc]
    exact Ev.now _
theorem checkS_ok {t : List Cel} (h : checkS t = 0) : t.length ≤ 64 ∧ (∀ c ∈ t, Okc c) ∧ segN t 1 = some [] := by
 unfold checkS at h
 by_cases h1 : t.length > 64
 ·
  rw [if_pos h1] at h
  cases h
 ·
  rw [if_neg h1] at h
  by_cases h2 : errs t = 0
  ·
   rw [if_pos h2] at h
   by_cases h3 : segN t 1 = some []
   ·
    exact ⟨by omega, errs_ok h2, h3⟩
   ·
    rw [if_neg h3] at h
    cases h
  ·
   rw [if_neg h2] at h
   exact absurd h h2
def matchS (p t : List Cel) : List Bnd × Bool × Int := if checkS p = 0 then (if checkS t = 0 then matR (mat p t []) else ([], false, checkS t)) else ([], false, checkS p)
theorem ev_match (p t : List Cel) : Ev (fun k => match_Match.f k p t) (matchS p t) := by
 unfold match_Match.f matchS
 refine Ev.bind (ev_check p) ?_
 by_cases hp : checkS p = 0
 ·
  rw [if_pos hp]
  refine evIfp hp ?_
  refine Ev.bind (ev_check t) ?_
  by_cases ht : checkS t = 0
  ·
   rw [if_pos ht]
   refine evIfp ht ?_
   obtain ⟨p1, p2, p3⟩ := checkS_ok hp
   obtain ⟨t1, t2, t3⟩ := checkS_ok ht
   exact ev_match_loop p t p1 t1 p2 t2 p 0 0 1 [] [] (by omega) (by omega) rfl p3 t3 mapOk_nil (by simp)
  ·
   rw [if_neg ht]
   exact evIfn ht (Ev.now _)
 ·
  rw [if_neg hp]
  exact evIfn hp (Ev.now _)

def splitT : Nat → List Cel → List (List Cel)
 | 0, _ => []
 | n + 1, l => match segN l 1 with
  | none => []
  | some r => fstT l r :: splitT n r
def kidsS : List Cel → List (List Cel)
 | [] => []
 | c :: l => splitT (ar c) l
theorem splitT_spec : ∀ (n : Nat) (l : List Cel), segN l n = some [] → (splitT n l).flatten = l ∧ (splitT n l).length = n ∧ ∀ a ∈ splitT n l, segN a 1 = some []
 | 0, l, h => by
  rw [segN_zero] at h
  injection h with h
  subst h
  exact ⟨rfl, rfl, fun a ha => by cases ha⟩
 | n + 1, l, h => by
  obtain ⟨r, h1, h2⟩ := segN_split h
  obtain ⟨g1, g2, g3⟩ := splitT_spec n r h2
  have hf := segN_fst h1
  simp only [splitT, h1, List.flatten_cons, List.length_cons, List.mem_cons]
  refine ⟨by rw [g1]; exact hf.1.symm, by omega, fun a ha => ?_⟩
  rcases ha with rfl | ha
  ·
   exact hf.2
  ·
   exact g3 a ha
theorem ev_kids_loop (t : List Cel) (ht : t.length ≤ 64) (hok : ∀ c ∈ t, Okc c) : ∀ (n a : Nat) (out : List (List Cel)), a ≤ t.length → segN (t.drop a) n = some [] → out.length ≤ 64 → out.length + n ≤ 64 → 0 < a →
 Ev (fun k => aumbryref04_Kids.l0 k t out (a : Int)) (out ++ splitT n (t.drop a))
 | 0, a, out, ha, hn, ho, hon, hp => by
  rw [segN_zero] at hn
  injection hn with hn
  have := drop_nil_len ha hn
  refine Ev.step (fun k => (show aumbryref04_Kids.l0 (k + 1) t out (a : Int) = _ from by rw [aumbryref04_Kids.l0])) ?_
  refine evIfn (by omega) ?_
  simp only [splitT, List.append_nil]
  exact Ev.now _
 | n + 1, a, out, ha, hn, ho, hon, hp => by
  obtain ⟨r, hr, hrn⟩ := segN_split hn
  have hlt : a < t.length := by
   rcases Nat.lt_or_ge a t.length with h | h
   ·
    exact h
   ·
    rw [List.drop_eq_nil_of_le h] at hr
    cases hr
  obtain ⟨q, hq, hqr⟩ := segN_suffix hr
  rw [List.drop_drop] at hqr
  rw [List.length_drop] at hq
  have hrl : r.length = t.length - (a + q) := by rw [← hqr, List.length_drop]
  have hbeh : behS t a 1 = ((a + q : Nat) : Int) := by unfold behS; rw [hr]; simp only; omega
  have hpart : ((t.take ((((a + q : Nat) : Int)) : Int).toNat).drop (a : Int).toNat) = fstT (t.drop a) r := by
   unfold fstT
   rw [List.length_drop]
   simp only [Int.toNat_natCast]
   rw [List.drop_take]
   congr 1
   omega
  have hfl : (fstT (t.drop a) r).length ≤ 64 := by unfold fstT; rw [List.length_take, List.length_drop]; omega
  refine Ev.step (fun k => (show aumbryref04_Kids.l0 (k + 1) t out (a : Int) = _ from by rw [aumbryref04_Kids.l0])) ?_
  refine evIfp (by omega) ?_
  refine Ev.bind (ev_refBehind t ht hok a ha) ?_
  rw [hbeh]
  refine evIfp (by omega) (evIfp (by omega) (evIfp (by omega) ?_))
  rw [hpart]
  refine Ev.bind (evIs (copy_at _ (by omega))) ?_
  refine evIfp (by omega) ?_
  refine Ev.bind (ev_refBehind t ht hok a ha) ?_
  rw [hbeh]
  have := ev_kids_loop t ht hok n (a + q) (out ++ [fstT (t.drop a) r]) (by omega) (by rw [hqr]; exact hrn) (by simp; omega) (by simp; omega) (by omega)
  have e : out ++ splitT (n + 1) (t.drop a) = out ++ [fstT (t.drop a) r] ++ splitT n (t.drop (a + q)) := by
   simp only [splitT, hr, hqr, List.append_assoc, List.singleton_append]
  rw [e]
  exact this
theorem ev_kids {t : List Cel} (ht : t.length ≤ 64) (hok : ∀ c ∈ t, Okc c) (hs : segN t 1 = some []) : Ev (fun k => aumbryref04_Kids.f k t) (kidsS t) := by
 unfold aumbryref04_Kids.f
 rcases t with _ | ⟨c, l⟩
 ·
  cases hs
 have hc := hok c (List.mem_cons_self ..)
 have hh := hc.hi
 have hs' : segN l (ar c) = some [] := by have : segN l (0 + ar c) = some [] := hs; rwa [Nat.zero_add] at this
 have har : ar c ≤ 4 := by unfold ar; omega
 exact ev_kids_loop (c :: l) ht hok (ar c) 1 [] (by simp) hs' (by simp) (by simp; omega) (by omega)

theorem mat_append : ∀ (p t : List Cel) (n : Nat) (out : List Bnd) (p2 t2 : List Cel), (∀ c ∈ p, Okc c) → segN p n = some [] → segN t n = some [] →
 mat (p ++ p2) (t ++ t2) out = (mat p t out).bind fun x => mat p2 t2 x.1
 | [], t, n, out, p2, t2, hp, h1, h2 => by
  have h0 := segN_nil_pos h1
  subst h0
  rw [segN_zero] at h2
  injection h2 with h2
  subst h2
  rfl
 | c :: p, t, n, out, p2, t2, hp, h1, h2 => by
  have hc := hp c (List.mem_cons_self ..)
  have hp' : ∀ x ∈ p, Okc x := fun x hx => hp x (List.mem_cons_of_mem _ hx)
  obtain ⟨n, rfl⟩ : ∃ q, n = q + 1 := by
   cases n with
   | zero => rw [segN_zero] at h1; injection h1 with h1; cases h1
   | succ n => exact ⟨n, rfl⟩
  have h1' : segN p (n + ar c) = some [] := h1
  show (if kindS c.f0 = 2 then _ else _) = Option.bind (if kindS c.f0 = 2 then _ else _) _
  by_cases hv : kindS c.f0 = 2
  ·
   have hac : ar c = 0 := by unfold ar; rw [hc.var hv]; rfl
   rw [hac, Nat.add_zero] at h1'
   rw [if_pos hv, if_pos hv]
   obtain ⟨q, hq1, hq2⟩ := segN_split h2
   have hf : fstT (t ++ t2) (q ++ t2) = fstT t q := by
    have := segN_len hq1
    unfold fstT
    simp only [List.length_append]
    rw [List.take_append_of_le_length (by omega)]
    congr 1
    omega
   rw [segN_append t2 hq1, hq1]
   simp only [hf]
   cases hl : lookB out c.f0 with
   | none => exact mat_append p q n _ p2 t2 hp' h1' hq2
   | some v =>
    simp only
    by_cases he : v = fstT t q
    ·
     rw [if_pos he, if_pos he]
     exact mat_append p q n _ p2 t2 hp' h1' hq2
    ·
     rw [if_neg he, if_neg he]
     rfl
  ·
   rw [if_neg hv, if_neg hv]
   rcases t with _ | ⟨d, t⟩
   ·
    cases h2
   ·
    show (if d = c then mat (p ++ p2) (t ++ t2) out else none) = Option.bind (if d = c then mat p t out else none) _
    by_cases he : d = c
    ·
     rw [if_pos he, if_pos he]
     subst he
     exact mat_append p t (n + ar d) out p2 t2 hp' h1' h2
    ·
     rw [if_neg he, if_neg he]
     rfl
end Go.Proofs.Ytdlkhpfgkghhmaa.P.M

-- ==== PQ7d
/- Plain laws, part d: the document's Match is the program's. -/
namespace Go.Proofs.Ytdlkhpfgkghhmaa.P.M
open Go.RowKit Go.Proofs.YtdlkhpfgkghhmaaW.PrintWords

theorem rd_bnd {t : List Bnd} {n : Nat} {c : Bnd} {s : List Bnd} (h : t.drop n = c :: s) : rd_T104 t (n : Int) = c := by
 unfold rd_T104
 exact (drop_cons h).2.1 _
theorem rd_trm {t : List (List Cel)} {n : Nat} {c : List Cel} {s : List (List Cel)} (h : t.drop n = c :: s) : rd_L3 t (n : Int) = c := by
 unfold rd_L3
 exact (drop_cons h).2.1 _
theorem up_cast (a : Nat) (h : a < 9223372036854775807) : wrap64 ((a : Int) + 1) = ((a + 1 : Nat) : Int) := by rw [wrap_up (by omega) (by omega)]; rfl

def atS (l : List Bnd) (s : ByteArray) : Int := match l.findIdx? (fun b => decide (b.f0 = s)) with
 | none => -1
 | some j => (j : Int)
theorem ev_at_loop (l : List Bnd) (s : ByteArray) (hl : l.length ≤ 9223372036854775806) : ∀ (u : List Bnd) (a : Nat), a ≤ l.length → l.drop a = u →
 Ev (fun k => aumbryref05_At.l0 k l s (l.length : Int) (a : Int)) (match u.findIdx? (fun b => decide (b.f0 = s)) with | none => -1 | some j => ((a + j : Nat) : Int))
 | [], a, ha, hu => by
  have h1 := drop_nil_len ha hu
  refine Ev.step (fun k => (show aumbryref05_At.l0 (k + 1) l s (l.length : Int) (a : Int) = _ from by rw [aumbryref05_At.l0])) ?_
  exact evIfn (by omega) (Ev.now _)
 | b :: u, a, ha, hu => by
  obtain ⟨h1, _, h3⟩ := drop_cons hu
  refine Ev.step (fun k => (show aumbryref05_At.l0 (k + 1) l s (l.length : Int) (a : Int) = _ from by rw [aumbryref05_At.l0])) ?_
  refine evIfp (by omega) (evIfp (by omega) (evIfp (by omega) ?_))
  simp only [rd_bnd hu, up_cast a (by omega)]
  by_cases hb : b.f0 = s
  ·
   refine evIfp ((bytes_eq _ _).2 hb) ?_
   simp only [List.findIdx?_cons, hb, decide_true, if_true]
   exact Ev.now _
  ·
   refine evIfn (fun h => hb ((bytes_eq _ _).1 h)) ?_
   have := ev_at_loop l s hl u (a + 1) (by omega) h3
   have e : (match (b :: u).findIdx? (fun b => decide (b.f0 = s)) with | none => (-1 : Int) | some j => ((a + j : Nat) : Int)) = (match u.findIdx? (fun b => decide (b.f0 = s)) with | none => -1 | some j => ((a + 1 + j : Nat) : Int)) := by
    simp only [List.findIdx?_cons, hb, decide_false]
    cases u.findIdx? (fun b => decide (b.f0 = s)) with
    | none => rfl
    | some j => show ((a + (j + 1) : Nat) : Int) = ((a + 1 + j : Nat) : Int); omega
   rw [e]
   exact this
theorem ev_at (l : List Bnd) (s : ByteArray) (hl : l.length ≤ 9223372036854775806) : Ev (fun k => aumbryref05_At.f k l s) (atS l s) := by
 unfold aumbryref05_At.f atS
 have := ev_at_loop l s hl l 0 (by omega) rfl
 simp only [Nat.zero_add] at this
 exact this
theorem atS_look (l : List Bnd) (s : ByteArray) : (lookB l s = none ∧ atS l s = -1) ∨ ∃ (j : Nat) (b : Bnd), l[j]? = some b ∧ b.f0 = s ∧ lookB l s = some b.f1 ∧ atS l s = (j : Int) ∧ j < l.length ∧ ∀ i : Nat, i < j → ∀ c, l[i]? = some c → c.f0 ≠ s := by
 unfold lookB atS
 induction l with
 | nil => exact .inl ⟨rfl, rfl⟩
 | cons b l ih =>
  by_cases hb : b.f0 = s
  ·
   refine .inr ⟨0, b, rfl, hb, ?_, ?_, by simp, fun i hi => by omega⟩
   ·
    simp [hb]
   ·
    simp [List.findIdx?_cons, hb]
  ·
   rcases ih with ⟨h1, h2⟩ | ⟨j, c, h1, h2, h3, h4, h5, h6⟩
   ·
    refine .inl ⟨?_, ?_⟩
    ·
     rw [List.find?_cons_of_neg (by simp [hb])]
     exact h1
    ·
     simp only [List.findIdx?_cons, hb, decide_false]
     cases hf : l.findIdx? (fun b => decide (b.f0 = s)) with
     | none => rfl
     | some j => rw [hf] at h2; simp only at h2; omega
   ·
    refine .inr ⟨j + 1, c, by simpa using h1, h2, ?_, ?_, by simp; omega, fun i hi x hx => ?_⟩
    ·
     rw [List.find?_cons_of_neg (by simp [hb])]
     exact h3
    ·
     simp only [List.findIdx?_cons, hb, decide_false]
     cases hf : l.findIdx? (fun b => decide (b.f0 = s)) with
     | none => rw [hf] at h4; simp only at h4; omega
     | some q => rw [hf] at h4; simp only at h4; simp; omega
    ·
     cases i with
     | zero => simp at hx; subst hx; exact hb
     | succ i => exact h6 i (by omega) x (by simpa using hx)
theorem ev_var (p : List Cel) : Ev (fun k => aumbryref05_Var.f k p) (match p with | [c] => kindS c.f0 == 2 | _ => false) := by
 unfold aumbryref05_Var.f
 match p with
 | [] => exact evIfn (by simp) (Ev.now _)
 | [c] =>
  refine evIfp (by simp) (evIfp (by simp) ?_)
  exact Ev.bind (ev_refKind c.f0) (Ev.now _)
 | a :: b :: l => exact evIfn (by simp; omega) (Ev.now _)

def fitL : List (List Cel) → List (List Cel) → List Bnd → Option (List Bnd)
 | [], _, out => some out
 | _ :: _, [], _ => none
 | a :: aa, b :: bb, out => (mat a b out).bind fun x => fitL aa bb x.1
theorem mat_flat : ∀ (aa bb : List (List Cel)) (out : List Bnd), aa.length = bb.length → (∀ a ∈ aa, segN a 1 = some [] ∧ ∀ c ∈ a, Okc c) → (∀ b ∈ bb, segN b 1 = some []) →
 mat aa.flatten bb.flatten out = (fitL aa bb out).map fun o => (o, [])
 | [], [], out, _, _, _ => rfl
 | [], b :: bb, out, h, _, _ => by cases h
 | a :: aa, [], out, h, _, _ => by cases h
 | a :: aa, b :: bb, out, h, ha, hb => by
  have h1 := ha a (List.mem_cons_self ..)
  have h2 := hb b (List.mem_cons_self ..)
  simp only [List.flatten_cons, fitL]
  rw [mat_append a b 1 out aa.flatten bb.flatten h1.2 h1.1 h2]
  cases hm : mat a b out with
  | none => rfl
  | some x =>
   simp only [Option.bind_some]
   exact mat_flat aa bb x.1 (by simpa using h) (fun x hx => ha x (List.mem_cons_of_mem _ hx)) (fun x hx => hb x (List.mem_cons_of_mem _ hx))
theorem mat_len : ∀ (p t : List Cel) (out o : List Bnd) (r : List Cel), mat p t out = some (o, r) → o.length ≤ out.length + p.length
 | [], t, out, o, r, h => by
  have h' : some (out, t) = some (o, r) := h
  injection h' with h'
  injection h' with h' _
  rw [← h']
  simp
 | c :: p, t, out, o, r, h => by
  have h : (if kindS c.f0 = 2 then _ else _) = some (o, r) := h
  by_cases hv : kindS c.f0 = 2
  ·
   rw [if_pos hv] at h
   cases hq : segN t 1 with
   | none => rw [hq] at h; cases h
   | some q =>
    rw [hq] at h
    simp only at h
    cases hl : lookB out c.f0 with
    | none =>
     rw [hl] at h
     have := mat_len p q _ o r h
     simp at this
     simp
     omega
    | some v =>
     rw [hl] at h
     simp only at h
     by_cases he : v = fstT t q
     ·
      rw [if_pos he] at h
      have := mat_len p q _ o r h
      simp
      omega
     ·
      rw [if_neg he] at h
      cases h
  ·
   rw [if_neg hv] at h
   rcases t with _ | ⟨d, t⟩
   ·
    cases h
   ·
    have h9 : (if d = c then mat p t out else none) = some (o, r) := h
    by_cases he : d = c
    ·
     rw [if_pos he] at h9
     have := mat_len p t _ o r h9
     simp
     omega
    ·
     rw [if_neg he] at h9
     cases h9
def sumLen (aa : List (List Cel)) : Nat := (aa.map List.length).sum
theorem sumLen_flat (aa : List (List Cel)) : aa.flatten.length = sumLen aa := by simp [sumLen, List.length_flatten]

theorem ev_fit : ∀ (n : Nat) (p t : List Cel) (l : List Bnd), p.length ≤ n → p.length ≤ 64 → t.length ≤ 64 → (∀ c ∈ p, Okc c) → (∀ c ∈ t, Okc c) → segN p 1 = some [] → segN t 1 = some [] → l.length + p.length ≤ 1000000 →
 ∃ x, Ev (fun k => aumbryref05_Fit.f k p t l) (x, (mat p t l).isSome) ∧ ∀ o r, mat p t l = some (o, r) → x = o
 | 0, p, t, l, hn, hp, ht, hop, hot, hsp, hst, hl => by
  have : p = [] := List.eq_nil_of_length_eq_zero (by omega)
  subst this
  cases hsp
 | n + 1, p, t, l, hn, hp, ht, hop, hot, hsp, hst, hl => by
  rcases p with _ | ⟨c, p⟩
  ·
   cases hsp
  rcases t with _ | ⟨d, t⟩
  ·
   cases hst
  have hc := hop c (List.mem_cons_self ..)
  have hsp' : segN p (ar c) = some [] := by have : segN p (0 + ar c) = some [] := hsp; rwa [Nat.zero_add] at this
  have hst' : segN t (ar d) = some [] := by have : segN t (0 + ar d) = some [] := hst; rwa [Nat.zero_add] at this
  simp only [List.length_cons] at hn hp ht hl
  by_cases hv : kindS c.f0 = 2
  ·
   have hac : ar c = 0 := by unfold ar; rw [hc.var hv]; rfl
   rw [hac, segN_zero] at hsp'
   injection hsp' with hsp'
   subst hsp'
   have hm : mat [c] (d :: t) l = (match lookB l c.f0 with | none => some (l ++ [⟨c.f0, d :: t⟩], []) | some v => if v = d :: t then some (l, []) else none) := by
    show (if kindS c.f0 = 2 then _ else _) = _
    rw [if_pos hv, hst]
    have : fstT (d :: t) [] = d :: t := by unfold fstT; simp
    simp only [this]
    cases lookB l c.f0 with
    | none => rfl
    | some v => rfl
   rw [hm]
   rcases atS_look l c.f0 with ⟨hl1, hl2⟩ | ⟨j, b, h1, h2, h3, h4, h5, _⟩
   ·
    rw [hl1]
    refine ⟨l ++ [⟨c.f0, d :: t⟩], ?_, fun o r h => ?_⟩
    ·
     refine Ev.step (fun k => (show aumbryref05_Fit.f (k + 1) [c] (d :: t) l = _ from by rw [aumbryref05_Fit.f])) ?_
     refine Ev.bind (ev_var [c]) ?_
     refine evIfp (by simp [hv]) (evIfp (by simp) ?_)
     simp only [rd_cel (t := [c]) (n := 0) (c := c) (s := []) rfl, show ((0 : Int)) = ((0 : Nat) : Int) from rfl]
     refine Ev.bind (ev_at l c.f0 (by omega)) ?_
     rw [hl2]
     refine evIfp (by omega) ?_
     refine Ev.bind (evIs (copy_at (d :: t) (by simp; omega))) ?_
     exact evIfp (by omega) (Ev.now _)
    ·
     injection h with h
     injection h with h _
   ·
    rw [h3]
    have hrd : (rd_T104 l (j : Int)).f1 = b.f1 := by
     unfold rd_T104
     rw [List.getD_eq_getElem?_getD, Int.toNat_natCast, h1]
     rfl
    refine ⟨l, ?_, fun o r h => ?_⟩
    ·
     refine Ev.step (fun k => (show aumbryref05_Fit.f (k + 1) [c] (d :: t) l = _ from by rw [aumbryref05_Fit.f])) ?_
     refine Ev.bind (ev_var [c]) ?_
     refine evIfp (by simp [hv]) (evIfp (by simp) ?_)
     simp only [rd_cel (t := [c]) (n := 0) (c := c) (s := []) rfl, show ((0 : Int)) = ((0 : Nat) : Int) from rfl]
     refine Ev.bind (ev_at l c.f0 (by omega)) ?_
     rw [h4]
     refine evIfn (by omega) (evIfp (by omega) (evIfp (by omega) ?_))
     simp only [hrd]
     refine Ev.bind (ev_refSame4 b.f1 (d :: t) (.inr (by simp; omega))) ?_
     have : (match some b.f1 with | none => some (l ++ [(⟨c.f0, d :: t⟩ : Bnd)], ([] : List Cel)) | some v => if v = d :: t then some (l, ([] : List Cel)) else none).isSome = decide (b.f1 = d :: t) := by
      by_cases he : b.f1 = d :: t <;> simp [he]
     rw [this]
     exact Ev.now _
    ·
     simp only at h
     by_cases he : b.f1 = d :: t
     ·
      rw [if_pos he] at h
      injection h with h
      injection h with h _
     ·
      rw [if_neg he] at h
      cases h
  ·
   have hm : mat (c :: p) (d :: t) l = if d = c then mat p t l else none := by
    show (if kindS c.f0 = 2 then _ else _) = _
    rw [if_neg hv]
   rw [hm]
   have hvar : (match (c :: p) with | [c] => kindS c.f0 == 2 | _ => false) = false := by
    rcases p with _ | ⟨a, p⟩
    ·
     simp [hv]
    ·
     rfl
   by_cases hdc : d = c
   ·
    rw [if_pos hdc]
    subst hdc
    obtain ⟨a1, a2, a3⟩ := splitT_spec _ _ hsp'
    obtain ⟨b1, b2, b3⟩ := splitT_spec _ _ hst'
    have hpo : ∀ x ∈ p, Okc x := fun x hx => hop x (List.mem_cons_of_mem _ hx)
    have hto : ∀ x ∈ t, Okc x := fun x hx => hot x (List.mem_cons_of_mem _ hx)
    have hh := hc.hi
    have har : ar d ≤ 4 := by unfold ar; omega
    obtain ⟨aa, has⟩ : ∃ aa, aa = splitT (ar d) p := ⟨_, rfl⟩
    obtain ⟨bb, hbs⟩ : ∃ bb, bb = splitT (ar d) t := ⟨_, rfl⟩
    rw [← has] at a1 a2 a3
    rw [← hbs] at b1 b2 b3
    have hka : kidsS (d :: p) = aa := by rw [has]; rfl
    have hkb : kidsS (d :: t) = bb := by rw [hbs]; rfl
    have haok : ∀ a ∈ aa, segN a 1 = some [] ∧ ∀ c ∈ a, Okc c := fun a ha => ⟨a3 a ha, fun x hx => hpo x (by rw [← a1]; exact List.mem_flatten.2 ⟨a, ha, hx⟩)⟩
    have hbok : ∀ b ∈ bb, segN b 1 = some [] ∧ ∀ c ∈ b, Okc c := fun b hb => ⟨b3 b hb, fun x hx => hto x (by rw [← b1]; exact List.mem_flatten.2 ⟨b, hb, hx⟩)⟩
    have hsum : sumLen aa = p.length := by rw [← sumLen_flat, a1]
    have hsumb : sumLen bb = t.length := by rw [← sumLen_flat, b1]
    have hflat : mat p t l = (fitL aa bb l).map fun o => (o, []) := by
     rw [← a1, ← b1]
     exact mat_flat aa bb l (by omega) haok (fun b hb => (hbok b hb).1)
    have loop : ∀ (A B : List (List Cel)) (i : Nat) (l2 : List Bnd), i ≤ aa.length → aa.drop i = A → bb.drop i = B → l2.length + sumLen A ≤ 1000000 → sumLen A ≤ p.length → sumLen B ≤ t.length →
     ∃ x, Ev (fun k => aumbryref05_Fit.l0 k l2 aa bb (aa.length : Int) (i : Int)) (x, (fitL A B l2).isSome) ∧ ∀ o, fitL A B l2 = some o → x = o := by
     intro A
     induction A with
     | nil =>
      intro B i l2 hi hA hB hl2 _ _
      have := drop_nil_len hi hA
      refine ⟨l2, ?_, fun o h => by injection h⟩
      refine Ev.step (fun k => (show aumbryref05_Fit.l0 (k + 1) l2 aa bb (aa.length : Int) (i : Int) = _ from by rw [aumbryref05_Fit.l0])) ?_
      exact evIfn (by omega) (Ev.now _)
     | cons a A ihA =>
      intro B i l2 hi hA hB hl2 hsA hsB
      obtain ⟨g1, _, g3⟩ := drop_cons hA
      rcases B with _ | ⟨b, B⟩
      ·
       have := drop_nil_len (by omega) hB
       omega
      obtain ⟨g4, _, g6⟩ := drop_cons hB
      have hma : a ∈ aa := List.mem_of_mem_drop (hA ▸ List.mem_cons_self ..)
      have hmb : b ∈ bb := List.mem_of_mem_drop (hB ▸ List.mem_cons_self ..)
      simp only [sumLen, List.map_cons, List.sum_cons] at hl2 hsA hsB
      obtain ⟨x, hx1, hx2⟩ := ev_fit n a b l2 (by omega) (by omega) (by omega) (haok a hma).2 (hbok b hmb).2 (haok a hma).1 (hbok b hmb).1 (by omega)
      cases hab : mat a b l2 with
      | none =>
       rw [hab] at hx1
       refine ⟨[], ?_, fun o h => by simp only [fitL, hab] at h; cases h⟩
       simp only [fitL, hab]
       refine Ev.step (fun k => (show aumbryref05_Fit.l0 (k + 1) l2 aa bb (aa.length : Int) (i : Int) = _ from by rw [aumbryref05_Fit.l0])) ?_
       refine evIfp (by omega) (evIfp (by omega) (evIfp (by omega) (evIfp (by omega) ?_)))
       simp only [rd_trm hA, rd_trm hB]
       refine Ev.bind hx1 ?_
       exact evIfn (by simp) (Ev.now _)
      | some y =>
       obtain ⟨o, r⟩ := y
       rw [hab] at hx1
       have hxo : x = o := hx2 o r hab
       subst hxo
       have hlen := mat_len a b l2 x r hab
       obtain ⟨z, hz1, hz2⟩ := ihA B (i + 1) x (by omega) g3 g6 (by simp only [sumLen]; omega) (by simp only [sumLen]; omega) (by simp only [sumLen]; omega)
       refine ⟨z, ?_, fun o h => hz2 o (by simpa [fitL, hab] using h)⟩
       simp only [fitL, hab, Option.bind_some]
       refine Ev.step (fun k => (show aumbryref05_Fit.l0 (k + 1) l2 aa bb (aa.length : Int) (i : Int) = _ from by rw [aumbryref05_Fit.l0])) ?_
       refine evIfp (by omega) (evIfp (by omega) (evIfp (by omega) (evIfp (by omega) ?_)))
       simp only [rd_trm hA, rd_trm hB, up_cast i (by omega)]
       refine Ev.bind hx1 ?_
       exact evIfp (by simp) hz1
    obtain ⟨x, hx1, hx2⟩ := loop aa bb 0 l (by omega) rfl rfl (by omega) (by omega) (by omega)
    refine ⟨x, ?_, fun o r h => ?_⟩
    ·
     refine Ev.step (fun k => (show aumbryref05_Fit.f (k + 1) (d :: p) (d :: t) l = _ from by rw [aumbryref05_Fit.f])) ?_
     refine Ev.bind (ev_var (d :: p)) ?_
     refine evIfn (by rw [hvar]; simp) (evIfp (by simp) (evIfp (by simp) ?_))
     simp only [rd_cel (t := d :: p) (n := 0) (c := d) (s := p) rfl, rd_cel (t := d :: t) (n := 0) (c := d) (s := t) rfl, show ((0 : Int)) = ((0 : Nat) : Int) from rfl]
     refine evIfn (fun h => (cel_ne d d).1 h rfl) ?_
     refine Ev.bind (ev_kids (t := d :: p) (by simp; omega) hop hsp) ?_
     refine Ev.bind (ev_kids (t := d :: t) (by simp; omega) hot hst) ?_
     rw [hka, hkb]
     have e : (mat p t l).isSome = (fitL aa bb l).isSome := by rw [hflat]; cases fitL aa bb l <;> rfl
     rw [e]
     exact hx1
    ·
     rw [hflat] at h
     cases hf : fitL aa bb l with
     | none => rw [hf] at h; cases h
     | some o2 =>
      rw [hf] at h
      injection h with h
      injection h with h _
      rw [← h]
      exact hx2 o2 hf
   ·
    rw [if_neg hdc]
    refine ⟨[], ?_, fun o r h => by cases h⟩
    refine Ev.step (fun k => (show aumbryref05_Fit.f (k + 1) (c :: p) (d :: t) l = _ from by rw [aumbryref05_Fit.f])) ?_
    refine Ev.bind (ev_var (c :: p)) ?_
    refine evIfn (by rw [hvar]; simp) (evIfp (by simp) (evIfp (by simp) ?_))
    simp only [rd_cel (t := c :: p) (n := 0) (c := c) (s := p) rfl, rd_cel (t := d :: t) (n := 0) (c := d) (s := t) rfl, show ((0 : Int)) = ((0 : Nat) : Int) from rfl]
    exact evIfp ((cel_ne c d).2 (fun h => hdc h.symm)) (Ev.now _)
end Go.Proofs.Ytdlkhpfgkghhmaa.P.M

-- ==== PQ7f
/- Plain laws, part f: what a pattern becomes by binds: the program's Fill is the document's. -/
namespace Go.Proofs.Ytdlkhpfgkghhmaa.P.M
open Go.RowKit Go.Proofs.YtdlkhpfgkghhmaaW.PrintWords

def putS : List Cel → List Bnd → Option (List Cel)
 | [], _ => some []
 | c :: p, l => if kindS c.f0 = 2 then (match lookB l c.f0 with | none => none | some v => (putS p l).map (v ++ ·)) else (putS p l).map (c :: ·)
def varsS : List Cel → List ByteArray → List ByteArray
 | [], acc => acc
 | c :: p, acc => if kindS c.f0 = 2 then (if c.f0 ∈ acc then varsS p acc else varsS p (acc ++ [c.f0])) else varsS p acc
theorem mem_varsS : ∀ (p : List Cel) (acc : List ByteArray) (v : ByteArray), v ∈ varsS p acc ↔ v ∈ acc ∨ ∃ c ∈ p, kindS c.f0 = 2 ∧ c.f0 = v
 | [], acc, v => by simp [varsS]
 | c :: p, acc, v => by
  simp only [varsS]
  by_cases hk : kindS c.f0 = 2
  ·
   rw [if_pos hk]
   by_cases hm : c.f0 ∈ acc
   ·
    rw [if_pos hm, mem_varsS p acc v]
    constructor
    ·
     rintro (h | ⟨d, h1, h2⟩)
     ·
      exact .inl h
     ·
      exact .inr ⟨d, List.mem_cons_of_mem _ h1, h2⟩
    ·
     rintro (h | ⟨d, h1, h2, h3⟩)
     ·
      exact .inl h
     ·
      rcases List.mem_cons.1 h1 with rfl | h1
      ·
       exact .inl (h3 ▸ hm)
      ·
       exact .inr ⟨d, h1, h2, h3⟩
   ·
    rw [if_neg hm, mem_varsS p (acc ++ [c.f0]) v]
    simp only [List.mem_append, List.mem_singleton]
    constructor
    ·
     rintro ((h | h) | ⟨d, h1, h2⟩)
     ·
      exact .inl h
     ·
      exact .inr ⟨c, List.mem_cons_self .., hk, h.symm⟩
     ·
      exact .inr ⟨d, List.mem_cons_of_mem _ h1, h2⟩
    ·
     rintro (h | ⟨d, h1, h2, h3⟩)
     ·
      exact .inl (.inl h)
     ·
      rcases List.mem_cons.1 h1 with rfl | h1
      ·
       exact .inl (.inr h3.symm)
      ·
       exact .inr ⟨d, h1, h2, h3⟩
  ·
   rw [if_neg hk, mem_varsS p acc v]
   constructor
   ·
    rintro (h | ⟨d, h1, h2⟩)
    ·
     exact .inl h
    ·
     exact .inr ⟨d, List.mem_cons_of_mem _ h1, h2⟩
   ·
    rintro (h | ⟨d, h1, h2, h3⟩)
    ·
     exact .inl h
    ·
     rcases List.mem_cons.1 h1 with rfl | h1
     ·
      exact absurd h2 hk
     ·
      exact .inr ⟨d, h1, h2, h3⟩
theorem ev_put_loop (p : List Cel) (l : List Bnd) (hp : p.length ≤ 64) (hv : ∀ b ∈ l, b.f1.length ≤ 64) (hl : l.length ≤ 9223372036854775806) :
 ∀ (s : List Cel) (i : Nat) (out o : List Cel), i ≤ p.length → p.drop i = s → out.length ≤ 64 * i → putS s l = some o → Ev (fun k => aumbryref05_Put.l0 k p l out (p.length : Int) (i : Int)) (out ++ o)
 | [], i, out, o, hi, hs, ho, hput => by
  have h1 := drop_nil_len hi hs
  refine Ev.step (fun k => (show aumbryref05_Put.l0 (k + 1) p l out (p.length : Int) (i : Int) = _ from by rw [aumbryref05_Put.l0])) ?_
  refine evIfn (by omega) ?_
  injection hput with hput
  rw [← hput, List.append_nil]
  exact Ev.now _
 | c :: s, i, out, o, hi, hs, ho, hput => by
  obtain ⟨h1, _, h3⟩ := drop_cons hs
  refine Ev.step (fun k => (show aumbryref05_Put.l0 (k + 1) p l out (p.length : Int) (i : Int) = _ from by rw [aumbryref05_Put.l0])) ?_
  refine evIfp (by omega) (evIfp (by omega) (evIfp (by omega) ?_))
  simp only [rd_cel hs, up_cast i (by omega)]
  refine Ev.bind (ev_refKind c.f0) ?_
  simp only [putS] at hput
  by_cases hk : kindS c.f0 = 2
  ·
   rw [if_pos hk] at hput
   refine evIfp hk ?_
   rcases atS_look l c.f0 with ⟨hl1, hl2⟩ | ⟨j, b, j1, j2, j3, j4, j5, _⟩
   ·
    rw [hl1] at hput
    cases hput
   ·
    rw [j3] at hput
    simp only at hput
    obtain ⟨o2, ho2, rfl⟩ := Option.map_eq_some_iff.1 hput
    have hrd : (rd_T104 l (j : Int)).f1 = b.f1 := by
     unfold rd_T104
     rw [List.getD_eq_getElem?_getD, Int.toNat_natCast, j1]
     rfl
    have hbl := hv b (List.mem_of_getElem? j1)
    refine Ev.bind (ev_at l c.f0 hl) ?_
    rw [j4]
    refine evIfp (by omega) (evIfp (by omega) ?_)
    simp only [hrd]
    refine evIfp (by omega) ?_
    have := ev_put_loop p l hp hv hl s (i + 1) (out ++ b.f1) o2 (by omega) h3 (by simp; omega) ho2
    rw [List.append_assoc] at this
    exact this
  ·
   rw [if_neg hk] at hput
   obtain ⟨o2, ho2, rfl⟩ := Option.map_eq_some_iff.1 hput
   refine evIfn hk (evIfp (by omega) ?_)
   have := ev_put_loop p l hp hv hl s (i + 1) (out ++ [c]) o2 (by omega) h3 (by simp; omega) ho2
   rw [List.append_assoc] at this
   exact this
end Go.Proofs.Ytdlkhpfgkghhmaa.P.M

-- ==== PQ7g
/- Plain laws, part g: filling what a match tells gives the term; what is filled is matched; a term matches itself. -/
namespace Go.Proofs.Ytdlkhpfgkghhmaa.P.M
open Go.RowKit Go.Proofs.YtdlkhpfgkghhmaaW.PrintWords

def Ext (a b : List Bnd) : Prop := ∀ s v, lookB a s = some v → lookB b s = some v
theorem Ext.trans {a b c : List Bnd} (h : Ext a b) (g : Ext b c) : Ext a c := fun s v e => g s v (h s v e)
theorem mat_var {c : Cel} {p t r : List Cel} {out : List Bnd} (hv : kindS c.f0 = 2) (hr : segN t 1 = some r) : mat (c :: p) t out = (match lookB out c.f0 with | none => mat p r (out ++ [⟨c.f0, fstT t r⟩]) | some v => if v = fstT t r then mat p r out else none) := by
 show (if kindS c.f0 = 2 then _ else _) = _
 rw [if_pos hv, hr]
 try rfl
theorem mat_var_none {c : Cel} {p t : List Cel} {out : List Bnd} (hv : kindS c.f0 = 2) (hr : segN t 1 = none) : mat (c :: p) t out = none := by
 show (if kindS c.f0 = 2 then _ else _) = _
 rw [if_pos hv, hr]
theorem mat_sym {c d : Cel} {p t : List Cel} {out : List Bnd} (hv : ¬ kindS c.f0 = 2) : mat (c :: p) (d :: t) out = if d = c then mat p t out else none := by
 show (if kindS c.f0 = 2 then _ else _) = _
 rw [if_neg hv]
theorem mat_sym_nil {c : Cel} {p : List Cel} {out : List Bnd} (hv : ¬ kindS c.f0 = 2) : mat (c :: p) [] out = none := by
 show (if kindS c.f0 = 2 then _ else _) = _
 rw [if_neg hv]

theorem lookB_none (l : List Bnd) (s : ByteArray) : lookB l s = none ↔ s ∉ l.map (·.f0) := by
 unfold lookB
 rw [Option.map_eq_none_iff, List.find?_eq_none]
 simp
theorem mat_names : ∀ (p t : List Cel) (out o : List Bnd) (r : List Cel), mat p t out = some (o, r) → o.map (·.f0) = varsS p (out.map (·.f0))
 | [], t, out, o, r, h => by
  have h' : some (out, t) = some (o, r) := h
  injection h' with h'
  injection h' with h1 h2
  rw [← h1]
  rfl
 | c :: p, t, out, o, r, h => by
  by_cases hv : kindS c.f0 = 2
  ·
   cases hq : segN t 1 with
   | none => rw [mat_var_none hv hq] at h; cases h
   | some q =>
    rw [mat_var hv hq] at h
    simp only [varsS, hv, if_true]
    cases hl : lookB out c.f0 with
    | none =>
     rw [hl] at h
     rw [if_neg ((lookB_none _ _).1 hl)]
     have := mat_names p q _ o r h
     simpa using this
    | some v =>
     rw [hl] at h
     simp only at h
     have hm : c.f0 ∈ out.map (·.f0) := by
      by_cases hx : c.f0 ∈ out.map (·.f0)
      ·
       exact hx
      ·
       rw [(lookB_none _ _).2 hx] at hl; cases hl
     rw [if_pos hm]
     by_cases he : v = fstT t q
     ·
      rw [if_pos he] at h
      exact mat_names p q _ o r h
     ·
      rw [if_neg he] at h
      cases h
  ·
   simp only [varsS, hv, if_false]
   rcases t with _ | ⟨d, t⟩
   ·
    rw [mat_sym_nil hv] at h; cases h
   ·
    rw [mat_sym hv] at h
    by_cases he : d = c
    ·
     rw [if_pos he] at h
     exact mat_names p t _ o r h
    ·
     rw [if_neg he] at h; cases h

end Go.Proofs.Ytdlkhpfgkghhmaa.P.M

-- ==== PL7f
/- Plain laws of chapter 7: the first rule that fits: the program's answer and the document's; what fitting binds; terms in which no rule fits. -/
namespace Go.Proofs.Ytdlkhpfgkghhmaa.P
open Go.RowKit Go.Proofs.YtdlkhpfgkghhmaaW.PrintWords
def Rls (rules : List Rul) : Prop := ∀ r ∈ rules, ruleS r.f0 r.f1 r.f2 = 0
def fitS : List Rul → List Cel → Option (Rul × List Bnd7)
 | [], _ => none
 | r :: u, node => match M.mat r.f1 node [] with
  | some x => some (r, x.1)
  | none => fitS u node
theorem fitS_mem : ∀ {rules : List Rul} {node : List Cel} {x : Rul × List Bnd7}, fitS rules node = some x → x.1 ∈ rules ∧ ∃ r, M.mat x.1.f1 node [] = some (x.2, r)
 | [], _, _, h => by cases h
 | r :: u, node, x, h => by
  unfold fitS at h
  cases hm : M.mat r.f1 node [] with
  | some y =>
   rw [hm] at h
   obtain rfl := Option.some.inj h
   exact ⟨List.mem_cons_self .., y.2, hm⟩
  | none =>
   rw [hm] at h
   obtain ⟨h1, h2⟩ := fitS_mem h
   exact ⟨List.mem_cons_of_mem _ h1, h2⟩
theorem rule_head {r : Rul} (h : ruleS r.f0 r.f1 r.f2 = 0) : ∃ c l, r.f1 = c :: l ∧ kindS c.f0 ≠ 2 ∧ segN l (ar c) = some [] := by
 obtain ⟨h1, h2, h3, h4, h5, h6, _, _⟩ := ruleS_ok h
 obtain ⟨c, l, e, hs⟩ := cons_term h1
 rw [e] at h5
 exact ⟨c, l, e, h5, hs⟩
theorem sameCell_iff (c d : Cel) : sameCell c d = true ↔ c = d := by
 unfold sameCell
 simp only [Bool.and_eq_true, beq_iff_eq, bytes_eq]
 constructor
 ·
  intro h; cases c; cases d; simp at h ⊢; exact h
 ·
  intro h; rw [h]; exact ⟨rfl, rfl⟩
theorem ev_fitsF {node : List Cel} (hn : checkS node = 0) : ∀ {rules : List Rul}, Rls rules → Ev (fun k => fitsF k node rules) (fitS rules node)
 | [], _ => Ev.now _
 | r :: u, hr => by
  have hru := hr r (List.mem_cons_self ..)
  have T := ev_fitsF hn (rules := u) (fun x hx => hr x (List.mem_cons_of_mem _ hx))
  obtain ⟨c, l, e, hk, hs⟩ := rule_head hru
  obtain ⟨d, t, en, hsn⟩ := cons_term hn
  have hc := (ruleS_ok hru).1
  refine Ev.congr (f := fun k => if 0 < r.f1.length then (if sameCell (rd_T54 r.f1 0) (rd_T54 node 0) = true then ((match_Match.f k r.f1 node).bind fun m => if m.2.1 = true ∧ m.2.2 = 0 then some (some (r, m.1)) else fitsF k node u) else fitsF k node u) else none) (fun k => rfl) ?_
  refine evIfp (by rw [e]; simp) ?_
  have e1 : rd_T54 r.f1 0 = c := by rw [e]; rfl
  have e2 : rd_T54 node 0 = d := by rw [en]; rfl
  rw [e1, e2]
  by_cases h : sameCell c d = true
  ·
   refine evIfp h (Ev.bind (M.ev_match r.f1 node) ?_)
   unfold M.matchS
   rw [if_pos hc, if_pos hn]
   cases hm : M.mat r.f1 node [] with
   | some x =>
    simp only [M.matR, fitS, hm]
    exact evIfp (by simp) (Ev.now _)
   | none =>
    simp only [M.matR, fitS, hm]
    exact evIfn (by simp) T
  ·
   refine evIfn h ?_
   have hm : M.mat r.f1 node [] = none := by
    rw [e, en, M.mat_sym hk, if_neg (fun q => h ((sameCell_iff c d).2 q.symm))]
   simp only [fitS, hm]
   exact T
theorem ev_first_loop {rules : List Rul} {node : List Cel} (hn : checkS node = 0) (hr : Rls rules) (hl : rules.length ≤ 2513169434915) : ∀ (u : List Rul) (i : Nat), i ≤ rules.length → rules.drop i = u →
 ∃ (j : Int) (x : List Bnd7), Ev (fun k => aumbryref07_First.l0 k rules node (rules.length : Int) (i : Int)) (j, x) ∧ (fitS u node = none → j = -1) ∧ ∀ r o, fitS u node = some (r, o) → x = o ∧ ∃ a : Nat, j = (a : Int) ∧ a < rules.length ∧ rd_T73 rules (a : Int) = r
 | [], i, hi, hu => by
  have h1 := drop_nil_len hi hu
  refine ⟨-1, [], Ev.step (fun k => (show aumbryref07_First.l0 (k + 1) rules node (rules.length : Int) (i : Int) = _ from by rw [aumbryref07_First.l0])) ?_, fun _ => rfl, fun r o h => by cases h⟩
  exact evIfn (by omega) (Ev.now _)
 | b :: u, i, hi, hu => by
  obtain ⟨h1, h2, h3⟩ := drop_cons hu
  have hb : b ∈ rules := List.mem_of_mem_drop (hu ▸ List.mem_cons_self ..)
  obtain ⟨g1, _, g3, _⟩ := ruleS_ok (hr b hb)
  obtain ⟨p1, p2, p3⟩ := checkS_ok g1
  obtain ⟨n1, n2, n3⟩ := checkS_ok hn
  obtain ⟨x, hx, hxo⟩ := M.ev_fit b.f1.length b.f1 node [] (Nat.le_refl _) p1 n1 p2 n2 p3 n3 (by simp; omega)
  obtain ⟨j, y, q1, q2, q3⟩ := ev_first_loop hn hr hl u (i + 1) (by omega) h3
  have S : ∀ {R : Int × List Bnd7}, Ev (fun k => (aumbryref05_Fit.f k b.f1 node []).bind fun bt102 => if bt102.2 = true then some ((i : Int), bt102.1) else aumbryref07_First.l0 k rules node (rules.length : Int) ((i + 1 : Nat) : Int)) R → Ev (fun k => aumbryref07_First.l0 k rules node (rules.length : Int) (i : Int)) R := by
   intro R h
   refine Ev.step (fun k => (show aumbryref07_First.l0 (k + 1) rules node (rules.length : Int) (i : Int) = _ from by rw [aumbryref07_First.l0])) ?_
   simp only [rd_rul hu, up_cast i (by omega)]
   exact evIfp (by omega) (evIfp (by omega) (evIfp (by omega) h))
  cases hm : M.mat b.f1 node [] with
  | some z =>
   have E := S (R := ((i : Int), x)) (Ev.bind hx (evIfp (by rw [hm]; rfl) (Ev.now _)))
   refine ⟨(i : Int), x, E, (fun h => by rw [fitS, hm] at h; cases h), fun r o h => ?_⟩
   simp only [fitS, hm] at h
   injection h with h
   injection h with ha hb2
   exact ⟨(hxo z.1 z.2 hm).trans hb2, i, rfl, by omega, (rd_rul hu).trans ha⟩
  | none =>
   have E := S (R := (j, y)) (Ev.bind hx (evIfn (by rw [hm]; simp) q1))
   exact ⟨j, y, E, (fun h => q2 (by simpa only [fitS, hm] using h)), (fun r o h => q3 r o (by simpa only [fitS, hm] using h))⟩
theorem ev_first {rules : List Rul} {node : List Cel} (hn : checkS node = 0) (hr : Rls rules) (hl : rules.length ≤ 2513169434915) :
 ∃ (j : Int) (x : List Bnd7), Ev (fun k => aumbryref07_First.f k rules node) (j, x) ∧ (fitS rules node = none → j = -1) ∧ ∀ r o, fitS rules node = some (r, o) → x = o ∧ ∃ a : Nat, j = (a : Int) ∧ a < rules.length ∧ rd_T73 rules (a : Int) = r := by
 unfold aumbryref07_First.f
 exact ev_first_loop hn hr hl rules 0 (by omega) rfl
/-! ### terms in which no rule fits -/
def Quiet (rules : List Rul) (l : List Cel) : Prop := ∀ p q s : List Cel, l = p ++ q ++ s → segN q 1 = some [] → fitS rules q = none
theorem quiet_infix {rules : List Rul} {l x y z : List Cel} (h : Quiet rules l) (e : l = x ++ y ++ z) : Quiet rules y := by
 intro p q s hy hq
 refine h (x ++ p) q (s ++ z) ?_ hq
 rw [e, hy]
 simp
theorem quiet_nil (rules : List Rul) : Quiet rules [] := by
 intro p q s h hq
 have : q = [] := by
  have := congrArg List.length h
  simp at this
  exact List.eq_nil_of_length_eq_zero (by omega)
 rw [this] at hq
 cases hq
theorem quiet_append {rules : List Rul} {l1 l2 : List Cel} {n : Nat} (h1 : segN l1 n = some []) (q1 : Quiet rules l1) (q2 : Quiet rules l2) : Quiet rules (l1 ++ l2) := by
 intro p q s e hq
 rcases Nat.lt_or_ge p.length l1.length with hl | hl
 ·
  obtain ⟨r, hr⟩ := seg_one h1 hl
  have d1 : (l1 ++ l2).drop p.length = l1.drop p.length ++ l2 := by rw [List.drop_append_of_le_length (by omega)]
  have d2 : (l1 ++ l2).drop p.length = q ++ s := by rw [e, List.append_assoc, List.drop_left]
  have s1 := segN_append l2 hr
  have s2 := segN_append s hq
  rw [List.nil_append] at s2
  rw [← d1, d2, s2] at s1
  injection s1 with s1
  have hd : l1.drop p.length = q ++ r := by
   have : l1.drop p.length ++ l2 = (q ++ r) ++ l2 := by rw [← d1, d2, s1, List.append_assoc]
   exact List.append_cancel_right this
  have hp : l1.take p.length = p := by
   have := congrArg (List.take p.length) e
   rw [List.append_assoc, List.take_left, List.take_append_of_le_length (by omega)] at this
   exact this
  refine q1 p q r ?_ hq
  rw [List.append_assoc, ← hd]
  conv => rhs; lhs; rw [← hp]
  exact (List.take_append_drop _ _).symm
 ·
  have hp : p = l1 ++ p.drop l1.length := by
   have := congrArg (List.take l1.length) e
   rw [List.take_left, List.append_assoc, List.take_append_of_le_length hl] at this
   conv => rhs; lhs; rw [this]
   exact (List.take_append_drop _ _).symm
  refine q2 (p.drop l1.length) q s ?_ hq
  rw [hp] at e
  rw [List.append_assoc, List.append_assoc] at e
  have := List.append_cancel_left e
  rw [this, List.append_assoc]
theorem quiet_node {rules : List Rul} {c : Cel} {l : List Cel} (hs : segN l (ar c) = some []) (hq : Quiet rules l) (hf : fitS rules (c :: l) = none) : Quiet rules (c :: l) := by
 intro p q s e hqs
 cases p with
 | nil =>
  have s2 := segN_append s hqs
  rw [List.nil_append, show q ++ s = c :: l from by simpa using e.symm] at s2
  have s3 : segN (c :: l) 1 = some [] := by
   show segN l (0 + ar c) = some []
   rw [Nat.zero_add]; exact hs
  rw [s3] at s2
  injection s2 with s2
  rw [← s2, List.append_nil, List.nil_append] at e
  rw [← e]
  exact hf
 | cons a p =>
  simp only [List.cons_append, List.cons.injEq] at e
  exact hq p q s e.2 hqs
/-! ### what fitting binds -/
theorem mat_infix : ∀ (p t : List Cel) (out o : List Bnd7) (r : List Cel), M.mat p t out = some (o, r) → ∀ b ∈ o, b ∈ out ∨ (segN b.f1 1 = some [] ∧ ∃ x y, t = x ++ b.f1 ++ y)
 | [], t, out, o, r, h => by
  unfold M.mat at h
  injection h with h
  injection h with h1 h2
  subst h1
  exact fun b hb => .inl hb
 | c :: p, t, out, o, r, h => by
  intro b hb
  by_cases hk : kindS c.f0 = 2
  ·
   cases hs : segN t 1 with
   | none => rw [M.mat_var_none hk hs] at h; cases h
   | some q =>
    obtain ⟨e, h1⟩ := segN_fst hs
    rw [M.mat_var hk hs] at h
    have up : ∀ b0 : Bnd7, (segN b0.f1 1 = some [] ∧ ∃ x y, q = x ++ b0.f1 ++ y) → (segN b0.f1 1 = some [] ∧ ∃ x y, t = x ++ b0.f1 ++ y) := by
     rintro b0 ⟨g1, x, y, g2⟩
     exact ⟨g1, fstT t q ++ x, y, by rw [List.append_assoc, List.append_assoc, ← List.append_assoc x, ← g2]; exact e⟩
    cases hb2 : M.lookB out c.f0 with
    | none =>
     rw [hb2] at h
     rcases mat_infix p q _ o r h b hb with g | g
     ·
      rcases List.mem_append.1 g with g | g
      ·
       exact .inl g
      ·
       rw [List.mem_singleton] at g
       subst g
       exact .inr ⟨h1, [], q, by rw [List.nil_append]; exact e⟩
     ·
      exact .inr (up b g)
    | some v =>
     rw [hb2] at h
     simp only at h
     by_cases hv : v = M.fstT t q
     ·
      rw [if_pos hv] at h
      rcases mat_infix p q out o r h b hb with g | g
      ·
       exact .inl g
      ·
       exact .inr (up b g)
     ·
      rw [if_neg hv] at h; cases h
  ·
   cases t with
   | nil => rw [M.mat_sym_nil hk] at h; cases h
   | cons d t =>
    rw [M.mat_sym hk] at h
    by_cases hd : d = c
    ·
     rw [if_pos hd] at h
     rcases mat_infix p t out o r h b hb with g | ⟨g1, x, y, g2⟩
     ·
      exact .inl g
     ·
      exact .inr ⟨g1, d :: x, y, by rw [g2]; simp⟩
    ·
     rw [if_neg hd] at h; cases h
theorem mem_vars7 : ∀ (u : List Cel) (out : List ByteArray) (v : ByteArray), v ∈ varsS out u ↔ v ∈ out ∨ ∃ c ∈ u, kindS c.f0 = 2 ∧ c.f0 = v
 | [], out, v => by simp [varsS]
 | c :: l, out, v => by
  unfold varsS
  by_cases h : kindS c.f0 = 2
  ·
   rw [if_pos h]
   by_cases h2 : c.f0 ∈ out
   ·
    rw [if_pos h2, mem_vars7 l out v]
    constructor
    ·
     rintro (a | ⟨d, h3, h4⟩)
     ·
      exact .inl a
     ·
      exact .inr ⟨d, List.mem_cons_of_mem _ h3, h4⟩
    ·
     rintro (a | ⟨d, h3, h4, h5⟩)
     ·
      exact .inl a
     ·
      rcases List.mem_cons.1 h3 with rfl | h3
      ·
       exact .inl (h5 ▸ h2)
      ·
       exact .inr ⟨d, h3, h4, h5⟩
   ·
    rw [if_neg h2, mem_vars7 l _ v]
    constructor
    ·
     rintro (a | ⟨d, h3, h4⟩)
     ·
      rcases List.mem_append.1 a with a | a
      ·
       exact .inl a
      ·
       rw [List.mem_singleton] at a
       exact .inr ⟨c, List.mem_cons_self .., h, a.symm⟩
     ·
      exact .inr ⟨d, List.mem_cons_of_mem _ h3, h4⟩
    ·
     rintro (a | ⟨d, h3, h4, h5⟩)
     ·
      exact .inl (List.mem_append_left _ a)
     ·
      rcases List.mem_cons.1 h3 with rfl | h3
      ·
       exact .inl (by rw [← h5]; simp)
      ·
       exact .inr ⟨d, h3, h4, h5⟩
  ·
   rw [if_neg h, mem_vars7 l out v]
   constructor
   ·
    rintro (a | ⟨d, h3, h4⟩)
    ·
     exact .inl a
    ·
     exact .inr ⟨d, List.mem_cons_of_mem _ h3, h4⟩
   ·
    rintro (a | ⟨d, h3, h4, h5⟩)
    ·
     exact .inl a
    ·
     rcases List.mem_cons.1 h3 with rfl | h3
     ·
      exact absurd h4 h
     ·
      exact .inr ⟨d, h3, h4, h5⟩
theorem bindL_look : ∀ (l : List Bnd7) (s : ByteArray), bindL l s = (M.lookB l s).getD []
 | [], s => rfl
 | b :: u, s => by
  have T := bindL_look u s
  unfold bindL
  unfold M.lookB at T ⊢
  rw [List.find?_cons]
  by_cases h : b.f0 = s
  ·
   rw [if_pos (by rw [h]; simp), decide_eq_true h]
   rfl
  ·
   rw [if_neg (by simpa [bytes_eq] using h), decide_eq_false h]
   exact T
end Go.Proofs.Ytdlkhpfgkghhmaa.P

-- ==== PL7g
/- Plain laws of chapter 7: what a rule's variables stand for; the machine's steps. -/
namespace Go.Proofs.Ytdlkhpfgkghhmaa.P
open Go.RowKit Go.Proofs.YtdlkhpfgkghhmaaW.PrintWords
structure Val7 (rules : List Rul) (v : List Cel) : Prop where
 gnd : gndS v = true
 quiet : Quiet rules v
 len : v.length ≤ 64
theorem gnd_infix {t x y z : List Cel} (h : gndS t = true) (e : t = x ++ y ++ z) (hs : segN y 1 = some []) : gndS y = true := by
 obtain ⟨h1, h2⟩ := gndS_iff.1 h
 obtain ⟨g1, g2, g3⟩ := checkS_ok h1
 have hl : y.length ≤ 64 := by rw [e] at g1; simp at g1; omega
 have hm : ∀ c ∈ y, c ∈ t := fun c hc => by rw [e]; simp [hc]
 exact gndS_iff.2 ⟨checkS_of hl (fun c hc => g2 c (hm c hc)) hs, fun c hc => h2 c (hm c hc)⟩
theorem bind_ok {rules : List Rul} {r : Rul} {node l : List Cel} {c0 : Cel} {o : List Bnd7} {x : List Cel} (hr : ruleS r.f0 r.f1 r.f2 = 0) (hn : gndS node = true) (en : node = c0 :: l) (hq : Quiet rules l) (hm : M.mat r.f1 node [] = some (o, x)) :
 (∀ b ∈ o, b.f1.length ≤ 64) ∧ o.length ≤ 64 ∧ ∀ d ∈ r.f2, (0 < (bindL o d.f0).length ↔ kindS d.f0 = 2) ∧ (kindS d.f0 = 2 → Told (bindL o) o d ∧ Val7 rules (bindL o d.f0) ∧ M.lookB o d.f0 = some (bindL o d.f0)) := by
 obtain ⟨g1, g2, g3, g4, g5, g6, _, _⟩ := ruleS_ok hr
 obtain ⟨c, p, e, hk, hs⟩ := rule_head hr
 obtain ⟨k1, k2, k3⟩ := checkS_ok (gndS_iff.1 hn).1
 have hol := M.mat_len _ _ _ _ _ hm
 have hval : ∀ b ∈ o, Val7 rules b.f1 := by
  intro b hb
  rw [e, en, M.mat_sym hk] at hm
  by_cases hd : c0 = c
  ·
   rw [if_pos hd] at hm
   rcases mat_infix p l [] o x hm b hb with g | ⟨q1, y, z, q2⟩
   ·
    cases g
   ·
    have hg : gndS b.f1 = true := gnd_infix hn (x := c0 :: y) (z := z) (by rw [en, q2]; simp) q1
    exact ⟨hg, quiet_infix hq q2, (checkS_ok (gndS_iff.1 hg).1).1⟩
  ·
   rw [if_neg hd] at hm; cases hm
 have hnames := M.mat_names _ _ _ _ _ hm
 refine ⟨fun b hb => (hval b hb).len, by simp at hol; omega, fun d hd => ?_⟩
 by_cases hk2 : kindS d.f0 = 2
 ·
  have hv : d.f0 ∈ varsS [] r.f2 := (mem_vars7 _ _ _).2 (.inr ⟨d, hd, hk2, rfl⟩)
  obtain hv2 | ⟨c2, w1, w2, w3⟩ := (mem_vars7 _ _ _).1 (g6 _ hv)
  ·
   cases hv2
  have hin : d.f0 ∈ o.map (·.f0) := by
   rw [hnames]
   exact (M.mem_varsS _ _ _).2 (.inr ⟨c2, w1, w2, w3⟩)
  rcases M.atS_look o d.f0 with ⟨h1, _⟩ | ⟨j, b, q1, q2, q3, q4, q5, _⟩
  ·
   exact absurd hin ((M.lookB_none _ _).1 h1)
  ·
   have hb : b ∈ o := List.mem_of_getElem? q1
   have hB : bindL o d.f0 = b.f1 := by rw [bindL_look, q3]; rfl
   have hV := hval b hb
   have hpos : 0 < b.f1.length := ok_pos (gndS_iff.1 hV.gnd).1
   rw [hB]
   refine ⟨⟨fun _ => hk2, fun _ => hpos⟩, fun _ => ⟨⟨j, ?_, q5, ?_, ?_⟩, hV, q3⟩⟩
   ·
    have := M.ev_at o d.f0 (by simp at hol; omega)
    rwa [q4] at this
   ·
    rw [hB]
    have : o.drop j = b :: o.drop (j + 1) := by
     rw [List.getElem?_eq_getElem q5] at q1
     injection q1 with q1
     rw [← q1]
     exact List.drop_eq_getElem_cons q5
    rw [M.rd_bnd this]
   ·
    rw [hB]; have := hV.len; omega
 ·
  have h0 : (bindL o d.f0).length = 0 := by
   rw [bindL_look]
   have hno : d.f0 ∉ o.map (·.f0) := by
    rw [hnames]
    intro h
    rcases (M.mem_varsS _ _ _).1 h with h | ⟨c2, w1, w2, w3⟩
    ·
     cases h
    ·
     rw [w3] at w2; exact hk2 w2
   rw [(M.lookB_none _ _).2 hno]
   rfl
  exact ⟨⟨fun h => by omega, fun h => absurd h hk2⟩, fun h => absurd h hk2⟩
end Go.Proofs.Ytdlkhpfgkghhmaa.P

-- ==== PL7m
/- Plain laws of chapter 7: the machine's steps. -/
namespace Go.Proofs.Ytdlkhpfgkghhmaa.P
open Go.RowKit Go.Proofs.YtdlkhpfgkghhmaaW.PrintWords
def EvM (rules : List Rul) (m : Mst) (R : Int × Mst) : Prop := ∃ K, ∀ k n, K ≤ k → K ≤ n → runL k rules n m = some R
theorem evM_done {rules : List Rul} {m : Mst} (h : m.ops = []) : EvM rules m (0, m) :=
 ⟨1, fun k n hk hn => by
  obtain ⟨n, rfl⟩ : ∃ j, n = j + 1 := ⟨n - 1, by omega⟩
  simp only [runL]
  rw [if_pos (by rw [h]; rfl)]⟩
theorem last_op (rest : List Opn) (x : Opn) : rd_T70 (rest ++ [x]) (((rest ++ [x]).length : Int) - 1) = x := by
 unfold rd_T70
 rw [show (((rest ++ [x]).length : Int) - 1).toNat = rest.length by simp]
 simp [List.getD_eq_getElem?_getD]
theorem take_op (rest : List Opn) (x : Opn) : (rest ++ [x]).take ((rest ++ [x]).length - 1) = rest := by
 rw [show (rest ++ [x]).length - 1 = rest.length by simp, List.take_left]
theorem evM_have {rules : List Rul} {rest : List Opn} {v : List Cel} {vals : List (List Cel)} {st fu : Int} {hd : List ByteArray} {R : Int × Mst} (hv : vals.length < 5864062014800) (h : EvM rules ⟨rest, vals ++ [v], st, hd, fu⟩ R) :
 EvM rules ⟨rest ++ [⟨2, z54, v⟩], vals, st, hd, fu⟩ R := by
 obtain ⟨K, hK⟩ := h
 refine ⟨K + 1, fun k n hk hn => ?_⟩
 obtain ⟨n, rfl⟩ : ∃ j, n = j + 1 := ⟨n - 1, by omega⟩
 simp only [runL, last_op, take_op]
 rw [if_neg (by simp), if_pos trivial, if_pos hv]
 exact hK k n (by omega) (by omega)
theorem evM_make {rules : List Rul} {rest : List Opn} {c : Cel} {vs args : List (List Cel)} {st fu : Int} {hd : List ByteArray} {r R : Int × Mst} (ho : Okc c) (ha : args.length = ar c) (hl : ∀ v ∈ args, v.length ≤ 64)
 (hN : Ev (fun k => makeN k rules c.f0 ⟨1, c, []⟩ args ⟨rest, vs, st, hd, fu⟩) r) (h0 : r.1 = 0 → EvM rules r.2 R) (h1 : r.1 ≠ 0 → R = r) : EvM rules ⟨rest ++ [⟨1, c, []⟩], vs ++ args, st, hd, fu⟩ R := by
 obtain ⟨K, hK⟩ := hN
 have har : c.f1.toNat = ar c := rfl
 have e1 : (vs ++ args).length - c.f1.toNat = vs.length := by rw [har, List.length_append, ha]; omega
 have main : ∀ k n, K ≤ k → runL k rules (n + 1) ⟨rest ++ [⟨1, c, []⟩], vs ++ args, st, hd, fu⟩ = if r.1 = 0 then runL k rules n r.2 else some r := by
  intro k n hk
  have hk2 := hK k hk
  simp only [runL, last_op, take_op, e1, List.drop_left, List.take_left]
  rw [if_neg (by simp), if_neg (by decide), if_pos ⟨ho.lo, by rw [har, List.length_append, ha]; omega, hl⟩]
  simp only at hk2
  rw [hk2]
  rfl
 by_cases hr : r.1 = 0
 ·
  obtain ⟨K2, hK2⟩ := h0 hr
  refine ⟨K + K2 + 1, fun k n hk hn => ?_⟩
  obtain ⟨n, rfl⟩ : ∃ j, n = j + 1 := ⟨n - 1, by omega⟩
  rw [main k n (by omega), if_pos hr]
  exact hK2 k n (by omega) (by omega)
 ·
  refine ⟨K + 1, fun k n hk hn => ?_⟩
  obtain ⟨n, rfl⟩ : ∃ j, n = j + 1 := ⟨n - 1, by omega⟩
  rw [main k n (by omega), if_neg hr, h1 hr]
/-! ### heads -/
theorem less_ev (a b : ByteArray) : cmp_Less_string.f a b = some (Op.bytesLess a.toList b.toList) := by
 unfold cmp_Less_string.f cmp_isNaN_string.f
 simp
theorem ev_bs_loop (x : List ByteArray) (a : ByteArray) (hx : x.length ≤ 8796093022208) : ∀ (d i j : Nat), j - i = d → i ≤ j → j ≤ x.length →
 ∃ (q : Nat) (b : Bool), Ev (fun k => slices_BinarySearch_string_string.l0 k x a (x.length : Int) (i : Int) (j : Int)) ((q : Int), b) ∧ q ≤ x.length := by
 intro d
 induction d using Nat.strongRecOn with
 | _ d ih =>
 intro i j hd hij hj
 by_cases h : i < j
 ·
  have hm : wrap64 ((IntKind.u64.wrap (wrap64 ((i : Int) + (j : Int)))) / 2) = (((i + j) / 2 : Nat) : Int) := by
   rw [wrap_id (i := (i : Int) + j) (by omega) (by omega)]
   have : IntKind.u64.wrap ((i : Int) + (j : Int)) = (i : Int) + j := by
    simp only [IntKind.wrap, IntKind.bits, IntKind.signed]
    simp
    omega
   rw [this, wrap_id (by omega) (by omega)]
   omega
  have S : ∀ {R : Int × Bool}, Ev (fun k => if Op.bytesLess (rdOf ByteArray.empty x (((i + j) / 2 : Nat) : Int)).toList a.toList = true then slices_BinarySearch_string_string.l0 k x a (x.length : Int) ((((i + j) / 2 + 1 : Nat)) : Int) (j : Int) else slices_BinarySearch_string_string.l0 k x a (x.length : Int) (i : Int) (((i + j) / 2 : Nat) : Int)) R → Ev (fun k => slices_BinarySearch_string_string.l0 k x a (x.length : Int) (i : Int) (j : Int)) R := by
   intro R hR
   refine Ev.step (fun k => (show slices_BinarySearch_string_string.l0 (k + 1) x a (x.length : Int) (i : Int) (j : Int) = _ from by rw [slices_BinarySearch_string_string.l0])) ?_
   simp only [hm, less_ev, Option.bind_some, up_cast ((i + j) / 2) (by omega)]
   exact evIfp (by omega) (evIfp (by omega) (evIfp (by omega) hR))
  by_cases hb : Op.bytesLess (rdOf ByteArray.empty x (((i + j) / 2 : Nat) : Int)).toList a.toList = true
  ·
   obtain ⟨q, b, h1, h2⟩ := ih (j - ((i + j) / 2 + 1)) (by omega) ((i + j) / 2 + 1) j rfl (by omega) hj
   exact ⟨q, b, S (evIfp hb h1), h2⟩
  ·
   obtain ⟨q, b, h1, h2⟩ := ih ((i + j) / 2 - i) (by omega) i ((i + j) / 2) rfl (by omega) (by omega)
   exact ⟨q, b, S (evIfn hb h1), h2⟩
 ·
  have S : ∀ {R : Int × Bool}, Ev (fun k => if (i : Int) < (x.length : Int) then (if 0 ≤ (i : Int) then (if (i : Int) < (x.length : Int) then (if (rdOf ByteArray.empty x (i : Int)).toList = a.toList then (some ((i : Int), true)) else some ((i : Int), false)) else none) else none) else some ((i : Int), false)) R → Ev (fun k => slices_BinarySearch_string_string.l0 k x a (x.length : Int) (i : Int) (j : Int)) R := by
   intro R hR
   refine Ev.step (fun k => (show slices_BinarySearch_string_string.l0 (k + 1) x a (x.length : Int) (i : Int) (j : Int) = _ from by rw [slices_BinarySearch_string_string.l0])) ?_
   refine evIfn (by omega) ?_
   simpa only [slices_isNaN_string.f, bne_self_eq_false, Option.bind_some, Bool.false_eq_true, if_false] using hR
  by_cases h2 : (i : Int) < (x.length : Int)
  ·
   by_cases h3 : (rdOf ByteArray.empty x (i : Int)).toList = a.toList
   ·
    exact ⟨i, true, S (evIfp h2 (evIfp (by omega) (evIfp h2 (evIfp h3 (Ev.now _))))), by omega⟩
   ·
    exact ⟨i, false, S (evIfp h2 (evIfp (by omega) (evIfp h2 (evIfn h3 (Ev.now _))))), by omega⟩
  ·
   exact ⟨i, false, S (evIfn h2 (Ev.now _)), by omega⟩
theorem ev_head1 (hd : List ByteArray) (a : ByteArray) (hl : hd.length < 8796093022207) : ∃ hd', Ev (fun k => headF k [a] hd) hd' ∧ hd'.length ≤ hd.length + 1 := by
 obtain ⟨q, b, h1, h2⟩ := ev_bs_loop hd a (by omega) (hd.length - 0) 0 hd.length rfl (by omega) (by omega)
 have h1' : Ev (fun k => slices_BinarySearch_string_string.f k hd a) ((q : Int), b) := h1
 have S : ∀ {R : List ByteArray}, Ev (fun k => if b = true then some hd else if 0 ≤ (q : Int) ∧ (q : Int) ≤ (hd.length : Int) ∧ hd.length < 8796093022207 then some (insAt hd q a) else none) R → Ev (fun k => headF k [a] hd) R := fun h =>
  Ev.congr (f := fun k => (slices_BinarySearch_string_string.f k hd a).bind fun b => if b.2 = true then some hd else if 0 ≤ b.1 ∧ b.1 ≤ (hd.length : Int) ∧ hd.length < 8796093022207 then some (insAt hd b.1.toNat a) else none) (fun k => rfl) (Ev.bind h1' h)
 cases b with
 | true => exact ⟨hd, S (evIfp rfl (Ev.now _)), by omega⟩
 | false => exact ⟨insAt hd q a, S (evIfn (by decide) (evIfp ⟨by omega, by omega, hl⟩ (Ev.now _))), by rw [insAt_length _ _ _ h2]; omega⟩
/-! ### what an op makes -/
theorem foldl_node : ∀ (args : List (List Cel)) (acc : List Cel), (acc.length + args.flatten.length ≤ 64 → args.foldl nodeStep acc = acc ++ args.flatten) ∧ (64 < acc.length + args.flatten.length → 64 < (args.foldl nodeStep acc).length)
 | [], acc => by simp
 | v :: u, acc => by
  simp only [List.foldl_cons, List.flatten_cons, List.length_append]
  by_cases h : acc.length ≤ 64
  ·
   have e : nodeStep acc v = acc ++ v := by unfold nodeStep; rw [if_pos h]
   rw [e]
   obtain ⟨h1, h2⟩ := foldl_node u (acc ++ v)
   rw [List.length_append] at h1 h2
   exact ⟨fun g => by rw [h1 (by omega), List.append_assoc], fun g => h2 (by omega)⟩
  ·
   have e : nodeStep acc v = acc := by unfold nodeStep; rw [if_neg h]
   rw [e]
   obtain ⟨h1, h2⟩ := foldl_node u acc
   exact ⟨fun g => by omega, fun g => h2 (by omega)⟩
theorem cel_of {c : Cel} (ho : Okc c) {args : List (List Cel)} (ha : args.length = ar c) : (⟨c.f0, (args.length : Int)⟩ : Cel) = c := by
 have h1 : (args.length : Int) = c.f1 := by rw [ha]; unfold ar; have := ho.lo; omega
 rw [h1]
theorem ev_make_big {rules : List Rul} {c : Cel} {args : List (List Cel)} {m : Mst} (ho : Okc c) (ha : args.length = ar c) (hb : 64 < (c :: args.flatten).length) :
 Ev (fun k => makeN k rules c.f0 ⟨1, c, []⟩ args m) (6, ⟨m.ops ++ [⟨1, c, []⟩], m.vals ++ args, m.st, m.hd, m.fu⟩) := by
 unfold makeN
 rw [cel_of ho ha]
 have := (foldl_node args [c]).2 (by simpa [Nat.add_comm] using hb)
 exact evIfp (show (nodeL c args).length > 64 from this) (Ev.now _)
theorem ev_make_of {rules : List Rul} {c : Cel} {args : List (List Cel)} {m : Mst} {r : Int × Mst} (ho : Okc c) (ha : args.length = ar c) (hb : (c :: args.flatten).length ≤ 64)
 (h : Ev (fun k => nodeR k rules (c :: args.flatten) c.f0 args m ⟨m.ops ++ [⟨1, c, []⟩], m.vals ++ args, m.st, m.hd, m.fu⟩) r) : Ev (fun k => makeN k rules c.f0 ⟨1, c, []⟩ args m) r := by
 unfold makeN
 rw [cel_of ho ha]
 have e : nodeL c args = c :: args.flatten := (foldl_node args [c]).1 (by simpa [Nat.add_comm] using hb)
 rw [e]
 exact evIfn (by omega) h
end Go.Proofs.Ytdlkhpfgkghhmaa.P

-- ==== PL7k
/- Plain laws of chapter 7: a term's arguments, of longer terms. -/
namespace Go.Proofs.Ytdlkhpfgkghhmaa.P
open Go.RowKit Go.Proofs.YtdlkhpfgkghhmaaW.PrintWords
theorem ev_refBehind_atW : ∀ (d : Nat) (t : List Cel) (ht : t.length ≤ 1000) (hok : ∀ c ∈ t, Okc c) (a : Nat), t.length - a = d → a ≤ t.length → Ev (fun k => aumbryref04_Behind.f k t (a : Int)) (behS t a 1) := by
 intro d
 induction d using Nat.strongRecOn with
 | _ d ih =>
 intro t ht hok a hd ha
 rcases hs : t.drop a with _ | ⟨c, s⟩
 ·
  have hl := drop_nil_len ha hs
  refine Ev.step (f := fun k => aumbryref04_Behind.j0 k t (a : Int) true) (fun k => by simp only [aumbryref04_Behind.f]; rw [if_neg (by omega)]; congr 1; simp; omega) ?_
  refine Ev.step (f := fun k => some (-1)) (fun k => by simp only [aumbryref04_Behind.j0]; rfl) ?_
  have : behS t a 1 = -1 := by
   unfold behS
   rw [hs]
   rfl
  rw [this]
  exact Ev.now _
 ·
  obtain ⟨h1, h2, h3⟩ := drop_cons hs
  have hc : Okc c := hok c (List.mem_of_mem_drop (hs ▸ List.mem_cons_self ..))
  have har : (ar c : Int) = c.f1 := by unfold ar; have := hc.lo; omega
  have hh := hc.hi
  have hl0 := hc.lo
  refine Ev.step (f := fun k => aumbryref04_Behind.j0 k t (a : Int) false) (fun k => by simp only [aumbryref04_Behind.f]; rw [if_neg (by omega)]; congr 1; simp; omega) ?_
  refine Ev.step (f := fun k => aumbryref04_Behind.l0 k t ((a + 1 : Nat) : Int) (ar c : Int) 0) (fun k => by
   simp only [aumbryref04_Behind.j0]
   rw [if_neg (by simp), if_pos (by omega), if_pos (by omega), rd_cel hs, wrap_up (by omega) (by omega), har]
   rfl) ?_
  have loop : ∀ (m : Nat) (b i : Nat), t.length - b < d → b ≤ t.length → i + m = ar c → Ev (fun k => aumbryref04_Behind.l0 k t (b : Int) (ar c : Int) (i : Int)) (behS t b m) := by
   intro m
   induction m with
   | zero =>
    intro b i hb hbl hi
    refine Ev.step (f := fun _ => some (b : Int)) (fun k => by simp only [aumbryref04_Behind.l0]; rw [if_neg (by omega)]) ?_
    have : behS t b 0 = (b : Int) := by
     unfold behS
     rw [segN_zero]
     simp only [List.length_drop]
     omega
    rw [this]
    exact Ev.now _
   | succ m ihm =>
    intro b i hb hbl hi
    refine Ev.step (f := fun k => (aumbryref04_Behind.f k t (b : Int)).bind fun r => aumbryref04_Behind.l0 k t r (ar c : Int) ((i + 1 : Nat) : Int)) (fun k => by
     simp only [aumbryref04_Behind.l0]
     rw [if_pos (by omega), if_pos (by omega), wrap_up (by omega) (by omega)]
     rfl) ?_
    refine Ev.bind (ih _ hb t ht hok b rfl hbl) ?_
    have hadd : segN (t.drop b) (m + 1) = (segN (t.drop b) 1).bind fun r => segN r m := by rw [show m + 1 = 1 + m by omega]; exact segN_add _ _ _
    cases hr : segN (t.drop b) 1 with
    | none =>
     have e1 : behS t b 1 = -1 := by unfold behS; rw [hr]
     have e2 : behS t b (m + 1) = -1 := by unfold behS; rw [hadd, hr]; rfl
     rw [e1, e2]
     refine Ev.step (f := fun _ => some (-1 : Int)) (fun k => ?_) (Ev.now _)
     simp only [aumbryref04_Behind.l0]
     split <;> simp
    | some r =>
     obtain ⟨q, hq1, hq2⟩ := segN_suffix hr
     rw [List.drop_drop] at hq2
     have hlen := segN_len hr
     simp only [List.length_drop] at hlen hq1
     have hrl : r.length = t.length - (b + q) := by rw [← hq2, List.length_drop]
     have e1 : behS t b 1 = ((b + q : Nat) : Int) := by unfold behS; rw [hr]; simp only; omega
     have e2 : behS t b (m + 1) = behS t (b + q) m := by unfold behS; rw [hadd, hr, hq2]; rfl
     rw [e1, e2]
     exact ihm (b + q) (i + 1) (by omega) (by omega) (by omega)
  have : behS t a 1 = behS t (a + 1) (ar c) := by
   unfold behS
   rw [hs, h3]
   show (match segN s (0 + ar c) with | none => (-1 : Int) | some r => _) = _
   rw [Nat.zero_add]
   try rfl
  rw [this]
  exact loop (ar c) (a + 1) 0 (by omega) (by omega) (by omega)
theorem ev_refBehindW (t : List Cel) (ht : t.length ≤ 1000) (hok : ∀ c ∈ t, Okc c) (a : Nat) (ha : a ≤ t.length) : Ev (fun k => aumbryref04_Behind.f k t (a : Int)) (behS t a 1) := ev_refBehind_atW _ t ht hok a rfl ha
theorem ev_rkids_loopW (t : List Cel) (ht : t.length ≤ 1000) (hok : ∀ c ∈ t, Okc c) : ∀ (n a : Nat) (out : List (List Cel)), a ≤ t.length → segN (t.drop a) n = some [] → out.length ≤ a →
 Ev (fun k => aumbryref04_Kids.l0 k t out (a : Int)) (out ++ splitT n (t.drop a))
 | 0, a, out, ha, hn, ho => by
  rw [segN_zero] at hn
  injection hn with hn
  have := drop_nil_len ha hn
  refine Ev.step (fun k => (show aumbryref04_Kids.l0 (k + 1) t out (a : Int) = _ from by rw [aumbryref04_Kids.l0])) ?_
  refine evIfn (by omega) ?_
  simp only [splitT, List.append_nil]
  exact Ev.now _
 | n + 1, a, out, ha, hn, ho => by
  obtain ⟨r, hr1, hr2⟩ := segN_split hn
  have hlt := (segN_len hr1).2 (by omega)
  rw [List.length_drop] at hlt
  obtain ⟨q, hq, hqr⟩ := segN_suffix hr1
  rw [List.drop_drop] at hqr
  rw [List.length_drop] at hq
  have hrl : r.length = t.length - (a + q) := by rw [← hqr, List.length_drop]
  have hb : behS t a 1 = ((a + q : Nat) : Int) := by
   unfold behS
   rw [hr1]
   simp only
   omega
  have hq0 : 0 < q := by omega
  have hpart : ((t.take (((a + q : Nat) : Int)).toNat).drop ((a : Int)).toNat : List Cel) = fstT (t.drop a) r := by
   unfold fstT
   rw [List.length_drop]
   simp only [Int.toNat_natCast]
   rw [List.drop_take]
   congr 1
   omega
  have hbh := ev_refBehindW t ht hok a ha
  rw [hb] at hbh
  refine Ev.step (fun k => (show aumbryref04_Kids.l0 (k + 1) t out (a : Int) = _ from by rw [aumbryref04_Kids.l0])) ?_
  refine evIfp (by omega) ?_
  refine Ev.bind hbh ?_
  refine evIfp (by omega) (evIfp (by omega) (evIfp (by omega) ?_))
  have hfl : (fstT (t.drop a) r).length = q := by unfold fstT; rw [List.length_take, List.length_drop]; omega
  simp only [hpart]
  refine Ev.bind (evIs (copy_at _ (by omega))) ?_
  refine evIfp (by omega) ?_
  refine Ev.bind hbh ?_
  have := ev_rkids_loopW t ht hok n (a + q) (out ++ [fstT (t.drop a) r]) (by omega) (by rw [hqr]; exact hr2) (by simp; omega)
  have e : out ++ splitT (n + 1) (t.drop a) = out ++ [fstT (t.drop a) r] ++ splitT n (t.drop (a + q)) := by
   simp only [splitT, hr1, hqr, List.append_assoc, List.singleton_append]
  rw [e]
  exact this
theorem ev_rkidsW {c : Cel} {l : List Cel} (h1 : (c :: l).length ≤ 1000) (h2 : ∀ x ∈ c :: l, Okc x) (h3 : segN l (ar c) = some []) : Ev (fun k => aumbryref04_Kids.f k (c :: l)) (splitT (ar c) l) := by
 unfold aumbryref04_Kids.f
 exact ev_rkids_loopW (c :: l) h1 h2 (ar c) 1 [] (by simp) h3 (by simp)
end Go.Proofs.Ytdlkhpfgkghhmaa.P

-- ==== PL7i
/- Plain laws of chapter 7: the normal form by definition, in big steps. -/
namespace Go.Proofs.Ytdlkhpfgkghhmaa.P
open Go.RowKit Go.Proofs.YtdlkhpfgkghhmaaW.PrintWords
theorem ev_unique {α : Type} {g : Nat → Option α} {a b : α} (h1 : Ev g a) (h2 : Ev g b) : a = b := by
 obtain ⟨K1, h1⟩ := h1
 obtain ⟨K2, h2⟩ := h2
 exact Option.some.inj ((h1 (max K1 K2) (Nat.le_max_left _ _)).symm.trans (h2 _ (Nat.le_max_right _ _)))
def putL (H : ByteArray → List Cel) (l : List Cel) : List Cel := l.flatMap fun c => if 0 < (H c.f0).length then H c.f0 else [c]
theorem putL_append (H : ByteArray → List Cel) (a b : List Cel) : putL H (a ++ b) = putL H a ++ putL H b := by simp [putL]
theorem putL_yes {H : ByteArray → List Cel} {c : Cel} (l : List Cel) (h : 0 < (H c.f0).length) : putL H (c :: l) = H c.f0 ++ putL H l := by simp [putL, h]
theorem putL_no {H : ByteArray → List Cel} {c : Cel} (l : List Cel) (h : ¬ 0 < (H c.f0).length) : putL H (c :: l) = c :: putL H l := by
 unfold putL
 rw [List.flatMap_cons, if_neg h]
 rfl
theorem putL_none (l : List Cel) : putL (fun _ => []) l = l := by
 induction l with
 | nil => rfl
 | cons c l ih => rw [putL_no _ (by simp), ih]
theorem putS_putL {o : List Bnd7} : ∀ (l : List Cel), (∀ d ∈ l, (0 < (bindL o d.f0).length ↔ kindS d.f0 = 2) ∧ (kindS d.f0 = 2 → M.lookB o d.f0 = some (bindL o d.f0))) → M.putS l o = some (putL (bindL o) l)
 | [], _ => rfl
 | c :: l, h => by
  have T := putS_putL l (fun d hd => h d (List.mem_cons_of_mem _ hd))
  obtain ⟨h1, h2⟩ := h c (List.mem_cons_self ..)
  unfold M.putS
  by_cases hk : kindS c.f0 = 2
  ·
   rw [if_pos hk, h2 hk, T, putL_yes _ (h1.2 hk)]
   rfl
  ·
   rw [if_neg hk, T, putL_no _ (fun q => hk (h1.1 q))]
   rfl
inductive RefSeq (rules : List Rul) : Nat → List (List Cel) → List (List Cel) → Nat → Prop
 | nil {F : Nat} : RefSeq rules F [] [] F
 | cons {F F1 F2 : Nat} {t v : List Cel} {ts vs : List (List Cel)} : Ev (fun k => aumbryref07_Inner.f k rules t (F : Int)) (v, (F1 : Int), 0) → v.length ≤ 64 → RefSeq rules F1 ts vs F2 → RefSeq rules F (t :: ts) (v :: vs) F2
inductive RefErr (rules : List Rul) : Nat → List (List Cel) → Int → Prop
 | here {F : Nat} {t : List Cel} {ts : List (List Cel)} {e : Int} : e ≠ 0 → Ev (fun k => aumbryref07_Inner.f k rules t (F : Int)) ([], 0, e) → RefErr rules F (t :: ts) e
 | later {F F1 : Nat} {t v : List Cel} {ts : List (List Cel)} {e : Int} : Ev (fun k => aumbryref07_Inner.f k rules t (F : Int)) (v, (F1 : Int), 0) → v.length ≤ 64 → RefErr rules F1 ts e → RefErr rules F (t :: ts) e
theorem inner_l1 {rules : List Rul} {F : Nat} {kids : List (List Cel)} {acc t : List Cel} {i : Nat} {ts : List (List Cel)} {R : List Cel × Int × Int} (hk : kids.length ≤ 1000) (hd : kids.drop i = t :: ts)
 (h : Ev (fun k => (aumbryref07_Inner.f k rules t (F : Int)).bind fun b => if b.2.2 = 0 then (if acc.length + b.1.length < 5864062014805 then aumbryref07_Inner.l1 k rules b.2.1 kids (acc ++ b.1) (kids.length : Int) ((i + 1 : Nat) : Int) else none) else some ([], 0, b.2.2)) R) :
 Ev (fun k => aumbryref07_Inner.l1 k rules (F : Int) kids acc (kids.length : Int) (i : Int)) R := by
 obtain ⟨h1, _, _⟩ := drop_cons hd
 refine Ev.step (fun k => (show aumbryref07_Inner.l1 (k + 1) rules (F : Int) kids acc (kids.length : Int) (i : Int) = _ from by rw [aumbryref07_Inner.l1])) ?_
 simp only [rd_trm hd, up_cast i (by omega)]
 exact evIfp (by omega) (evIfp (by omega) (evIfp (by omega) h))
theorem inner_loop {rules : List Rul} {F F' : Nat} {ts vs : List (List Cel)} (h : RefSeq rules F ts vs F') : ∀ (kids : List (List Cel)) (i : Nat) (acc : List Cel), kids.length ≤ 1000 → i ≤ kids.length → kids.drop i = ts → acc.length + 64 * ts.length ≤ 1000000 →
 ∀ R, Ev (fun k => aumbryref07_Inner.l1 k rules (F' : Int) kids (acc ++ vs.flatten) (kids.length : Int) (kids.length : Int)) R → Ev (fun k => aumbryref07_Inner.l1 k rules (F : Int) kids acc (kids.length : Int) (i : Int)) R := by
 induction h with
 | nil =>
  intro kids i acc hk hi hd hs R hR
  have := drop_nil_len hi hd
  rw [List.flatten_nil, List.append_nil] at hR
  rw [this]
  exact hR
 | @cons F F1 F2 t v ts vs a b _ ih =>
  intro kids i acc hk hi hd hs R hR
  obtain ⟨h1, _, h3⟩ := drop_cons hd
  simp only [List.length_cons] at hs
  refine inner_l1 hk hd (Ev.bind a (evIfp rfl (evIfp (by show acc.length + v.length < _; omega) ?_)))
  refine ih kids (i + 1) (acc ++ v) hk (by omega) h3 (by simp; omega) R ?_
  rw [List.append_assoc, ← List.flatten_cons]
  exact hR
theorem inner_loop_err {rules : List Rul} {F : Nat} {ts : List (List Cel)} {e : Int} (h : RefErr rules F ts e) : ∀ (kids : List (List Cel)) (i : Nat) (acc : List Cel), kids.length ≤ 1000 → i ≤ kids.length → kids.drop i = ts → acc.length + 64 * ts.length ≤ 1000000 →
 e ≠ 0 ∧ Ev (fun k => aumbryref07_Inner.l1 k rules (F : Int) kids acc (kids.length : Int) (i : Int)) ([], 0, e) := by
 induction h with
 | here he a =>
  intro kids i acc hk hi hd hs
  exact ⟨he, inner_l1 hk hd (Ev.bind a (evIfn he (Ev.now _)))⟩
 | @later F F1 t v ts e a b _ ih =>
  intro kids i acc hk hi hd hs
  obtain ⟨h1, _, h3⟩ := drop_cons hd
  simp only [List.length_cons] at hs
  obtain ⟨he, T⟩ := ih kids (i + 1) (acc ++ v) hk (by omega) h3 (by simp; omega)
  exact ⟨he, inner_l1 hk hd (Ev.bind a (evIfp rfl (evIfp (by show acc.length + v.length < _; omega) T)))⟩
/-! ### the end of a round -/
theorem inner_end {rules : List Rul} {F : Nat} {kids : List (List Cel)} {node : List Cel} {R : List Cel × Int × Int}
 (h : Ev (fun k => if (node.length : Int) > 64 then some (([] : List Cel), (0 : Int), (6 : Int)) else (aumbryref07_First.f k rules node).bind fun b => if b.1 < 0 then some (node, (F : Int), 0) else if (F : Int) ≤ 0 then some ([], 0, 14) else if 0 ≤ b.1 then (if b.1 < (rules.length : Int) then ((aumbryref05_Var.f k (rd_T73 rules b.1).f2).bind fun t => if t = true then (if 0 < ((rd_T73 rules b.1).f2.length : Int) then ((aumbryref05_At.f k b.2 (rd_T54 (rd_T73 rules b.1).f2 0).f0).bind fun j => if 0 ≤ j then (if j < (b.2.length : Int) then ((aumbryref04_Copy.f (rd_T104 b.2 j).f1).bind fun v => some (v, wrap64 ((F : Int) - 1), 0)) else none) else none) else none) else ((aumbryref05_Put.f k (rd_T73 rules b.1).f2 b.2).bind fun t => if (t.length : Int) > 4000 then some ([], 0, 6) else aumbryref07_Inner.l0 k rules t (wrap64 ((F : Int) - 1)))) else none) else none) R) :
 Ev (fun k => aumbryref07_Inner.l1 k rules (F : Int) kids node (kids.length : Int) (kids.length : Int)) R := by
 refine Ev.step (fun k => (show aumbryref07_Inner.l1 (k + 1) rules (F : Int) kids node (kids.length : Int) (kids.length : Int) = _ from by rw [aumbryref07_Inner.l1])) ?_
 exact evIfn (by omega) h
theorem inner_big {rules : List Rul} {F : Nat} {kids : List (List Cel)} {node : List Cel} (h : 64 < node.length) : Ev (fun k => aumbryref07_Inner.l1 k rules (F : Int) kids node (kids.length : Int) (kids.length : Int)) ([], 0, 6) :=
 inner_end (evIfp (by omega) (Ev.now _))
theorem inner_none {rules : List Rul} {F : Nat} {kids : List (List Cel)} {node : List Cel} (hr : Rls rules) (hl : rules.length ≤ 2513169434915) (hn : checkS node = 0) (hf : fitS rules node = none) : Ev (fun k => aumbryref07_Inner.l1 k rules (F : Int) kids node (kids.length : Int) (kids.length : Int)) (node, (F : Int), 0) := by
 have := checkS_len hn
 obtain ⟨j, x, h1, h2, _⟩ := ev_first hn hr hl
 rw [h2 hf] at h1
 exact inner_end (evIfn (by omega) (Ev.bind h1 (evIfp (show (-1 : Int) < 0 by decide) (Ev.now _))))
theorem inner_fuel {rules : List Rul} {kids : List (List Cel)} {node : List Cel} (hr : Rls rules) (hl : rules.length ≤ 2513169434915) (hn : checkS node = 0) {r : Rul} {o : List Bnd7} (hf : fitS rules node = some (r, o)) : Ev (fun k => aumbryref07_Inner.l1 k rules ((0 : Nat) : Int) kids node (kids.length : Int) (kids.length : Int)) ([], 0, 14) := by
 have := checkS_len hn
 obtain ⟨j, x, h1, _, h3⟩ := ev_first hn hr hl
 obtain ⟨rfl, a, rfl, h4, h5⟩ := h3 r o hf
 exact inner_end (evIfn (by omega) (Ev.bind h1 (evIfn (by simp) (evIfp (by simp) (Ev.now _)))))
theorem inner_l0 {rules : List Rul} {F : Int} {c : Cel} {l : List Cel} (h1 : (c :: l).length ≤ 1000) (h2 : ∀ x ∈ c :: l, Okc x) (h3 : segN l (ar c) = some []) {R : List Cel × Int × Int} (h : Ev (fun k => aumbryref07_Inner.l1 k rules F (splitT (ar c) l) [c] ((splitT (ar c) l).length : Int) 0) R) : Ev (fun k => aumbryref07_Inner.l0 k rules (c :: l) F) R := by
 refine Ev.step (fun k => (show aumbryref07_Inner.l0 (k + 1) rules (c :: l) F = _ from by rw [aumbryref07_Inner.l0])) ?_
 exact Ev.bind (ev_rkidsW h1 h2 h3) (evIfp (by simp) h)
theorem inner_f {rules : List Rul} {F : Int} {t : List Cel} {R : List Cel × Int × Int} (h : Ev (fun k => aumbryref07_Inner.l0 k rules t F) R) : Ev (fun k => aumbryref07_Inner.f k rules t F) R :=
 Ev.step (fun k => (show aumbryref07_Inner.f (k + 1) rules t F = _ from by rw [aumbryref07_Inner.f])) h
/-! ### terms that are normal already -/
theorem val7_parts {rules : List Rul} : ∀ (n : Nat) (l : List Cel), segN l n = some [] → (∀ c ∈ l, Okc c ∧ kindS c.f0 ≠ 2) → l.length ≤ 64 → Quiet rules l → ∀ v ∈ splitT n l, Val7 rules v ∧ v.length ≤ l.length
 | 0, l, _, _, _, _, v, hv => by cases hv
 | n + 1, l, hs, ho, hl, hq, v, hv => by
  obtain ⟨r, h1, h2⟩ := segN_split hs
  obtain ⟨e, h3⟩ := segN_fst h1
  have hle : l.length = (fstT l r).length + r.length := by conv => lhs; rw [e, List.length_append]
  simp only [splitT, h1, List.mem_cons] at hv
  rcases hv with rfl | hv
  ·
   have hm : ∀ c ∈ fstT l r, c ∈ l := fun c hc => mem_fstT hc
   exact ⟨⟨gndS_iff.2 ⟨checkS_of (by omega) (fun c hc => (ho c (hm c hc)).1) h3, fun c hc => (ho c (hm c hc)).2⟩, quiet_infix hq (x := []) (z := r) (by rw [List.nil_append]; exact e), by omega⟩, by omega⟩
  ·
   have hm : ∀ c ∈ r, c ∈ l := fun c hc => by rw [e]; exact List.mem_append_right _ hc
   obtain ⟨g1, g2⟩ := val7_parts n r h2 (fun c hc => ho c (hm c hc)) (by omega) (quiet_infix hq (x := fstT l r) (z := []) (by rw [List.append_nil]; exact e)) v hv
   exact ⟨g1, by omega⟩
theorem refSeq_same {rules : List Rul} {F : Nat} : ∀ (vs : List (List Cel)), (∀ v ∈ vs, Ev (fun k => aumbryref07_Inner.f k rules v (F : Int)) (v, (F : Int), 0) ∧ v.length ≤ 64) → RefSeq rules F vs vs F
 | [], _ => .nil
 | v :: vs, h => .cons (h v (List.mem_cons_self ..)).1 (h v (List.mem_cons_self ..)).2 (refSeq_same vs (fun w hw => h w (List.mem_cons_of_mem _ hw)))
theorem inner_quiet {rules : List Rul} (hr : Rls rules) (hl : rules.length ≤ 2513169434915) (F : Nat) : ∀ (n : Nat) (v : List Cel), v.length ≤ n → Val7 rules v → Ev (fun k => aumbryref07_Inner.f k rules v (F : Int)) (v, (F : Int), 0)
 | 0, v, hn, hv => by have := ok_pos (gndS_iff.1 hv.gnd).1; omega
 | n + 1, v, hn, hv => by
  obtain ⟨hc, hk⟩ := gndS_iff.1 hv.gnd
  obtain ⟨g1, g2, g3⟩ := checkS_ok hc
  obtain ⟨c, l, rfl, hs⟩ := cons_term hc
  simp only [List.length_cons] at g1 hn
  have hsp := splitT_spec (ar c) l hs
  have har : ar c ≤ 4 := by have := (g2 c (List.mem_cons_self ..)).hi; unfold ar; omega
  have hp := val7_parts (rules := rules) (ar c) l hs (fun x hx => ⟨g2 x (List.mem_cons_of_mem _ hx), hk x (List.mem_cons_of_mem _ hx)⟩) (by omega) (quiet_infix hv.quiet (x := [c]) (z := []) (by simp))
  have S : RefSeq rules F (splitT (ar c) l) (splitT (ar c) l) F := refSeq_same _ (fun w hw => ⟨inner_quiet hr hl F n w (by have := (hp w hw).2; omega) (hp w hw).1, (hp w hw).1.len⟩)
  refine inner_f (inner_l0 (by simp; omega) g2 hs (inner_loop S (splitT (ar c) l) 0 [c] (by omega) (by omega) rfl (by simp; omega) _ ?_))
  rw [hsp.1]
  exact inner_none hr hl hc (hv.quiet [] (c :: l) [] (by simp) g3)
end Go.Proofs.Ytdlkhpfgkghhmaa.P

-- ==== PL7e
/- Plain laws of chapter 7: the machine comes to what the definition comes to. -/
namespace Go.Proofs.Ytdlkhpfgkghhmaa.P
open Go.RowKit Go.Proofs.YtdlkhpfgkghhmaaW.PrintWords
theorem inner_step {rules : List Rul} {F : Nat} {kids : List (List Cel)} {node l : List Cel} {c0 : Cel} (hr : Rls rules) (hl : rules.length ≤ 2513169434915) (hn : gndS node = true) (en : node = c0 :: l) (hq : Quiet rules l) (hF : F ≤ 1000000) {r : Rul} {o : List Bnd7} (hf : fitS rules node = some (r, o))
 {R : List Cel × Int × Int} (hR : Ev (fun k => aumbryref07_Inner.f k rules (putL (bindL o) r.f2) (F : Int)) R) : Ev (fun k => aumbryref07_Inner.l1 k rules ((F + 1 : Nat) : Int) kids node (kids.length : Int) (kids.length : Int)) R := by
 have hc := (gndS_iff.1 hn).1
 have h64 := checkS_len hc
 obtain ⟨hmem, x, hm⟩ := fitS_mem hf
 replace hm : M.mat r.f1 node [] = some (o, x) := hm
 have hru := hr r hmem
 obtain ⟨b1, b2, b3⟩ := bind_ok (rules := rules) hru hn en hq hm
 obtain ⟨g1, g2, g3, g4, g5, g6, _, _⟩ := ruleS_ok hru
 obtain ⟨p1, p2, p3⟩ := checkS_ok g2
 obtain ⟨j, y, h1, _, h3⟩ := ev_first hc hr hl
 obtain ⟨rfl, a, rfl, h4, h5⟩ := h3 r o hf
 have hw : wrap64 (((F + 1 : Nat) : Int) - 1) = (F : Int) := by rw [wrap_id (by omega) (by omega)]; omega
 refine inner_end (evIfn (by omega) (Ev.bind h1 ?_))
 simp only [h5, hw]
 refine evIfn (by omega) (evIfn (by omega) (evIfp (by omega) (evIfp (by omega) (Ev.bind (ev_var7 r.f2) ?_))))
 obtain ⟨c, u, e2, hs2⟩ := cons_term g2
 by_cases hv : kindS c.f0 = 2
 ·
  have har : ar c = 0 := by have := (p2 c (by rw [e2]; exact List.mem_cons_self ..)).var hv; unfold ar; rw [this]; rfl
  have hu : u = [] := by rw [har, segN_zero] at hs2; injection hs2
  subst hu
  obtain ⟨q1, q2⟩ := b3 c (by rw [e2]; exact List.mem_cons_self ..)
  obtain ⟨⟨i, t1, t2, t3, t4⟩, q4, q5⟩ := q2 hv
  rw [e2] at hR ⊢
  refine evIfp (by show (kindS c.f0 == 2) = true; rw [hv]; rfl) (evIfp (by simp) (Ev.bind t1 (evIfp (by omega) (evIfp (by show (i : Int) < (y.length : Int); omega) ?_))))
  rw [t3]
  refine Ev.bind (evIs (copy_at _ t4)) ?_
  rw [putL_yes [] (q1.2 hv), show putL (bindL y) [] = [] from rfl, List.append_nil] at hR
  rw [ev_unique hR (inner_quiet hr hl F _ _ (Nat.le_refl _) q4)]
  exact Ev.now _
 ·
  refine evIfn (by rw [e2]; cases u with
   | nil => simpa using hv
   | cons a l => simp) ?_
  have hput : M.putS r.f2 y = some (putL (bindL y) r.f2) := putS_putL r.f2 (fun d hd => ⟨(b3 d hd).1, fun hk => ((b3 d hd).2 hk).2.2⟩)
  have P := M.ev_put_loop r.f2 y p1 b1 (by omega) r.f2 0 [] _ (by omega) rfl (by simp) hput
  rw [List.nil_append] at P
  have hlen : (putL (bindL y) r.f2).length ≤ 64 * r.f2.length := by
   have : ∀ (s : List Cel), (∀ d ∈ s, d ∈ r.f2) → (putL (bindL y) s).length ≤ 64 * s.length := by
    intro s
    induction s with
    | nil => intro _; simp [putL]
    | cons d s ih =>
     intro hsub
     have T := ih fun z hz => hsub z (List.mem_cons_of_mem _ hz)
     obtain ⟨q1, q2⟩ := b3 d (hsub d (List.mem_cons_self ..))
     by_cases hd : 0 < (bindL y d.f0).length
     ·
      rw [putL_yes _ hd, List.length_append, List.length_cons]
      have := (q2 (q1.1 hd)).2.1.len
      omega
     ·
      rw [putL_no _ hd, List.length_cons, List.length_cons]; omega
   exact this r.f2 (fun d hd => hd)
  refine Ev.bind (show Ev (fun k => aumbryref05_Put.f k r.f2 y) (putL (bindL y) r.f2) from P) (evIfn (by omega) ?_)
  obtain ⟨K, hK⟩ := hR
  refine ⟨K, fun k hk => ?_⟩
  have := hK (k + 1) (by omega)
  simp only at this
  rw [aumbryref07_Inner.f] at this
  exact this
/-! ### the two side by side -/
def MOk (rules : List Rul) (o : List Opn) (L F : Nat) (vs : List (List Cel)) (F' : Nat) : Prop :=
 ∀ (rest : List Opn) (vals : List (List Cel)) (st fu : Int) (hd : List ByteArray), fu.toNat = F → 0 ≤ st → rest.length + vals.length + hd.length + st.toNat + 3 * L + 200 * F ≤ 1000000 →
  ∃ (hd' : List ByteArray) (fu' : Int), hd'.length ≤ hd.length + L + 64 * (F - F') ∧ fu'.toNat = F' ∧ ∀ R, EvM rules ⟨rest, vals ++ vs, st + ((F - F' : Nat) : Int), hd', fu'⟩ R → EvM rules ⟨rest ++ o.reverse, vals, st, hd, fu⟩ R
def MErr (rules : List Rul) (o : List Opn) (L F : Nat) (e : Int) : Prop :=
 ∀ (rest : List Opn) (vals : List (List Cel)) (st fu : Int) (hd : List ByteArray), fu.toNat = F → 0 ≤ st → rest.length + vals.length + hd.length + st.toNat + 3 * L + 200 * F ≤ 1000000 →
  ∃ m, EvM rules ⟨rest ++ o.reverse, vals, st, hd, fu⟩ (e, m)
def Put7 (rules : List Rul) (H : ByteArray → List Cel) (c : Cel) : Prop := Okc c ∧ (0 < (H c.f0).length ↔ kindS c.f0 = 2) ∧ (kindS c.f0 = 2 → Val7 rules (H c.f0))
theorem put7_seg {rules : List Rul} {H : ByteArray → List Cel} {n : Nat} {l : List Cel} {o : List Opn} (h : Po H n l o) : (∀ c ∈ l, Put7 rules H c) → segN (putL H l) n = some [] ∧ ∀ c ∈ putL H l, Okc c ∧ kindS c.f0 ≠ 2 := by
 induction h with
 | nil => intro _; exact ⟨rfl, fun c hc => by cases hc⟩
 | @have_ n c l o hc h ih =>
  intro hp
  obtain ⟨i1, i2⟩ := ih fun x hx => hp x (List.mem_cons_of_mem _ hx)
  obtain ⟨q1, q2, q3⟩ := hp c (List.mem_cons_self ..)
  have hv := q3 (q2.1 hc)
  obtain ⟨z1, z2⟩ := gndS_iff.1 hv.gnd
  obtain ⟨w1, w2, w3⟩ := checkS_ok z1
  rw [putL_yes _ hc]
  refine ⟨?_, fun x hx => ?_⟩
  ·
   rw [Nat.add_comm, segN_add, segN_append _ w3]; exact i1
  ·
   rcases List.mem_append.1 hx with hx | hx
   ·
    exact ⟨w2 x hx, z2 x hx⟩
   ·
    exact i2 x hx
 | @make n c l1 l2 o1 o2 hc h1 h2 ih1 ih2 =>
  intro hp
  obtain ⟨i1, i2⟩ := ih1 fun x hx => hp x (by simp [hx])
  obtain ⟨j1, j2⟩ := ih2 fun x hx => hp x (by simp [hx])
  obtain ⟨q1, q2, q3⟩ := hp c (List.mem_cons_self ..)
  rw [putL_no _ hc, putL_append]
  refine ⟨?_, fun x hx => ?_⟩
  ·
   show segN (putL H l1 ++ putL H l2) (n + ar c) = some []
   rw [Nat.add_comm, segN_add, segN_append _ i1]; exact j1
  ·
   rcases List.mem_cons.1 hx with rfl | hx
   ·
    exact ⟨q1, fun hk => hc (q2.2 hk)⟩
   ·
    rcases List.mem_append.1 hx with hx | hx
    ·
     exact i2 x hx
    ·
     exact j2 x hx
theorem put7_len {rules : List Rul} {H : ByteArray → List Cel} : ∀ {l : List Cel}, (∀ c ∈ l, Put7 rules H c) → (putL H l).length ≤ 64 * l.length
 | [], _ => by simp [putL]
 | c :: l, h => by
  have T := put7_len fun x hx => h x (List.mem_cons_of_mem _ hx)
  obtain ⟨_, q2, q3⟩ := h c (List.mem_cons_self ..)
  by_cases hc : 0 < (H c.f0).length
  ·
   rw [putL_yes _ hc, List.length_append, List.length_cons]
   have := (q3 (q2.1 hc)).len
   omega
  ·
   rw [putL_no _ hc, List.length_cons, List.length_cons]; omega
theorem splitT_put {n : Nat} {v w : List Cel} (h : segN v 1 = some []) : splitT (n + 1) (v ++ w) = v :: splitT n w := by
 cases v with
 | nil => cases h
 | cons c l =>
  have h' : segN l (ar c) = some [] := by
   have h2 : segN l (0 + ar c) = some [] := h
   rwa [Nat.zero_add] at h2
  exact splitT_cons h'
theorem po_small {H : ByteArray → List Cel} {n : Nat} {l : List Cel} {o : List Opn} (h : Po H n l o) : n ≤ l.length := by
 induction h with
 | nil => exact Nat.le_refl _
 | have_ _ _ ih => simp; omega
 | make _ _ _ ih1 ih2 => simp; omega
theorem val7_flat {rules : List Rul} : ∀ {vs : List (List Cel)}, (∀ v ∈ vs, Val7 rules v) → segN vs.flatten vs.length = some [] ∧ Quiet rules vs.flatten ∧ ∀ c ∈ vs.flatten, Okc c ∧ kindS c.f0 ≠ 2
 | [], _ => ⟨rfl, quiet_nil rules, fun c hc => by cases hc⟩
 | v :: vs, h => by
  obtain ⟨h1, h2, h3⟩ := val7_flat fun w hw => h w (List.mem_cons_of_mem _ hw)
  have hv := h v (List.mem_cons_self ..)
  obtain ⟨z1, z2⟩ := gndS_iff.1 hv.gnd
  obtain ⟨w1, w2, w3⟩ := checkS_ok z1
  rw [List.flatten_cons, List.length_cons]
  refine ⟨?_, quiet_append w3 hv.quiet h2, fun x hx => ?_⟩
  ·
   rw [Nat.add_comm, segN_add, segN_append _ w3]; exact h1
  ·
   rcases List.mem_append.1 hx with hx | hx
   ·
    exact ⟨w2 x hx, z2 x hx⟩
   ·
    exact h3 x hx
end Go.Proofs.Ytdlkhpfgkghhmaa.P

-- ==== PL7x
/- Plain laws of chapter 7: the machine comes to what the definition comes to: the big step. -/
namespace Go.Proofs.Ytdlkhpfgkghhmaa.P
open Go.RowKit Go.Proofs.YtdlkhpfgkghhmaaW.PrintWords
def Both (rules : List Rul) (H : ByteArray → List Cel) (n : Nat) (l : List Cel) (o : List Opn) (F : Nat) : Prop :=
 (∃ (vs : List (List Cel)) (F' : Nat), F' ≤ F ∧ vs.length = n ∧ (∀ v ∈ vs, Val7 rules v) ∧ MOk rules o l.length F vs F' ∧ RefSeq rules F (splitT n (putL H l)) vs F') ∨
 (∃ e : Int, e ≠ 0 ∧ MErr rules o l.length F e ∧ RefErr rules F (splitT n (putL H l)) e)
def One7 (rules : List Rul) (c : Cel) (vs1 : List (List Cel)) (F1 : Nat) : Prop :=
 (∃ (v : List Cel) (F2 : Nat), F2 ≤ F1 ∧ Val7 rules v ∧
  (∀ (rest : List Opn) (vals : List (List Cel)) (st fu : Int) (hd : List ByteArray), fu.toNat = F1 → 0 ≤ st → rest.length + vals.length + hd.length + st.toNat + 200 * F1 ≤ 1000000 →
   ∃ (hd' : List ByteArray) (fu' : Int), hd'.length ≤ hd.length + 1 + 64 * (F1 - F2) ∧ fu'.toNat = F2 ∧ ∀ R, EvM rules ⟨rest, vals ++ [v], st + ((F1 - F2 : Nat) : Int), hd', fu'⟩ R → EvM rules ⟨rest ++ [⟨1, c, []⟩], vals ++ vs1, st, hd, fu⟩ R) ∧
  ∀ kids : List (List Cel), Ev (fun k => aumbryref07_Inner.l1 k rules (F1 : Int) kids (c :: vs1.flatten) (kids.length : Int) (kids.length : Int)) (v, (F2 : Int), 0)) ∨
 (∃ e : Int, e ≠ 0 ∧
  (∀ (rest : List Opn) (vals : List (List Cel)) (st fu : Int) (hd : List ByteArray), fu.toNat = F1 → 0 ≤ st → rest.length + vals.length + hd.length + st.toNat + 200 * F1 ≤ 1000000 → ∃ m, EvM rules ⟨rest ++ [⟨1, c, []⟩], vals ++ vs1, st, hd, fu⟩ (e, m)) ∧
  ∀ kids : List (List Cel), Ev (fun k => aumbryref07_Inner.l1 k rules (F1 : Int) kids (c :: vs1.flatten) (kids.length : Int) (kids.length : Int)) ([], 0, e))
theorem one7 {rules : List Rul} (hr : Rls rules) (hl : rules.length ≤ 1000) {c : Cel} {vs1 : List (List Cel)} {F1 : Nat} (hF : F1 ≤ 1000) (ho : Okc c) (hk : kindS c.f0 ≠ 2) (hlen : vs1.length = ar c) (hv : ∀ v ∈ vs1, Val7 rules v)
 (ihF : ∀ F0, F0 < F1 → ∀ {H : ByteArray → List Cel} {l : List Cel} {o : List Opn}, Po H 1 l o → (∀ d ∈ l, Put7 rules H d) → l.length ≤ 64 → (putL H l).length ≤ 1000 → Both rules H 1 l o F0) : One7 rules c vs1 F1 := by
 obtain ⟨f1, f2, f3⟩ := val7_flat hv
 rw [hlen] at f1
 have hargs : ∀ v ∈ vs1, v.length ≤ 64 := fun v h => (hv v h).len
 rcases Nat.lt_or_ge 64 (c :: vs1.flatten).length with hb | hb
 ·
  refine .inr ⟨6, by decide, fun rest vals st fu hd hfu hst hbd => ⟨_, evM_make ho hlen hargs (ev_make_big (m := ⟨rest, vals, st, hd, fu⟩) ho hlen hb) (fun h => absurd h (show ¬ (6 : Int) = 0 by decide)) (fun _ => rfl)⟩, fun kids => inner_big hb⟩
 ·
  have hseg : segN (c :: vs1.flatten) 1 = some [] := by
   show segN vs1.flatten (0 + ar c) = some []
   rw [Nat.zero_add]; exact f1
  have hoc : ∀ x ∈ c :: vs1.flatten, Okc x ∧ kindS x.f0 ≠ 2 := fun x hx => by
   rcases List.mem_cons.1 hx with rfl | hx
   ·
    exact ⟨ho, hk⟩
   ·
    exact f3 x hx
  have hcn : checkS (c :: vs1.flatten) = 0 := checkS_of hb (fun x hx => (hoc x hx).1) hseg
  have hgn : gndS (c :: vs1.flatten) = true := gndS_iff.2 ⟨hcn, fun x hx => (hoc x hx).2⟩
  cases hf : fitS rules (c :: vs1.flatten) with
  | none =>
   refine .inl ⟨c :: vs1.flatten, F1, Nat.le_refl _, ⟨hgn, quiet_node f1 f2 hf, hb⟩, fun rest vals st fu hd hfu hst hbd => ?_, fun kids => inner_none hr (by omega) hcn hf⟩
   obtain ⟨hd', h1, h2⟩ := ev_head1 hd c.f0 (by omega)
   refine ⟨hd', fu, by omega, hfu, fun R hR => ?_⟩
   rw [Nat.sub_self, show st + ((0 : Nat) : Int) = st by simp] at hR
   refine evM_make (r := (0, ⟨rest, vals ++ [c :: vs1.flatten], st, hd', fu⟩)) ho hlen hargs (ev_make_of (m := ⟨rest, vals, st, hd, fu⟩) ho hlen hb ?_) (fun _ => hR) (fun h => absurd rfl h)
   unfold nodeR
   refine Ev.bind (ev_fitsF hcn hr) ?_
   rw [hf]
   exact Ev.bind (f := fun k hd => if vals.length < 5864062014800 then some ((0 : Int), (⟨rest, vals ++ [c :: vs1.flatten], st, hd, fu⟩ : Mst)) else none) h1 (evIfp (by omega) (Ev.now _))
  | some x =>
   obtain ⟨r, o⟩ := x
   obtain ⟨hmem, q, hm⟩ := fitS_mem hf
   replace hm : M.mat r.f1 (c :: vs1.flatten) [] = some (o, q) := hm
   have hru := hr r hmem
   obtain ⟨b1, b2, b3⟩ := bind_ok (rules := rules) hru hgn rfl f2 hm
   cases F1 with
   | zero =>
    refine .inr ⟨14, by decide, fun rest vals st fu hd hfu hst hbd => ⟨⟨rest ++ [⟨1, c, []⟩], vals ++ vs1, st, hd, fu⟩, evM_make (r := (14, ⟨rest ++ [⟨1, c, []⟩], vals ++ vs1, st, hd, fu⟩)) ho hlen hargs (ev_make_of (m := ⟨rest, vals, st, hd, fu⟩) ho hlen hb ?_) (fun h => absurd h (show ¬ (14 : Int) = 0 by decide)) (fun _ => rfl)⟩, fun kids => inner_fuel hr (by omega) hcn hf⟩
    unfold nodeR
    refine Ev.bind (ev_fitsF hcn hr) ?_
    rw [hf]
    exact evIfp (show fu ≤ 0 by omega) (Ev.now _)
   | succ F0 =>
    obtain ⟨g1, g2, g3, g4, g5, g6, _, _⟩ := ruleS_ok hru
    obtain ⟨p1, p2, p3⟩ := checkS_ok g2
    have hput : ∀ d ∈ r.f2, Put7 rules (bindL o) d := fun d hd => ⟨p2 d hd, (b3 d hd).1, fun hk2 => ((b3 d hd).2 hk2).2.1⟩
    obtain ⟨o', hpo⟩ := po_of (H := bindL o) r.f2.length r.f2 1 (Nat.le_refl _) (fun d hd hp => by
     have := (p2 d hd).var ((b3 d hd).1.1 hp)
     unfold ar; rw [this]; rfl) p3
    have hpl := put7_len hput
    have hol := po_len hpo
    have mstep : ∀ (rest : List Opn) (vals : List (List Cel)) (st fu : Int) (hd : List ByteArray), fu.toNat = F0 + 1 → 0 ≤ st → rest.length + vals.length + hd.length + st.toNat + 200 * (F0 + 1) ≤ 1000000 →
     ∃ hd1, hd1.length ≤ hd.length + 1 ∧ ∀ R, EvM rules ⟨rest ++ o'.reverse, vals, st + 1, hd1, fu - 1⟩ R → EvM rules ⟨rest ++ [⟨1, c, []⟩], vals ++ vs1, st, hd, fu⟩ R := by
     intro rest vals st fu hd hfu hst hbd
     obtain ⟨hd1, h1, h2⟩ := ev_head1 hd c.f0 (by omega)
     refine ⟨hd1, h2, fun R hR => ?_⟩
     have hw : wrap64 (st + 1) = st + 1 := wrap_id (by omega) (by omega)
     refine evM_make (r := (0, ⟨rest ++ o'.reverse, vals, wrap64 (st + 1), hd1, fu - 1⟩)) ho hlen hargs (ev_make_of (m := ⟨rest, vals, st, hd, fu⟩) ho hlen hb ?_) (fun _ => by rw [hw]; exact hR) (fun h => absurd rfl h)
     unfold nodeR
     refine Ev.bind (ev_fitsF hcn hr) ?_
     rw [hf]
     refine evIfn (show ¬ fu ≤ 0 by omega) (evIfp ⟨by show fu ≤ _; omega, b1⟩ ?_)
     refine Ev.bind (f := fun k hd => (todoL (bindL o) r.f2 k 0 []).bind fun r => if rest.length + r.1.length < 2513169434900 then some ((0 : Int), (⟨rest ++ r.1.reverse, vals, wrap64 (st + 1), hd, fu - 1⟩ : Mst)) else none) h1 ?_
     exact Ev.bind (ev_todo g2 hpo) (evIfp (by show rest.length + o'.length < _; omega) (Ev.now _))
    have hsp : splitT 1 (putL (bindL o) r.f2) = [putL (bindL o) r.f2] := by
     have := splitT_put (n := 0) (w := []) (put7_seg hpo hput).1
     rwa [List.append_nil] at this
    rcases ihF F0 (by omega) hpo hput (by omega) (by omega) with ⟨vs, F2, e1, e2, e3, e4, e5⟩ | ⟨e, e1, e2, e3⟩
    ·
     rw [hsp] at e5
     obtain ⟨v, rfl⟩ : ∃ v, vs = [v] := by
      cases vs with
      | nil => cases e2
      | cons a u => cases u with
       | nil => exact ⟨a, rfl⟩
       | cons b w => simp at e2
     cases e5 with
     | cons a b k =>
     cases k
     refine .inl ⟨v, F2, by omega, e3 v (List.mem_singleton.2 rfl), fun rest vals st fu hd hfu hst hbd => ?_, fun kids => inner_step hr (by omega) hgn rfl f2 (by omega) hf a⟩
     obtain ⟨hd1, h2, S⟩ := mstep rest vals st fu hd hfu hst hbd
     obtain ⟨hd2, fu2, i1, i2, i3⟩ := e4 rest vals (st + 1) (fu - 1) hd1 (by omega) (by omega) (by omega)
     refine ⟨hd2, fu2, by omega, i2, fun R hR => S R (i3 R ?_)⟩
     rw [show st + 1 + ((F0 - F2 : Nat) : Int) = st + ((F0 + 1 - F2 : Nat) : Int) by omega]
     exact hR
    ·
     rw [hsp] at e3
     refine .inr ⟨e, e1, fun rest vals st fu hd hfu hst hbd => ?_, fun kids => ?_⟩
     ·
      obtain ⟨hd1, h2, S⟩ := mstep rest vals st fu hd hfu hst hbd
      obtain ⟨m, hm2⟩ := e2 rest vals (st + 1) (fu - 1) hd1 (by omega) (by omega) (by omega)
      exact ⟨m, S _ hm2⟩
     ·
      cases e3 with
      | here _ a => exact inner_step hr (by omega) hgn rfl f2 (by omega) hf a
      | later _ _ k => cases k
theorem eval7 {rules : List Rul} (hr : Rls rules) (hl : rules.length ≤ 1000) : ∀ (F : Nat), F ≤ 1000 → ∀ {H : ByteArray → List Cel} {n : Nat} {l : List Cel} {o : List Opn}, Po H n l o → (∀ c ∈ l, Put7 rules H c) → l.length ≤ 64 → (putL H l).length ≤ 1000 → Both rules H n l o F := by
 intro Fm
 induction Fm using Nat.strongRecOn with
 | _ Fm ihF =>
 intro hFm H n l o h
 suffices T : (∀ c ∈ l, Put7 rules H c) → l.length ≤ 64 → (putL H l).length ≤ 1000 → ∀ F, F ≤ Fm → Both rules H n l o F from fun a b c => T a b c Fm (Nat.le_refl _)
 induction h with
 | nil =>
  intro _ _ _ F hF
  refine .inl ⟨[], F, Nat.le_refl _, rfl, (fun v hv => by cases hv), (fun rest vals st fu hd hfu hst hbd => ⟨hd, fu, by omega, hfu, fun R hR => by simpa using hR⟩), .nil⟩
 | @have_ n c l o hc h ih =>
  intro hp hl1 hpl F hF
  obtain ⟨q1, q2, q3⟩ := hp c (List.mem_cons_self ..)
  have hv := q3 (q2.1 hc)
  have hvs := (checkS_ok (gndS_iff.1 hv.gnd).1).2.2
  simp only [List.length_cons] at hl1
  rw [putL_yes _ hc, List.length_append] at hpl
  have hsp : splitT (n + 1) (putL H (c :: l)) = H c.f0 :: splitT n (putL H l) := by rw [putL_yes _ hc]; exact splitT_put hvs
  have hin := inner_quiet hr (by omega) F _ (H c.f0) (Nat.le_refl _) hv
  unfold Both
  rw [hsp]
  rcases ih (fun x hx => hp x (List.mem_cons_of_mem _ hx)) (by omega) (by omega) F hF with ⟨vs, F', e1, e2, e3, e4, e5⟩ | ⟨e, e1, e2, e3⟩
  ·
   refine .inl ⟨H c.f0 :: vs, F', e1, by simp [e2], fun v hx => ?_, fun rest vals st fu hd hfu hst hbd => ?_, .cons hin hv.len e5⟩
   ·
    rcases List.mem_cons.1 hx with rfl | hx
    ·
     exact hv
    ·
     exact e3 v hx
   ·
    simp only [List.length_cons] at hbd
    obtain ⟨hd', fu', i1, i2, i3⟩ := e4 rest (vals ++ [H c.f0]) st fu hd hfu hst (by simp; omega)
    refine ⟨hd', fu', by simp; omega, i2, fun R hR => ?_⟩
    rw [List.reverse_cons, ← List.append_assoc]
    refine evM_have (by omega) (i3 R ?_)
    rw [List.append_assoc]
    exact hR
  ·
   refine .inr ⟨e, e1, fun rest vals st fu hd hfu hst hbd => ?_, .later hin hv.len e3⟩
   simp only [List.length_cons] at hbd
   obtain ⟨m, hm⟩ := e2 rest (vals ++ [H c.f0]) st fu hd hfu hst (by simp; omega)
   refine ⟨m, ?_⟩
   rw [List.reverse_cons, ← List.append_assoc]
   exact evM_have (by omega) hm
 | @make n c l1 l2 o1 o2 hc h1 h2 ih1 ih2 =>
  intro hp hl1 hpl F hF
  obtain ⟨q1, q2, q3⟩ := hp c (List.mem_cons_self ..)
  have hk : kindS c.f0 ≠ 2 := fun e => hc (q2.2 e)
  have hp1 : ∀ x ∈ l1, Put7 rules H x := fun x hx => hp x (by simp [hx])
  have hp2 : ∀ x ∈ l2, Put7 rules H x := fun x hx => hp x (by simp [hx])
  obtain ⟨s1, s2⟩ := put7_seg h1 hp1
  simp only [List.length_cons, List.length_append] at hl1
  rw [putL_no _ hc, putL_append, List.length_cons, List.length_append] at hpl
  have hsp : splitT (n + 1) (putL H (c :: (l1 ++ l2))) = (c :: putL H l1) :: splitT n (putL H l2) := by rw [putL_no _ hc, putL_append]; exact splitT_cons s1
  have hkids := splitT_spec (ar c) _ s1
  have har : ar c ≤ 4 := by have := q1.hi; unfold ar; omega
  have hok1 : ∀ x ∈ c :: putL H l1, Okc x := fun x hx => by
   rcases List.mem_cons.1 hx with rfl | hx
   ·
    exact q1
   ·
    exact (s2 x hx).1
  have hlo1 := po_len h1
  have hlo2 := po_len h2
  have hn1 := po_small h1
  have hrev : ∀ rest : List Opn, rest ++ (o1 ++ ⟨1, c, []⟩ :: o2).reverse = rest ++ o2.reverse ++ [⟨1, c, []⟩] ++ o1.reverse := fun rest => by simp
  unfold Both
  rw [hsp]
  rcases ih1 hp1 (by omega) (by omega) F hF with ⟨vs1, F1, a1, a2, a3, a4, a5⟩ | ⟨e, a1, a2, a3⟩
  ·
   have inn : ∀ {R : List Cel × Int × Int}, (∀ kids : List (List Cel), Ev (fun k => aumbryref07_Inner.l1 k rules (F1 : Int) kids (c :: vs1.flatten) (kids.length : Int) (kids.length : Int)) R) → Ev (fun k => aumbryref07_Inner.f k rules (c :: putL H l1) (F : Int)) R := fun hR =>
    inner_f (inner_l0 (by simp; omega) hok1 s1 (inner_loop a5 (splitT (ar c) (putL H l1)) 0 [c] (by omega) (by omega) rfl (by simp; omega) _ (hR _)))
   rcases one7 (F1 := F1) hr hl (by omega) q1 hk a2 a3 (fun F0 hF0 => fun a b c d => ihF F0 (by omega) (by omega) a b c d) with ⟨v, F2, b1, b2, b3, b4⟩ | ⟨e, b1, b2, b3⟩
   ·
    rcases ih2 hp2 (by omega) (by omega) F2 (by omega) with ⟨vs2, F3, c1, c2, c3, c4, c5⟩ | ⟨e, c1, c2, c3⟩
    ·
     refine .inl ⟨v :: vs2, F3, by omega, by simp [c2], fun x hx => ?_, fun rest vals st fu hd hfu hst hbd => ?_, .cons (inn b4) b2.len c5⟩
     ·
      rcases List.mem_cons.1 hx with rfl | hx
      ·
       exact b2
      ·
       exact c3 x hx
     ·
      simp only [List.length_cons, List.length_append] at hbd
      obtain ⟨hd1, fu1, i1, i2, i3⟩ := a4 (rest ++ o2.reverse ++ [⟨1, c, []⟩]) vals st fu hd hfu hst (by simp; omega)
      obtain ⟨hd2, fu2, j1, j2, j3⟩ := b3 (rest ++ o2.reverse) vals (st + ((F - F1 : Nat) : Int)) fu1 hd1 i2 (by omega) (by simp; omega)
      obtain ⟨hd3, fu3, k1, k2, k3⟩ := c4 rest (vals ++ [v]) (st + ((F - F1 : Nat) : Int) + ((F1 - F2 : Nat) : Int)) fu2 hd2 j2 (by omega) (by simp; omega)
      refine ⟨hd3, fu3, by simp; omega, k2, fun R hR => ?_⟩
      rw [hrev]
      refine i3 R (j3 R (k3 R ?_))
      rw [List.append_assoc, show st + ((F - F1 : Nat) : Int) + ((F1 - F2 : Nat) : Int) + ((F2 - F3 : Nat) : Int) = st + ((F - F3 : Nat) : Int) by omega]
      exact hR
    ·
     refine .inr ⟨e, c1, fun rest vals st fu hd hfu hst hbd => ?_, .later (inn b4) b2.len c3⟩
     simp only [List.length_cons, List.length_append] at hbd
     obtain ⟨hd1, fu1, i1, i2, i3⟩ := a4 (rest ++ o2.reverse ++ [⟨1, c, []⟩]) vals st fu hd hfu hst (by simp; omega)
     obtain ⟨hd2, fu2, j1, j2, j3⟩ := b3 (rest ++ o2.reverse) vals (st + ((F - F1 : Nat) : Int)) fu1 hd1 i2 (by omega) (by simp; omega)
     obtain ⟨m, hm⟩ := c2 rest (vals ++ [v]) (st + ((F - F1 : Nat) : Int) + ((F1 - F2 : Nat) : Int)) fu2 hd2 j2 (by omega) (by simp; omega)
     refine ⟨m, ?_⟩
     rw [hrev]
     exact i3 _ (j3 _ hm)
   ·
    refine .inr ⟨e, b1, fun rest vals st fu hd hfu hst hbd => ?_, .here b1 (inn b3)⟩
    simp only [List.length_cons, List.length_append] at hbd
    obtain ⟨hd1, fu1, i1, i2, i3⟩ := a4 (rest ++ o2.reverse ++ [⟨1, c, []⟩]) vals st fu hd hfu hst (by simp; omega)
    obtain ⟨m, hm⟩ := b2 (rest ++ o2.reverse) vals (st + ((F - F1 : Nat) : Int)) fu1 hd1 i2 (by omega) (by simp; omega)
    refine ⟨m, ?_⟩
    rw [hrev]
    exact i3 _ hm
  ·
   obtain ⟨_, hI⟩ := inner_loop_err a3 (splitT (ar c) (putL H l1)) 0 [c] (by omega) (by omega) rfl (by simp; omega)
   refine .inr ⟨e, a1, fun rest vals st fu hd hfu hst hbd => ?_, .here a1 (inner_f (inner_l0 (by simp; omega) hok1 s1 hI))⟩
   simp only [List.length_cons, List.length_append] at hbd
   obtain ⟨m, hm⟩ := a2 (rest ++ o2.reverse ++ [⟨1, c, []⟩]) vals st fu hd hfu hst (by simp; omega)
   refine ⟨m, ?_⟩
   rw [hrev]
   exact hm
end Go.Proofs.Ytdlkhpfgkghhmaa.P

-- ==== PL7c
/- Plain laws of chapter 7: may a state be: what the program answers. -/
namespace Go.Proofs.Ytdlkhpfgkghhmaa.P
open Go.RowKit Go.Proofs.YtdlkhpfgkghhmaaW.PrintWords
/-! ### may a state be -/
def mayS (o : Opn) : Bool := if o.f0 = 1 then (o.f2.isEmpty && (kindS o.f1.f0 == 1) && decide (0 ≤ o.f1.f1) && decide (o.f1.f1 ≤ 4)) else if o.f0 = 2 then (o.f1.f0.toList == ([] : List UInt8) && (o.f1.f1 == 0) && gndS o.f2) else false
theorem ev_may (o : Opn) : Ev (fun k => rewrite_may.f k o.f0 o.f1.f0 o.f1.f1 o.f2) (mayS o) := by
 unfold rewrite_may.f mayS
 by_cases h1 : o.f0 = 1
 ·
  rw [if_pos h1]
  refine evIfp h1 ?_
  by_cases h2 : (o.f2.length : Int) = 0
  ·
   refine evIfp h2 (Ev.bind (ev_kind o.f1.f0) ?_)
   have h2' : o.f2.isEmpty = true := by rw [← len_beq_isEmpty, h2]; rfl
   by_cases h3 : kindS o.f1.f0 = 1
   ·
    refine evIfp h3 ?_
    by_cases h4 : o.f1.f1 ≥ 0
    ·
     refine evIfp h4 ?_
     rw [h2', h3, decide_eq_true h4]
     exact Ev.now _
    ·
     refine evIfn h4 ?_
     rw [decide_eq_false h4]
     simp only [Bool.and_false, Bool.false_and]
     exact Ev.now _
   ·
    refine evIfn h3 ?_
    rw [beq_eq_false_iff_ne.mpr h3]
    simp only [Bool.and_false, Bool.false_and]
    exact Ev.now _
  ·
   refine evIfn h2 ?_
   have h2' : o.f2.isEmpty = false := by rw [← len_beq_isEmpty]; exact beq_eq_false_iff_ne.mpr h2
   rw [h2']
   exact Ev.now _
 ·
  rw [if_neg h1]
  refine evIfn h1 ?_
  by_cases h2 : o.f0 = 2
  ·
   rw [if_pos h2]
   refine evIfp h2 ?_
   by_cases h3 : (o.f1.f0.toList == ([] : List UInt8) && (o.f1.f1 == 0)) = true
   ·
    refine evIfp h3 (Ev.bind (ev_ground o.f2) ?_)
    rw [h3, Bool.true_and]
    exact Ev.now _
   ·
    refine evIfn h3 ?_
    rw [Bool.eq_false_iff.mpr h3]
    exact Ev.now _
  ·
   rw [if_neg h2]
   exact evIfn h2 (Ev.now _)
theorem ev_mayL : ∀ (ops : List Opn), Ev (fun k => mayL k ops) (ops.map mayS)
 | [] => Ev.now _
 | o :: u => Ev.bind (f := fun k b => (mayL k u).bind fun l => some (b :: l)) (ev_may o) (Ev.bind (f := fun k l => some (mayS o :: l)) (ev_mayL u) (Ev.now _))
def cntS : List Opn → Int → Option Int
 | [], n => some n
 | o :: u, n => if (mayS o && decide (o.f1.f1 ≤ n)) = true then cntS u (n + 1 - o.f1.f1) else none
theorem mayS_ar {o : Opn} (h : mayS o = true) : 0 ≤ o.f1.f1 ∧ o.f1.f1 ≤ 4 := by
 unfold mayS at h
 by_cases h1 : o.f0 = 1
 ·
  rw [if_pos h1] at h
  simp only [Bool.and_eq_true, decide_eq_true_eq] at h
  exact ⟨h.1.2, h.2⟩
 ·
  rw [if_neg h1] at h
  by_cases h2 : o.f0 = 2
  ·
   rw [if_pos h2] at h
   simp only [Bool.and_eq_true, beq_iff_eq] at h
   omega
  ·
   rw [if_neg h2] at h; cases h
theorem chkB_cnt (ops : List Opn) (hl : ops.length ≤ 2513169434915) : ∀ (xs : List Nat) (n : Int), (∀ x ∈ xs, x < ops.length) → 0 ≤ n → n + xs.length ≤ 100000000000000 →
 chkB ops (fun x => (ops.map mayS).getD x false) xs n = cntS (xs.map fun x : Nat => rd_T70 ops (x : Int)) n
 | [], n, _, _, _ => rfl
 | x :: u, n, hx, h0, hn => by
  have hxl := hx x (List.mem_cons_self ..)
  have h1 : (ops.map mayS).getD x false = mayS (rd_T70 ops (x : Int)) := by
   unfold rd_T70
   simp [List.getD_eq_getElem?_getD, hxl]
  simp only [List.length_cons] at hn
  simp only [chkB, List.map_cons, cntS, h1]
  have ea : arOf ops x = (rd_T70 ops (x : Int)).f1.f1 := rfl
  by_cases hm : mayS (rd_T70 ops (x : Int)) = true
  ·
   have ha := mayS_ar hm
   rw [hm, if_pos rfl, Bool.true_and]
   by_cases hg : (rd_T70 ops (x : Int)).f1.f1 > n
   ·
    rw [if_pos (show arOf ops x > n from hg), if_neg (by simp; omega)]
   ·
    rw [if_neg (show ¬ arOf ops x > n from hg), if_pos (by simp; omega), ea, wrap_id (i := 1 - _) (by omega) (by omega), wrap_id (by omega) (by omega)]
    rw [show n + (1 - (rd_T70 ops (x : Int)).f1.f1) = n + 1 - (rd_T70 ops (x : Int)).f1.f1 by omega]
    exact chkB_cnt ops hl u _ (fun y hy => hx y (List.mem_cons_of_mem _ hy)) (by omega) (by omega)
  ·
   rw [Bool.eq_false_iff.mpr hm, Bool.false_and]
   rw [if_neg (by decide), if_neg (by decide)]
theorem range_rd (ops : List Opn) : ((List.range ops.length).reverse.map fun x : Nat => rd_T70 ops (x : Int)) = ops.reverse := by
 rw [List.map_reverse]
 congr 1
 apply List.ext_getElem
 ·
  simp
 ·
  intro i h1 h2
  simp [rd_T70, h2]
def hdsS : Option ByteArray → List ByteArray → Bool
 | _, [] => true
 | p, h :: u => (kindS h == 1) && (okH p h && hdsS (some h) u)
def rightS (ops : List Opn) (vals : List (List Cel)) (st : Int) (hd : List ByteArray) : Bool := match cntS ops.reverse (vals.length : Int) with
 | none => false
 | some m => vals.all gndS && (hdsS none hd && ((m == 1) && decide (st ≥ 0)))
theorem ev_idxF : ∀ (vals : List (List Cel)) (i : Int), 0 ≤ i → ∃ j, Ev (fun k => idxF k vals i) j ∧ (vals.all gndS = true → j = -1) ∧ (¬ vals.all gndS = true → 0 ≤ j)
 | [], i, h0 => ⟨-1, Ev.now _, fun _ => rfl, fun h => absurd rfl h⟩
 | v :: u, i, h0 => by
  by_cases h : gndS v = true
  ·
   obtain ⟨j, h1, h2, h3⟩ := ev_idxF u (i + 1) (by omega)
   refine ⟨j, Ev.bind (f := fun k b => if b = true then idxF k u (i + 1) else some i) (ev_ground v) (evIfp h h1), ?_, ?_⟩
   ·
    simpa [h] using h2
   ·
    simpa [h] using h3
  ·
   refine ⟨i, Ev.bind (f := fun k b => if b = true then idxF k u (i + 1) else some i) (ev_ground v) (evIfn h (Ev.now _)), ?_, fun _ => h0⟩
   intro e
   simp only [List.all_cons, Bool.and_eq_true] at e
   exact absurd e.1 h
theorem ev_hdsF : ∀ (hd : List ByteArray) (p : Option ByteArray), Ev (fun k => hdsF k p hd) (if hdsS p hd = true then 0 else 3)
 | [], p => by rw [if_pos (by cases p <;> rfl)]; cases p <;> exact Ev.now _
 | h :: u, p => by
  refine Ev.congr (f := fun k => (name_Kind.f k h).bind fun c => if c = 1 then (if okH p h = true then hdsF k (some h) u else some 3) else some 3) (fun k => by cases p <;> rfl) ?_
  have e : hdsS p (h :: u) = ((kindS h == 1) && (okH p h && hdsS (some h) u)) := by cases p <;> rfl
  rw [e]
  refine Ev.bind (ev_kind h) ?_
  by_cases h1 : kindS h = 1
  ·
   refine evIfp h1 ?_
   rw [h1]
   by_cases h2 : okH p h = true
   ·
    refine evIfp h2 ?_
    rw [h2]
    exact ev_hdsF u (some h)
   ·
    refine evIfn h2 ?_
    rw [Bool.eq_false_iff.mpr h2]
    exact Ev.now _
  ·
   refine evIfn h1 ?_
   rw [beq_eq_false_iff_ne.mpr h1]
   exact Ev.now _
theorem ev_chk (ops : List Opn) (vals : List (List Cel)) (st : Int) (hd : List ByteArray) (hl : ops.length ≤ 2513169434915) (hv : vals.length ≤ 5864062014804) : Ev (fun k => chkF k ops vals st hd) (if rightS ops vals st hd = true then 0 else 3) := by
 unfold chkF
 refine Ev.bind (ev_mayL ops) ?_
 rw [chkB_cnt ops hl _ _ (fun x hx => by simpa using hx) (by omega) (by simp; omega), range_rd]
 unfold rightS
 cases cntS ops.reverse (vals.length : Int) with
 | none => exact Ev.now _
 | some m =>
  show Ev (fun k => if m = 1 then (if st < 0 then some 3 else (idxF k vals 0).bind fun i => if 0 ≤ i then some 3 else hdsF k none hd) else some 3) (if (vals.all gndS && (hdsS none hd && ((m == 1) && decide (st ≥ 0)))) = true then 0 else 3)
  by_cases h1 : m = 1
  ·
   refine evIfp h1 ?_
   by_cases h2 : st < 0
   ·
    refine evIfp h2 ?_
    rw [decide_eq_false (show ¬ st ≥ 0 by omega)]
    simp only [Bool.and_false]
    exact Ev.now _
   ·
    refine evIfn h2 ?_
    obtain ⟨j, g1, g2, g3⟩ := ev_idxF vals 0 (by omega)
    refine Ev.bind g1 ?_
    rw [decide_eq_true (show st ≥ 0 by omega), h1]
    by_cases h3 : vals.all gndS = true
    ·
     rw [g2 h3, h3]
     refine evIfn (by omega) ?_
     have := ev_hdsF hd none
     simpa using this
    ·
     refine evIfp (g3 h3) ?_
     rw [Bool.eq_false_iff.mpr h3]
     exact Ev.now _
  ·
   refine evIfn h1 ?_
   rw [beq_eq_false_iff_ne.mpr h1]
   simp only [Bool.and_false, Bool.false_and]
   exact Ev.now _
end Go.Proofs.Ytdlkhpfgkghhmaa.P
