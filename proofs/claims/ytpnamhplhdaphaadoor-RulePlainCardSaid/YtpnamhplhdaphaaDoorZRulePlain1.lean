/- RulePlain: the law answers true at every input that the given row speaks of. Conditions: those of the given row, none besides. (Part 2 of 5; written by programs of this session, which drive the kit's print, and by hand.) -/
import Derived.Lib.Builder
import Derived.Lib.OthersKept
import Derived.Lib.BufferKept
import Derived.Lib.UnsafeStr
import Derived.Lib.AppendStr
import Derived.Lib.Walk
import Derived.Lib.Slices
import Derived.Lib.Strings
import Derived.Laws.Externs
import Derived.RegionTactic
import Derived.ChangeAlike
import Derived.Deep.RegionHeld3
import Derived.Deep.DeepCutAuto
import Derived.KernelRfl
import Derived.Maps.OwnSet
import Derived.Maps.OwnOps
import Derived.Test.YtpnamhplhdaphaaDoorZRulePlain0
set_option maxHeartbeats 8000000
set_option maxRecDepth 100000
-- ==== PF15
namespace Go.Proofs.YtpnamhplhdaphaaDoor.P
open Go.RowKit Go.Proofs.YtpnamhplhdaphaaDoorW.PrintWords Go.Proofs.YtpnamhplhdaphaaDoorW.PrintLast Go.Proofs.YtpnamhplhdaphaaDoorW.PrintMore
attribute [local go_sem] max2_int min2_int max_two min_two max_three min_three max_four min_four   -- for this text's walks alone
set_option linter.unusedVariables false
set_option linter.unusedSimpArgs false

/-! ### rule_Parse: function 15 -/
def rule_Parse.f (k : Nat) (a0 : ByteArray) (a1 : ByteArray) : Option (Int × (List (S33)) × (List (S33)) × Int) := (term_Parse.f k a0).bind fun bt102 => (if bt102.2.2 = 0 then ((term_Parse.f k a1).bind fun bt107 => (if bt107.2.2 = 0 then ((rule_Check.f k 0 bt102.1 bt107.1).bind fun t113 => (if t113 = 0 then (some (0, bt102.1, bt107.1, 0)) else (some (0, ([] : List (S33)), ([] : List (S33)), t113)))) else (some (0, ([] : List (S33)), ([] : List (S33)), bt107.2.2)))) else (some (0, ([] : List (S33)), ([] : List (S33)), bt102.2.2)))
theorem rule_Parse.mono : ∀ a0 a1 k, LeO (rule_Parse.f k a0 a1) (rule_Parse.f (k + 1) a0 a1) := by
 intro a0 a1 k
 unfold rule_Parse.f
 repeat' first
  | (with_reducible exact rule_Check.mono _ _ _ _)
  | (with_reducible exact term_Parse.mono _ _)
  | (with_reducible exact LeO.refl _)
  | (with_reducible exact LeO.none _)
  | (with_reducible refine LeO.ite ?_ ?_)
  | (with_reducible refine LeO.bind ?_ (fun _ => ?_))
theorem rule_Parse.calls (k : Nat) (a0 : ByteArray) (a1 : ByteArray) (r1 : Int) (r2 : List (S33)) (r3 : List (S33)) (r4 : Int) (w : World) (h : rule_Parse.f k a0 a1 = some (r1, r2, r3, r4)) :
 Calls Tryd.prog 15 #[.string a0, .string a1] w fun e w' => ∃ v1_ v2_ : Value, e = .returned (.tuple #[.agg #[.int .i64 r1, v1_, v2_], .int .i64 r4]) ∧ Kd.R k33 33 w' w.heap.size (fun k_ => some k_ ≠ (v2_ : Value).ownBlock) v1_ r2 ∧ Kd.R k33 33 w' w.heap.size (fun k_ => some k_ ≠ (v1_ : Value).ownBlock) v2_ r3 ∧ Below w.heap.size w w' := by
 have hu25 := Tryd.underlying25
 have HB := zM (Below.refl w.heap.size w)
 have H : ((term_Parse.f k a0).bind fun bt102 => (if bt102.2.2 = 0 then ((term_Parse.f k a1).bind fun bt107 => (if bt107.2.2 = 0 then ((rule_Check.f k 0 bt102.1 bt107.1).bind fun t113 => (if t113 = 0 then (some (0, bt102.1, bt107.1, 0)) else (some (0, ([] : List (S33)), ([] : List (S33)), t113)))) else (some (0, ([] : List (S33)), ([] : List (S33)), bt107.2.2)))) else (some (0, ([] : List (S33)), ([] : List (S33)), bt102.2.2)))) = some (r1, r2, r3, r4) := h
 clear h
 replace H := zB H
 obtain ⟨⟨t102, t103, t104⟩, A30, H⟩ := H
 try dsimp only at H
 have A3 := zM A30
 clear A30
 by_cases c4 : t104 = 0
 ·
  rw [if_pos c4] at H
  have c4b0 : (t104 == 0) = true := zG c4
  have c4b1 : (t104 != 0) = false := zH c4
  clear c4
  replace H := zB H
  obtain ⟨⟨t107, t108, t109⟩, A50, H⟩ := H
  try dsimp only at H
  have A5 := zM A50
  clear A50
  by_cases c6 : t109 = 0
  ·
   rw [if_pos c6] at H
   have c6b0 : (t109 == 0) = true := zG c6
   have c6b1 : (t109 != 0) = false := zH c6
   clear c6
   replace H := zB H
   obtain ⟨t113, A70, H⟩ := H
   try dsimp only at H
   have A7 := zM A70
   clear A70
   by_cases c8 : t113 = 0
   ·
    rw [if_pos c8] at H
    have c8b0 : (t113 == 0) = true := zG c8
    have c8b1 : (t113 != 0) = false := zH c8
    clear c8
    simp only [Option.some.injEq, Prod.mk.injEq] at H
    obtain ⟨rfl, rfl, rfl, rfl⟩ := H
    go_enter Tryd.func15, Tryd.ntmps15
    go_wp2_with (first | ((with_reducible refine gate_dst (N := 4) rfl ?_); refine box_event ?hg (N := 4) ?hd (cs := #[.int .i64 0, .slice none 0 0, .slice none 0 0]) (t := 25) ?hr ?_; (case hd => rfl); (case hg => rfl); (case hr => first | (go_simp; done) | (go_simp; rfl)); intro gb101 hg w9 hbox hb; have BK101 := zM (hbox); have GW101 := zM (zh hg : w.heap.size ≤ gb101); have GE101 := zM (zh hg : w.heap.size ≤ gb101); replace HB := zM (below_step zb hb); clear hb hbox hg) | ((with_reducible refine gate_callee (f := 41) rfl ?_); refine goesL_ (some 15) rfl rfl Tryd.func41 (by kernel_rfl) rfl #[.string a0] rfl zl ?_; (with_reducible refine (term_Parse.calls k a0 t102 t103 t104 _ A3.out).mono ?_); rintro e w10 ⟨v105, rfl, ho0, hb⟩; refine ⟨_, rfl, ?_⟩; have HO106 := zM (Kd.R_lower ho0 (below_size zb)); replace BK101 := zM (blk_below (zk BK101.out) hb); replace HB := zM (below_step zb hb); (try clear hb); (try clear ho0)) | ((with_reducible refine gate_callee (f := 41) rfl ?_); refine goesL_ (some 25) rfl rfl Tryd.func41 (by kernel_rfl) rfl #[.string a1] rfl zl ?_; (with_reducible refine (term_Parse.calls k a1 t107 t108 t109 _ A5.out).mono ?_); rintro e w11 ⟨v110, rfl, ho0, hb⟩; refine ⟨_, rfl, ?_⟩; have HO111 := zM (Kd.R_lower (Kd.R_new' ho0 (Kd.R_lt (zr HO106.out))) (below_size zb)); replace HO106 := zM (Kd.R_elder' (zr HO106.out) (Kd.R_base ho0) hb); replace BK101 := zM (blk_below (zk BK101.out) hb); replace HB := zM (below_step zb hb); (try clear hb); (try clear ho0); obtain ⟨Ao12, co12, eo12⟩ := Kd.R_slice HO111.out; subst eo12; obtain ⟨Ao13, co13, eo13⟩ := Kd.R_slice HO106.out; subst eo13) | ((with_reducible refine gate_dst (N := 11) rfl ?_); refine box_event ?hg (N := 11) ?hd (cs := #[.int .i64 0, .slice none 0 0, .slice none 0 0]) (t := 25) ?hr ?_; (case hd => rfl); (case hg => rfl); (case hr => first | (go_simp; done) | (go_simp; rfl)); intro gb112 hg w14 hbox hb; replace HO106 := zM (Kd.R_below (zr HO106.out) hb); replace HO111 := zM (Kd.R_below (zr HO111.out) hb); have BK112 := zM (hbox); have GW112 := zM (zh hg : w.heap.size ≤ gb112); have GE112 := zM (zh hg : w.heap.size ≤ gb112); replace HB := zM (below_step zb hb); have NB101_112 := zM ((by rw [hg]; exact Nat.ne_of_lt (blk_lt (zk BK101.out)) : gb101 ≠ gb112)); have NB112_101 := zM ((by rw [hg]; exact Nat.ne_of_gt (blk_lt (zk BK101.out)) : gb112 ≠ gb101)); replace BK101 := zM (blk_below (zk BK101.out) hb); clear hb hbox hg; have hnb15 := NB112_101.out; have hnc15 := NB101_112.out; have hcz16_0 : w14.cell? ⟨gb112, 0, none⟩ = some (.int .i64 0) := (zX BK112.out 0).trans rfl; have hcz16_1 : w14.cell? ⟨gb112, 1, none⟩ = some (.slice none 0 0) := (zX BK112.out 1).trans rfl; have hcz16_2 : w14.cell? ⟨gb112, 2, none⟩ = some (.slice none 0 0) := (zX BK112.out 2).trans rfl; have hfz16_0 := zY BK112.out 0; have hfz16_1 := zY BK112.out 1; have hfz16_2 := zY BK112.out 2) | ((with_reducible refine gate_callee (f := 11) rfl ?_); refine goesL_ (some 37) rfl rfl Tryd.func11 (by kernel_rfl) rfl #[.agg #[.int .i64 0, .slice Ao13 t102.length co13, .slice Ao12 t107.length co12]] rfl zl ?_; (with_reducible refine (rule_Check.calls k 0 _ _ t102 _ _ t107 t113 _ ?side1 ?side2 ?side3 ?side4 A7.out).mono ?_); (case side1 => refine (Kd.R_reads' (e := 33) (base := w.heap.size) (ok := fun k_ => (True ∧ some k_ ≠ (.slice Ao12 t107.length co12 : Value).ownBlock)) (n := t102.length) (c := co13) ?_).2.2; exact (by (with_reducible repeat (first | apply Kd.R_alloc | apply Kd.R_drewN | apply Kd.R_drew)); exact (Kd.R_mono (Kd.R_far (p := ⟨gb112, 2, none⟩) (Kd.R_far (p := ⟨gb112, 1, none⟩) (Kd.R_far (p := ⟨gb112, 0, none⟩) (Kd.R_types HO106.out BK112.out (by decide)) (fun _ hk => hk.2) (.int .i64 0)) (fun _ hk => hk.2) (.slice Ao13 t102.length co13)) (fun _ hk => hk.2) (.slice Ao12 t107.length co12)) (fun _ h_ => h_.1)))); (case side2 => exact (Kd.R_reads' HO106.out).2.1); (case side3 => refine (Kd.R_reads' (e := 33) (base := w.heap.size) (ok := fun k_ => (True ∧ some k_ ≠ (.slice Ao13 t102.length co13 : Value).ownBlock)) (n := t107.length) (c := co12) ?_).2.2; exact (by (with_reducible repeat (first | apply Kd.R_alloc | apply Kd.R_drewN | apply Kd.R_drew)); exact (Kd.R_mono (Kd.R_far (p := ⟨gb112, 2, none⟩) (Kd.R_far (p := ⟨gb112, 1, none⟩) (Kd.R_far (p := ⟨gb112, 0, none⟩) (Kd.R_types HO111.out BK112.out (by decide)) (fun _ hk => hk.2) (.int .i64 0)) (fun _ hk => hk.2) (.slice Ao13 t102.length co13)) (fun _ hk => hk.2) (.slice Ao12 t107.length co12)) (fun _ h_ => h_.1)))); (case side4 => exact (Kd.R_reads' HO111.out).2.1); rintro e w17 ⟨rfl, hb⟩; refine ⟨_, rfl, ?_⟩; replace HO106 := zM (Kd.R_below (by (with_reducible repeat (first | apply Kd.R_alloc | apply Kd.R_drewN | apply Kd.R_drew)); exact (Kd.R_mono (Kd.R_far (p := ⟨gb112, 2, none⟩) (Kd.R_far (p := ⟨gb112, 1, none⟩) (Kd.R_far (p := ⟨gb112, 0, none⟩) (Kd.R_types HO106.out BK112.out (by decide)) (fun _ hk => hk.2) (.int .i64 0)) (fun _ hk => hk.2) (.slice Ao13 t102.length co13)) (fun _ hk => hk.2) (.slice Ao12 t107.length co12)) (fun _ h_ => h_.1))) hb); replace HO111 := zM (Kd.R_below (by (with_reducible repeat (first | apply Kd.R_alloc | apply Kd.R_drewN | apply Kd.R_drew)); exact (Kd.R_mono (Kd.R_far (p := ⟨gb112, 2, none⟩) (Kd.R_far (p := ⟨gb112, 1, none⟩) (Kd.R_far (p := ⟨gb112, 0, none⟩) (Kd.R_types HO111.out BK112.out (by decide)) (fun _ hk => hk.2) (.int .i64 0)) (fun _ hk => hk.2) (.slice Ao13 t102.length co13)) (fun _ hk => hk.2) (.slice Ao12 t107.length co12)) (fun _ h_ => h_.1))) hb); replace BK101 := zM (blk_below (g := gb101) (o := .cells #[.int .i64 0, .slice none 0 0, .slice none 0 0] 25 (0, 0)) (by refine zk ?_; refine blk_far ?_ NB101_112.out _; refine zk ?_; refine blk_far ?_ NB101_112.out _; refine zk ?_; refine blk_far ?_ NB101_112.out _; refine zk ?_; exact BK101.out) hb); replace BK112 := zM (blk_below (g := gb112) (o := .cells #[.int .i64 0, .slice Ao13 t102.length co13, .slice Ao12 t107.length co12] 25 (0, 0)) (by refine zk ?_; refine blk_put (cs := #[.int .i64 0, .slice Ao13 t102.length co13, .slice none 0 0]) ?_ 2 _ rfl; refine zk ?_; refine blk_put (cs := #[.int .i64 0, .slice none 0 0, .slice none 0 0]) ?_ 1 _ rfl; refine zk ?_; refine blk_put (cs := #[.int .i64 0, .slice none 0 0, .slice none 0 0]) ?_ 0 _ rfl; refine zk ?_; exact BK112.out) hb); replace HB := zM (below_step zb hb); (try clear hb); have hcz18_0 : w17.cell? ⟨gb112, 0, none⟩ = some (.int .i64 0) := (zX BK112.out 0).trans rfl; have hcz18_1 : w17.cell? ⟨gb112, 1, none⟩ = some (.slice Ao13 t102.length co13) := (zX BK112.out 1).trans rfl; have hcz18_2 : w17.cell? ⟨gb112, 2, none⟩ = some (.slice Ao12 t107.length co12) := (zX BK112.out 2).trans rfl; have hfz18_0 := zY BK112.out 0; have hfz18_1 := zY BK112.out 1; have hfz18_2 := zY BK112.out 2; have hcz19_0 : w17.cell? ⟨gb101, 0, none⟩ = some (.int .i64 0) := (zX BK101.out 0).trans rfl; have hcz19_1 : w17.cell? ⟨gb101, 1, none⟩ = some (.slice none 0 0) := (zX BK101.out 1).trans rfl; have hcz19_2 : w17.cell? ⟨gb101, 2, none⟩ = some (.slice none 0 0) := (zX BK101.out 2).trans rfl; have hfz19_0 := zY BK101.out 0; have hfz19_1 := zY BK101.out 1; have hfz19_2 := zY BK101.out 2))
    refine bodyPost_ret (results_ct rfl _ _ gb101 25 #[.int .i64 0, .slice Ao13 t102.length co13, .slice Ao12 t107.length co12] (0, 0) _ rfl (by refine zk ?_; refine blk_put (cs := #[.int .i64 0, .slice Ao13 t102.length co13, .slice none 0 0]) ?_ 2 _ rfl; refine zk ?_; refine blk_put (cs := #[.int .i64 0, .slice none 0 0, .slice none 0 0]) ?_ 1 _ rfl; refine zk ?_; refine blk_put (cs := #[.int .i64 0, .slice none 0 0, .slice none 0 0]) ?_ 0 _ rfl; refine zk ?_; exact BK101.out) Tryd.underlying25 rfl (by kernel_rfl)) rfl ?_
    exact ⟨_, _, zw, by (with_reducible repeat (first | apply Kd.R_alloc | apply Kd.R_drewN | apply Kd.R_drew)); exact Kd.R_mono (Kd.R_far (p := ⟨gb101, 2, none⟩) (Kd.R_far (p := ⟨gb101, 1, none⟩) (Kd.R_far (p := ⟨gb101, 0, none⟩) (Kd.R_types HO106.out BK101.out (by decide)) (fun _ hk => hk.2) (.int .i64 0)) (fun _ hk => hk.2) (.slice Ao13 t102.length co13)) (fun _ hk => hk.2) (.slice Ao12 t107.length co12)) (fun _ hk => hk.1.2), by (with_reducible repeat (first | apply Kd.R_alloc | apply Kd.R_drewN | apply Kd.R_drew)); exact Kd.R_mono (Kd.R_far (p := ⟨gb101, 2, none⟩) (Kd.R_far (p := ⟨gb101, 1, none⟩) (Kd.R_far (p := ⟨gb101, 0, none⟩) (Kd.R_types HO111.out BK101.out (by decide)) (fun _ hk => hk.2) (.int .i64 0)) (fun _ hk => hk.2) (.slice Ao13 t102.length co13)) (fun _ hk => hk.2) (.slice Ao12 t107.length co12)) (fun _ hk => hk.1.2), zb⟩
   ·
    rw [if_neg c8] at H
    have c8b0 : (t113 == 0) = false := zE c8
    have c8b1 : (t113 != 0) = true := zF c8
    simp only [Option.some.injEq, Prod.mk.injEq] at H
    obtain ⟨rfl, rfl, rfl, rfl⟩ := H
    go_enter Tryd.func15, Tryd.ntmps15
    go_wp2_with (first | ((with_reducible refine gate_dst (N := 4) rfl ?_); refine box_event ?hg (N := 4) ?hd (cs := #[.int .i64 0, .slice none 0 0, .slice none 0 0]) (t := 25) ?hr ?_; (case hd => rfl); (case hg => rfl); (case hr => first | (go_simp; done) | (go_simp; rfl)); intro gb101 hg w20 hbox hb; have BK101 := zM (hbox); have GW101 := zM (zh hg : w.heap.size ≤ gb101); have GE101 := zM (zh hg : w.heap.size ≤ gb101); replace HB := zM (below_step zb hb); clear hb hbox hg) | ((with_reducible refine gate_callee (f := 41) rfl ?_); refine goesL_ (some 15) rfl rfl Tryd.func41 (by kernel_rfl) rfl #[.string a0] rfl zl ?_; (with_reducible refine (term_Parse.calls k a0 t102 t103 t104 _ A3.out).mono ?_); rintro e w21 ⟨v105, rfl, ho0, hb⟩; refine ⟨_, rfl, ?_⟩; have HO106 := zM (Kd.R_lower ho0 (below_size zb)); replace BK101 := zM (blk_below (zk BK101.out) hb); replace HB := zM (below_step zb hb); (try clear hb); (try clear ho0)) | ((with_reducible refine gate_callee (f := 41) rfl ?_); refine goesL_ (some 25) rfl rfl Tryd.func41 (by kernel_rfl) rfl #[.string a1] rfl zl ?_; (with_reducible refine (term_Parse.calls k a1 t107 t108 t109 _ A5.out).mono ?_); rintro e w22 ⟨v110, rfl, ho0, hb⟩; refine ⟨_, rfl, ?_⟩; have HO111 := zM (Kd.R_lower (Kd.R_new' ho0 (Kd.R_lt (zr HO106.out))) (below_size zb)); replace HO106 := zM (Kd.R_elder' (zr HO106.out) (Kd.R_base ho0) hb); replace BK101 := zM (blk_below (zk BK101.out) hb); replace HB := zM (below_step zb hb); (try clear hb); (try clear ho0); obtain ⟨Ao23, co23, eo23⟩ := Kd.R_slice HO111.out; subst eo23; obtain ⟨Ao24, co24, eo24⟩ := Kd.R_slice HO106.out; subst eo24) | ((with_reducible refine gate_dst (N := 11) rfl ?_); refine box_event ?hg (N := 11) ?hd (cs := #[.int .i64 0, .slice none 0 0, .slice none 0 0]) (t := 25) ?hr ?_; (case hd => rfl); (case hg => rfl); (case hr => first | (go_simp; done) | (go_simp; rfl)); intro gb112 hg w25 hbox hb; replace HO106 := zM (Kd.R_below (zr HO106.out) hb); replace HO111 := zM (Kd.R_below (zr HO111.out) hb); have BK112 := zM (hbox); have GW112 := zM (zh hg : w.heap.size ≤ gb112); have GE112 := zM (zh hg : w.heap.size ≤ gb112); replace HB := zM (below_step zb hb); have NB101_112 := zM ((by rw [hg]; exact Nat.ne_of_lt (blk_lt (zk BK101.out)) : gb101 ≠ gb112)); have NB112_101 := zM ((by rw [hg]; exact Nat.ne_of_gt (blk_lt (zk BK101.out)) : gb112 ≠ gb101)); replace BK101 := zM (blk_below (zk BK101.out) hb); clear hb hbox hg; have hnb26 := NB112_101.out; have hnc26 := NB101_112.out; have hcz27_0 : w25.cell? ⟨gb112, 0, none⟩ = some (.int .i64 0) := (zX BK112.out 0).trans rfl; have hcz27_1 : w25.cell? ⟨gb112, 1, none⟩ = some (.slice none 0 0) := (zX BK112.out 1).trans rfl; have hcz27_2 : w25.cell? ⟨gb112, 2, none⟩ = some (.slice none 0 0) := (zX BK112.out 2).trans rfl; have hfz27_0 := zY BK112.out 0; have hfz27_1 := zY BK112.out 1; have hfz27_2 := zY BK112.out 2) | ((with_reducible refine gate_callee (f := 11) rfl ?_); refine goesL_ (some 37) rfl rfl Tryd.func11 (by kernel_rfl) rfl #[.agg #[.int .i64 0, .slice Ao24 t102.length co24, .slice Ao23 t107.length co23]] rfl zl ?_; (with_reducible refine (rule_Check.calls k 0 _ _ t102 _ _ t107 t113 _ ?side1 ?side2 ?side3 ?side4 A7.out).mono ?_); (case side1 => refine (Kd.R_reads' (e := 33) (base := w.heap.size) (ok := fun k_ => (True ∧ some k_ ≠ (.slice Ao23 t107.length co23 : Value).ownBlock)) (n := t102.length) (c := co24) ?_).2.2; exact (by (with_reducible repeat (first | apply Kd.R_alloc | apply Kd.R_drewN | apply Kd.R_drew)); exact (Kd.R_mono (Kd.R_far (p := ⟨gb112, 2, none⟩) (Kd.R_far (p := ⟨gb112, 1, none⟩) (Kd.R_far (p := ⟨gb112, 0, none⟩) (Kd.R_types HO106.out BK112.out (by decide)) (fun _ hk => hk.2) (.int .i64 0)) (fun _ hk => hk.2) (.slice Ao24 t102.length co24)) (fun _ hk => hk.2) (.slice Ao23 t107.length co23)) (fun _ h_ => h_.1)))); (case side2 => exact (Kd.R_reads' HO106.out).2.1); (case side3 => refine (Kd.R_reads' (e := 33) (base := w.heap.size) (ok := fun k_ => (True ∧ some k_ ≠ (.slice Ao24 t102.length co24 : Value).ownBlock)) (n := t107.length) (c := co23) ?_).2.2; exact (by (with_reducible repeat (first | apply Kd.R_alloc | apply Kd.R_drewN | apply Kd.R_drew)); exact (Kd.R_mono (Kd.R_far (p := ⟨gb112, 2, none⟩) (Kd.R_far (p := ⟨gb112, 1, none⟩) (Kd.R_far (p := ⟨gb112, 0, none⟩) (Kd.R_types HO111.out BK112.out (by decide)) (fun _ hk => hk.2) (.int .i64 0)) (fun _ hk => hk.2) (.slice Ao24 t102.length co24)) (fun _ hk => hk.2) (.slice Ao23 t107.length co23)) (fun _ h_ => h_.1)))); (case side4 => exact (Kd.R_reads' HO111.out).2.1); rintro e w28 ⟨rfl, hb⟩; refine ⟨_, rfl, ?_⟩; replace HO106 := zM (Kd.R_below (by (with_reducible repeat (first | apply Kd.R_alloc | apply Kd.R_drewN | apply Kd.R_drew)); exact (Kd.R_mono (Kd.R_far (p := ⟨gb112, 2, none⟩) (Kd.R_far (p := ⟨gb112, 1, none⟩) (Kd.R_far (p := ⟨gb112, 0, none⟩) (Kd.R_types HO106.out BK112.out (by decide)) (fun _ hk => hk.2) (.int .i64 0)) (fun _ hk => hk.2) (.slice Ao24 t102.length co24)) (fun _ hk => hk.2) (.slice Ao23 t107.length co23)) (fun _ h_ => h_.1))) hb); replace HO111 := zM (Kd.R_below (by (with_reducible repeat (first | apply Kd.R_alloc | apply Kd.R_drewN | apply Kd.R_drew)); exact (Kd.R_mono (Kd.R_far (p := ⟨gb112, 2, none⟩) (Kd.R_far (p := ⟨gb112, 1, none⟩) (Kd.R_far (p := ⟨gb112, 0, none⟩) (Kd.R_types HO111.out BK112.out (by decide)) (fun _ hk => hk.2) (.int .i64 0)) (fun _ hk => hk.2) (.slice Ao24 t102.length co24)) (fun _ hk => hk.2) (.slice Ao23 t107.length co23)) (fun _ h_ => h_.1))) hb); replace BK101 := zM (blk_below (g := gb101) (o := .cells #[.int .i64 0, .slice none 0 0, .slice none 0 0] 25 (0, 0)) (by refine zk ?_; refine blk_far ?_ NB101_112.out _; refine zk ?_; refine blk_far ?_ NB101_112.out _; refine zk ?_; refine blk_far ?_ NB101_112.out _; refine zk ?_; exact BK101.out) hb); replace BK112 := zM (blk_below (g := gb112) (o := .cells #[.int .i64 0, .slice Ao24 t102.length co24, .slice Ao23 t107.length co23] 25 (0, 0)) (by refine zk ?_; refine blk_put (cs := #[.int .i64 0, .slice Ao24 t102.length co24, .slice none 0 0]) ?_ 2 _ rfl; refine zk ?_; refine blk_put (cs := #[.int .i64 0, .slice none 0 0, .slice none 0 0]) ?_ 1 _ rfl; refine zk ?_; refine blk_put (cs := #[.int .i64 0, .slice none 0 0, .slice none 0 0]) ?_ 0 _ rfl; refine zk ?_; exact BK112.out) hb); replace HB := zM (below_step zb hb); (try clear hb); have hcz29_0 : w28.cell? ⟨gb101, 0, none⟩ = some (.int .i64 0) := (zX BK101.out 0).trans rfl; have hcz29_1 : w28.cell? ⟨gb101, 1, none⟩ = some (.slice none 0 0) := (zX BK101.out 1).trans rfl; have hcz29_2 : w28.cell? ⟨gb101, 2, none⟩ = some (.slice none 0 0) := (zX BK101.out 2).trans rfl; have hfz29_0 := zY BK101.out 0; have hfz29_1 := zY BK101.out 1; have hfz29_2 := zY BK101.out 2))
    refine bodyPost_ret (results_ct rfl _ _ gb101 25 #[.int .i64 0, .slice none 0 0, .slice none 0 0] (0, 0) _ rfl (by refine zk ?_; refine blk_put (cs := #[.int .i64 0, .slice none 0 0, .slice none 0 0]) ?_ 2 _ rfl; refine zk ?_; refine blk_put (cs := #[.int .i64 0, .slice none 0 0, .slice none 0 0]) ?_ 1 _ rfl; refine zk ?_; refine blk_put (cs := #[.int .i64 0, .slice none 0 0, .slice none 0 0]) ?_ 0 _ rfl; refine zk ?_; exact BK101.out) Tryd.underlying25 rfl (by kernel_rfl)) rfl ?_
    exact ⟨_, _, zw, by first | exact Kd.R_nil _ _ _ _ _ | exact Kd.N_nil _ _ _ _ _ | exact Kd.V_nil _ _ _ _ _ | exact Kd.Q_nil _ _ _ _ _ | exact Kd.S_nil _ _ _ _ _, by first | exact Kd.R_nil _ _ _ _ _ | exact Kd.N_nil _ _ _ _ _ | exact Kd.V_nil _ _ _ _ _ | exact Kd.Q_nil _ _ _ _ _ | exact Kd.S_nil _ _ _ _ _, zb⟩
  ·
   rw [if_neg c6] at H
   have c6b0 : (t109 == 0) = false := zE c6
   have c6b1 : (t109 != 0) = true := zF c6
   simp only [Option.some.injEq, Prod.mk.injEq] at H
   obtain ⟨rfl, rfl, rfl, rfl⟩ := H
   go_enter Tryd.func15, Tryd.ntmps15
   go_wp2_with (first | ((with_reducible refine gate_dst (N := 4) rfl ?_); refine box_event ?hg (N := 4) ?hd (cs := #[.int .i64 0, .slice none 0 0, .slice none 0 0]) (t := 25) ?hr ?_; (case hd => rfl); (case hg => rfl); (case hr => first | (go_simp; done) | (go_simp; rfl)); intro gb101 hg w30 hbox hb; have BK101 := zM (hbox); have GW101 := zM (zh hg : w.heap.size ≤ gb101); have GE101 := zM (zh hg : w.heap.size ≤ gb101); replace HB := zM (below_step zb hb); clear hb hbox hg) | ((with_reducible refine gate_callee (f := 41) rfl ?_); refine goesL_ (some 15) rfl rfl Tryd.func41 (by kernel_rfl) rfl #[.string a0] rfl zl ?_; (with_reducible refine (term_Parse.calls k a0 t102 t103 t104 _ A3.out).mono ?_); rintro e w31 ⟨v105, rfl, ho0, hb⟩; refine ⟨_, rfl, ?_⟩; have HO106 := zM (Kd.R_lower ho0 (below_size zb)); replace BK101 := zM (blk_below (zk BK101.out) hb); replace HB := zM (below_step zb hb); (try clear hb); (try clear ho0)) | ((with_reducible refine gate_callee (f := 41) rfl ?_); refine goesL_ (some 25) rfl rfl Tryd.func41 (by kernel_rfl) rfl #[.string a1] rfl zl ?_; (with_reducible refine (term_Parse.calls k a1 t107 t108 t109 _ A5.out).mono ?_); rintro e w32 ⟨v110, rfl, ho0, hb⟩; refine ⟨_, rfl, ?_⟩; have HO111 := zM (Kd.R_lower (Kd.R_new' ho0 (Kd.R_lt (zr HO106.out))) (below_size zb)); replace HO106 := zM (Kd.R_elder' (zr HO106.out) (Kd.R_base ho0) hb); replace BK101 := zM (blk_below (zk BK101.out) hb); replace HB := zM (below_step zb hb); (try clear hb); (try clear ho0); have hcz33_0 : w32.cell? ⟨gb101, 0, none⟩ = some (.int .i64 0) := (zX BK101.out 0).trans rfl; have hcz33_1 : w32.cell? ⟨gb101, 1, none⟩ = some (.slice none 0 0) := (zX BK101.out 1).trans rfl; have hcz33_2 : w32.cell? ⟨gb101, 2, none⟩ = some (.slice none 0 0) := (zX BK101.out 2).trans rfl; have hfz33_0 := zY BK101.out 0; have hfz33_1 := zY BK101.out 1; have hfz33_2 := zY BK101.out 2))
   refine bodyPost_ret (results_ct rfl _ _ gb101 25 #[.int .i64 0, .slice none 0 0, .slice none 0 0] (0, 0) _ rfl (by refine zk ?_; refine blk_put (cs := #[.int .i64 0, .slice none 0 0, .slice none 0 0]) ?_ 2 _ rfl; refine zk ?_; refine blk_put (cs := #[.int .i64 0, .slice none 0 0, .slice none 0 0]) ?_ 1 _ rfl; refine zk ?_; refine blk_put (cs := #[.int .i64 0, .slice none 0 0, .slice none 0 0]) ?_ 0 _ rfl; refine zk ?_; exact BK101.out) Tryd.underlying25 rfl (by kernel_rfl)) rfl ?_
   exact ⟨_, _, zw, by first | exact Kd.R_nil _ _ _ _ _ | exact Kd.N_nil _ _ _ _ _ | exact Kd.V_nil _ _ _ _ _ | exact Kd.Q_nil _ _ _ _ _ | exact Kd.S_nil _ _ _ _ _, by first | exact Kd.R_nil _ _ _ _ _ | exact Kd.N_nil _ _ _ _ _ | exact Kd.V_nil _ _ _ _ _ | exact Kd.Q_nil _ _ _ _ _ | exact Kd.S_nil _ _ _ _ _, zb⟩
 ·
  rw [if_neg c4] at H
  have c4b0 : (t104 == 0) = false := zE c4
  have c4b1 : (t104 != 0) = true := zF c4
  simp only [Option.some.injEq, Prod.mk.injEq] at H
  obtain ⟨rfl, rfl, rfl, rfl⟩ := H
  go_enter Tryd.func15, Tryd.ntmps15
  go_wp2_with (first | ((with_reducible refine gate_dst (N := 4) rfl ?_); refine box_event ?hg (N := 4) ?hd (cs := #[.int .i64 0, .slice none 0 0, .slice none 0 0]) (t := 25) ?hr ?_; (case hd => rfl); (case hg => rfl); (case hr => first | (go_simp; done) | (go_simp; rfl)); intro gb101 hg w34 hbox hb; have BK101 := zM (hbox); have GW101 := zM (zh hg : w.heap.size ≤ gb101); have GE101 := zM (zh hg : w.heap.size ≤ gb101); replace HB := zM (below_step zb hb); clear hb hbox hg) | ((with_reducible refine gate_callee (f := 41) rfl ?_); refine goesL_ (some 15) rfl rfl Tryd.func41 (by kernel_rfl) rfl #[.string a0] rfl zl ?_; (with_reducible refine (term_Parse.calls k a0 t102 t103 t104 _ A3.out).mono ?_); rintro e w35 ⟨v105, rfl, ho0, hb⟩; refine ⟨_, rfl, ?_⟩; have HO106 := zM (Kd.R_lower ho0 (below_size zb)); replace BK101 := zM (blk_below (zk BK101.out) hb); replace HB := zM (below_step zb hb); (try clear hb); (try clear ho0); have hcz36_0 : w35.cell? ⟨gb101, 0, none⟩ = some (.int .i64 0) := (zX BK101.out 0).trans rfl; have hcz36_1 : w35.cell? ⟨gb101, 1, none⟩ = some (.slice none 0 0) := (zX BK101.out 1).trans rfl; have hcz36_2 : w35.cell? ⟨gb101, 2, none⟩ = some (.slice none 0 0) := (zX BK101.out 2).trans rfl; have hfz36_0 := zY BK101.out 0; have hfz36_1 := zY BK101.out 1; have hfz36_2 := zY BK101.out 2))
  refine bodyPost_ret (results_ct rfl _ _ gb101 25 #[.int .i64 0, .slice none 0 0, .slice none 0 0] (0, 0) _ rfl (by refine zk ?_; refine blk_put (cs := #[.int .i64 0, .slice none 0 0, .slice none 0 0]) ?_ 2 _ rfl; refine zk ?_; refine blk_put (cs := #[.int .i64 0, .slice none 0 0, .slice none 0 0]) ?_ 1 _ rfl; refine zk ?_; refine blk_put (cs := #[.int .i64 0, .slice none 0 0, .slice none 0 0]) ?_ 0 _ rfl; refine zk ?_; exact BK101.out) Tryd.underlying25 rfl (by kernel_rfl)) rfl ?_
  exact ⟨_, _, zw, by first | exact Kd.R_nil _ _ _ _ _ | exact Kd.N_nil _ _ _ _ _ | exact Kd.V_nil _ _ _ _ _ | exact Kd.Q_nil _ _ _ _ _ | exact Kd.S_nil _ _ _ _ _, by first | exact Kd.R_nil _ _ _ _ _ | exact Kd.N_nil _ _ _ _ _ | exact Kd.V_nil _ _ _ _ _ | exact Kd.Q_nil _ _ _ _ _ | exact Kd.S_nil _ _ _ _ _, zb⟩


-- ==== PF43

/-! ### term_Print: function 43 -/
/-! ### the builder: its calls -/
theorem bd_info : ∃ j, Tryd.prog.info? 99 = some j ∧ j.size = 2 := by
 have h : (Tryd.prog.info? 99).map (·.size) = some 2 := by kernel_rfl
 exact Option.map_eq_some_iff.1 h
theorem bd_lies : liesAt Tryd.prog Tryd.prog.depth 99 (2 / Tryd.prog.cellsOf 99) 0 99 1 = true := by kernel_rfl
theorem bd_used (b : Nat) (w : World) (h0 : w.cell? ⟨b, 0, none⟩ = some (.pointer (some ⟨b, 0, none⟩))) :
 Calls Tryd.prog 86 #[.pointer (some ⟨b, 0, none⟩)] w fun e w' => e = .returned (.tuple #[]) ∧ w' = w := by
 obtain ⟨j, hj, hjs⟩ := bd_info
 go_enter Tryd.func86, Tryd.ntmps86
 go_wp2
 rw [Lib.run_neq_ptr_same w _ Tryd.underlying96 hj]
 go_wp2
 go_end0
 exact ⟨rfl, rfl⟩
theorem bd_fresh (b : Nat) (w : World) (h0 : w.cell? ⟨b, 0, none⟩ = some (.pointer none)) (hsh : w.shape? b = some (99, 2)) (hfz : w.frozen? ⟨b, 0, none⟩ = false) :
 Calls Tryd.prog 86 #[.pointer (some ⟨b, 0, none⟩)] w fun e w' => e = .returned (.tuple #[]) ∧ w' = w.setCell ⟨b, 0, none⟩ (.pointer (some ⟨b, 0, none⟩)) := by
 obtain ⟨j, hj, hjs⟩ := bd_info
 go_enter Tryd.func86, Tryd.ntmps86
 go_wp2
 rw [Lib.run_to_unsafe w ⟨b, 0, none⟩ Tryd.underlying96 Tryd.underlying131 hj (by rw [hjs]; decide) hsh (Nat.zero_lt_succ 1)]
 simp only [Result.andThen]
 rw [Oper.upon_value]
 go_wp2
 rw [run_callFunc_extern Tryd.func91 (by kernel_rfl) (by kernel_rfl) (by kernel_rfl) (e := Extern.AbiNoEscape.same) (by kernel_rfl)]
 rw [Lib.run_noEscape]
 simp only [Result.andThen]
 rw [Oper.upon_value]
 go_wp2
 rw [Lib.run_from_unsafe w ⟨b, 0, none⟩ Tryd.underlying131 Tryd.underlying96 hj hsh bd_lies]
 simp only [Result.andThen]
 rw [Oper.upon_value]
 go_wp2
 go_end0
 exact ⟨rfl, rfl⟩
abbrev IsBd (B b : Nat) (l : List UInt8) (w : World) : Prop := Lib.IsBuilder 99 5 B b (Lib.byteCells l) w
theorem bd_check (B b : Nat) (bs : List Value) (w : World) (h : Lib.IsBuilder 99 5 B b bs w) :
 Calls Tryd.prog 86 #[.pointer (some ⟨b, 0, none⟩)] w fun e w' => e = .returned (.tuple #[]) ∧ Lib.BuilderAt 99 5 B b (.pointer (some ⟨b, 0, none⟩)) bs w' ∧ Below B w w' ∧ Lib.OthersKept 5 (some b) w w' := by
 rcases h with h | h
 ·
  refine (bd_fresh b w h.cell0 h.shape h.frozen0).mono ?_
  rintro e w' ⟨rfl, rfl⟩
  exact ⟨rfl, h.used _, (Below.refl B w).setCell (p := ⟨b, 0, none⟩) h.1 _, (Lib.OthersKept.refl _ _ w).setCell ⟨b, 0, none⟩ rfl _⟩
 ·
  refine (bd_used b w h.cell0).mono ?_
  rintro e w' ⟨rfl, rfl⟩
  exact ⟨rfl, h, Below.refl B _, Lib.OthersKept.refl _ _ _⟩
theorem bd_byte : ∃ i, Tryd.prog.info? 5 = some i ∧ i.zero = some (.int .u8 0) ∧ i.size = 1 ∧ i.bytes = 1 := by
 have h : (Tryd.prog.info? 5).map (fun i => (i.zero, i.size, i.bytes)) = some (some (.int .u8 0), 1, 1) := by kernel_rfl
 obtain ⟨i, hi, hz⟩ := Option.map_eq_some_iff.1 h
 simp only [Prod.mk.injEq] at hz
 exact ⟨i, hi, hz.1, hz.2.1, hz.2.2⟩
theorem bd_put {B b : Nat} {p v v' : Value} {bs' : List Value} {W : World} (hB : B ≤ b) (hb : W.heap[b]? = some (.cells #[p, v] 99 (0, 0))) (ho : W.ownsRow B 5 1 v' bs'.length bs') : Lib.BuilderAt 99 5 B b p bs' (W.setCell ⟨b, 1, none⟩ v') :=
 Lib.BuilderAt.put (T := 99) (e := 5) hB hb (bs' := bs') ho (by decide)
theorem bd_string (B b : Nat) (bs : List Value) (s : ByteArray) (w : World) (h : Lib.IsBuilder 99 5 B b bs w) (hB0 : B ≤ w.heap.size) (hl : bs.length + s.size ≤ 4096) :
 Calls Tryd.prog 83 #[.pointer (some ⟨b, 0, none⟩), .string s] w fun e w' => e = .returned (.tuple #[.int .i64 s.size, .nilIface]) ∧ Lib.IsBuilder 99 5 B b (bs ++ Lib.strCells s) w' ∧ Below B w w' ∧ Lib.OthersKept 5 (some b) w w' := by
 obtain ⟨i0, hi, hz0, hz1, hz2⟩ := bd_byte
 go_enter Tryd.func83, Tryd.ntmps83
 go_wp2_with (go_at_call 86; refine (bd_check B b bs _ h).mono ?_)
 rintro e w1 ⟨rfl, h1, hb1, hk1⟩
 obtain ⟨hB, v, hbk, hown, hne⟩ := h1
 have c0 : w1.cell? ⟨b, 0, none⟩ = some (.pointer (some ⟨b, 0, none⟩)) := by rw [Lib.cell_of_heap hbk]; rfl
 have c1 : w1.cell? ⟨b, 1, none⟩ = some v := by rw [Lib.cell_of_heap hbk]; rfl
 go_wp2_with (at_builtin; refine Lib.wpList_append_own_string _ rfl _ _ 97 9 rfl B 5 i0 Tryd.underlying97 Tryd.underlying9 hi hz0 hz1 hz2 _ _ _ rfl hown s rfl ?c4 ?c5 ?c6 ?_)
 case c4 => simp only [maxLen]; omega
 case c5 => omega
 case c6 => have := hb1.size; omega
 intro v' w2 hown' hgrow _
 have hlt : b < w1.heap.size := blk_lt hbk
 have hb2 : w2.heap[b]? = some (.cells #[.pointer (some ⟨b, 0, none⟩), v] 99 (0, 0)) := by
  rw [hgrow.block b hlt (fun e => hne e.symm)]
  exact hbk
 have d0 : w2.cell? ⟨b, 0, none⟩ = some (.pointer (some ⟨b, 0, none⟩)) := by rw [Lib.cell_of_heap hb2]; rfl
 have d1 : w2.cell? ⟨b, 1, none⟩ = some v := by rw [Lib.cell_of_heap hb2]; rfl
 have f1 : w2.frozen? ⟨b, 1, none⟩ = false := Lib.frozen_of_heap hb2 1
 obtain ⟨ao, n', cap, rfl⟩ : ∃ ao n' cap, v' = .slice ao n' cap := by
  rcases hown'.2 with ⟨hv, _⟩ | ⟨g, cap, cur, hv, _⟩
  ·
   exact ⟨_, _, _, hv⟩
  ·
   exact ⟨_, _, _, hv⟩
 go_wp2
 go_ret2
 refine ⟨rfl, .inr (bd_put hB hb2 (bs' := bs ++ Lib.strCells s) (by simpa [Lib.strCells_length] using hown')), ?_, (hk1.grown hgrow (Lib.ownsRowF_kind (World.ownsRowF_of hown))).setCell ⟨b, 1, none⟩ rfl _⟩
 exact (hb1.grown hgrow (by have := hb1.size; omega) (fun k hk => (hown.lt k hk).1)).setCell (p := ⟨b, 1, none⟩) hB _
theorem bd_write (B b : Nat) (bs : List Value) (c : Int) (w : World) (h : Lib.IsBuilder 99 5 B b bs w) (hB0 : B ≤ w.heap.size) (hl : bs.length + 1 ≤ 4096) :
 Calls Tryd.prog 84 #[.pointer (some ⟨b, 0, none⟩), .int .u8 c] w fun e w' => e = .returned .nilIface ∧ Lib.IsBuilder 99 5 B b (bs ++ [.int .u8 c]) w' ∧ Below B w w' ∧ Lib.OthersKept 5 (some b) w w' := by
 obtain ⟨i0, hi, hz0, hz1, hz2⟩ := bd_byte
 go_enter Tryd.func84, Tryd.ntmps84
 go_wp2_with (go_at_call 86; refine (bd_check B b bs _ h).mono ?_)
 rintro e w1 ⟨rfl, h1, hb1, hk1⟩
 obtain ⟨hB, v, hbk, hown, hne⟩ := h1
 have c0 : w1.cell? ⟨b, 0, none⟩ = some (.pointer (some ⟨b, 0, none⟩)) := by rw [Lib.cell_of_heap hbk]; rfl
 have c1 : w1.cell? ⟨b, 1, none⟩ = some v := by rw [Lib.cell_of_heap hbk]; rfl
 go_wp2_with (at_builtin; refine wpList_append_own _ rfl _ _ 97 rfl B 5 i0 (.int .u8 0) 1 1 Tryd.underlying97 hi hz0 hz1 hz2 rfl (by decide) _ _ _ rfl (hown.alloc _) ⟨w1.heap.size, 0, none⟩ 1 1 [.int .u8 c] rfl rfl ?c1 ?c2 ?c3 ?c4 ?c5 ?_)
 case c1 =>
  intro j u hj
  match j, hj with
  | 0, hj => simp at hj; subst hj; simp [Addr.add]
 case c2 => intro u hu; simp at hu; subst hu; rfl
 case c3 => unfold maxLen; omega
 case c4 => omega
 case c5 => have := hb1.size; simp; omega
 intro v' w2 hown' hgrow _
 have hlt : b < w1.heap.size := blk_lt hbk
 have hb2 : w2.heap[b]? = some (.cells #[.pointer (some ⟨b, 0, none⟩), v] 99 (0, 0)) := by
  rw [hgrow.block b (by simp; omega) (fun e => hne e.symm), Lib.alloc_old w1 _ b hlt]
  exact hbk
 have d0 : w2.cell? ⟨b, 0, none⟩ = some (.pointer (some ⟨b, 0, none⟩)) := by rw [Lib.cell_of_heap hb2]; rfl
 have d1 : w2.cell? ⟨b, 1, none⟩ = some v := by rw [Lib.cell_of_heap hb2]; rfl
 have f1 : w2.frozen? ⟨b, 1, none⟩ = false := Lib.frozen_of_heap hb2 1
 obtain ⟨g, cap, rfl⟩ : ∃ g cap, v' = .slice (some ⟨g, 0, none⟩) (bs.length + 1) cap := by
  rcases hown'.2 with ⟨_, h0⟩ | ⟨g, cap, cur, hv, _⟩
  ·
   omega
  ·
   exact ⟨g, cap, hv⟩
 go_wp2
 go_ret
 refine ⟨rfl, .inr (bd_put hB hb2 (bs' := bs ++ [.int .u8 c]) (by simpa using hown')), ?_, ((hk1.alloc _).grown hgrow (Lib.ownsRowF_kind (World.ownsRowF_of (hown.alloc _)))).setCell ⟨b, 1, none⟩ rfl _⟩
 exact ((hb1.alloc (by have := hb1.size; omega) _).grown hgrow (by have := hb1.size; simp; omega) (fun k hk => (hown.lt k hk).1)).setCell (p := ⟨b, 1, none⟩) hB _
/-- What has been written, as a string. -/
theorem bd_done (B b : Nat) (l : List UInt8) (w : World) (h : Lib.IsBuilder 99 5 B b (Lib.byteCells l) w) (h0 : l ≠ []) (hlen : l.length ≤ 4096) :
 Calls Tryd.prog 68 #[.pointer (some ⟨b, 0, none⟩)] w fun e w' => e = .returned (.string ⟨l.toArray⟩) ∧ Below B w w' := by
 obtain ⟨p, hB, v, hbk, hown, hne⟩ : ∃ p, Lib.BuilderAt 99 5 B b p (Lib.byteCells l) w := by
  rcases h with h | h
  ·
   exact ⟨_, h⟩
  ·
   exact ⟨_, h⟩
 have hl0 : l.length ≠ 0 := by simpa using h0
 rw [Lib.byteCells_length] at hown
 obtain ⟨g, cap, cur, rfl, hbg, hg, hnc, hcm, hcs, htake⟩ : ∃ g cap cur, v = .slice (some ⟨g, 0, none⟩) l.length cap ∧ B ≤ g ∧ w.heap[g]? = some (.cells cur 5 (0, 0)) ∧ l.length ≤ cap ∧ cap ≤ maxLen ∧ cur.size = cap * 1 ∧ cur.toList.take (l.length * 1) = Lib.byteCells l := by
  rcases hown.2 with ⟨_, hz⟩ | ⟨g, cap, cur, hv, r⟩
  ·
   exact absurd hz hl0
  ·
   exact ⟨g, cap, cur, hv, r⟩
 have c1 : w.drew.cell? ⟨b, 1, none⟩ = some (.slice (some ⟨g, 0, none⟩) l.length cap) := by
  have : w.drew.heap[b]? = some (.cells #[p, .slice (some ⟨g, 0, none⟩) l.length cap] 99 (0, 0)) := hbk
  rw [Lib.cell_of_heap this]; rfl
 have hSD : (Builtin.unsafeSliceData_ #[97] 123 #[.slice (some ⟨g, 0, none⟩) l.length cap]).run Tryd.prog w.drew = .ok (.pointer (some ⟨g, 0, none⟩)) w.drew :=
  Lib.run_unsafeSliceData_row _ _ _ _ _ _ (by omega)
 have hUS : (Builtin.unsafeString_ #[123, 3] 9 #[.pointer (some ⟨g, 0, none⟩), .int .i64 l.length]).run Tryd.prog w.drew = .ok (.string ⟨l.toArray⟩) (w.drew.freeze ⟨g, 0, none⟩ l.length) := by
  refine Lib.run_unsafeString_row w.drew 123 3 9 5 Tryd.underlying123 (by kernel_rfl) g cur.size (by have hg' : w.drew.heap[g]? = some (.cells cur 5 (0, 0)) := hg; simp [World.shape?, hg']) l h0 (by omega) (by omega) ?_
  intro j x hx
  have := hown.cells (g := g) rfl j (.int .u8 x.toNat) (by simp [Lib.byteCells, hx])
  exact this
 go_enter Tryd.func68, Tryd.ntmps68
 go_wp2
 go_region
 all_goals (go_wp2; go_ret; exact ⟨rfl, Lib.below_freeze (Below.drew (Below.refl B w)) (p := ⟨g, 0, none⟩) hbg _⟩)
/-! ### write: what it writes, and where it ends -/
mutual
def wrT : Nat → List (S33) → Int → List UInt8 → Option (List UInt8 × Int)
 | 0, _, _, _ => none
 | k + 1, t, i, l => if 0 ≤ i then (if i < (t.length : Int) then (if l.length + (rd_T33 t i).f0.size ≤ 4000 then
  ((wrL k t (rd_T33 t i).f1 0 (wrap64 (i + 1)) (l ++ (rd_T33 t i).f0.data.toList)).bind fun x =>
   if (rd_T33 t i).f1 > 0 then (if x.1.length + 1 ≤ 4000 then some (x.1 ++ [41], x.2) else none) else some x) else none) else none) else none
def wrL : Nat → List (S33) → Int → Int → Int → List UInt8 → Option (List UInt8 × Int)
 | 0, _, _, _, _, _ => none
 | k + 1, t, a, n, i, l => if n < a then (if n < 4 then (if l.length + 1 ≤ 4000 then ((wrT k t i (l ++ [if n = 0 then 40 else 44])).bind fun x => wrL k t a (wrap64 (n + 1)) x.2 x.1) else none) else none) else some (l, i)
end
def WrC (k : Nat) : Prop := ∀ (b : Nat) (t : List (S33)) (A : Option Addr) (c : Nat) (i : Int) (l : List UInt8) (r : List UInt8 × Int) (w0 w : World), Kd.C k33 w0 A t.length t → Below w0.heap.size w0 w → IsBd w0.heap.size b l w → wrT k t i l = some r →
 Calls Tryd.prog 67 #[.pointer (some ⟨b, 0, none⟩), .slice A t.length c, .int .i64 i] w fun e w' => e = .returned (.int .i64 r.2) ∧ IsBd w0.heap.size b r.1 w' ∧ Below w0.heap.size w w' ∧ Lib.OthersKept 5 (some b) w w'
theorem bd_alloc {B b : Nat} {l : List UInt8} {w : World} (h : IsBd B b l w) (o : Obj) : IsBd B b l (w.alloc o) := by
 have one : ∀ p, Lib.BuilderAt 99 5 B b p (Lib.byteCells l) w → Lib.BuilderAt 99 5 B b p (Lib.byteCells l) (w.alloc o) := fun p h => by
  obtain ⟨hB, v, hb, ho, hne⟩ := h
  exact ⟨hB, v, (Below.heap_alloc w o b (blk_lt hb)).trans hb, ho.alloc o, hne⟩
 exact h.elim (fun h => .inl (one _ h)) (fun h => .inr (one _ h))
theorem bd_len (l : List UInt8) : (Lib.byteCells l).length = l.length := Lib.byteCells_length l
theorem bd_lt {B b : Nat} {l : List UInt8} {w : World} (h : IsBd B b l w) : b < w.heap.size := h.elim (fun h => h.lt) (fun h => h.lt)
theorem bd_one {B b : Nat} {l : List UInt8} {x : UInt8} {w : World} (h : Lib.IsBuilder 99 5 B b (Lib.byteCells l ++ [.int .u8 x.toNat]) w) : IsBd B b (l ++ [x]) w := by
 unfold IsBd
 rw [Lib.byteCells_append]
 exact h
theorem bd_str {B b : Nat} {l : List UInt8} {s : ByteArray} {w : World} (h : Lib.IsBuilder 99 5 B b (Lib.byteCells l ++ Lib.strCells s) w) : IsBd B b (l ++ s.data.toList) w := by
 unfold IsBd
 rw [Lib.byteCells_append]
 exact h
theorem wr_kept {b : Nat} {w w1 : World} {o : Obj} (h : Lib.OthersKept 5 (some b) (w.alloc o) w1) : Lib.OthersKept 5 (some b) w w1 := ((Lib.OthersKept.refl _ _ w).alloc o).trans h
theorem bd_tr {B : Nat} {w w1 w2 : World} (h : Below B w w1) (k : Below B w1 w2) : Below B w w2 :=
 ⟨k.os.trans h.os, k.tape.trans h.tape, k.output.trans h.output, Nat.le_trans h.size k.size, fun i hi => (k.block i hi).trans (h.block i hi)⟩
theorem wr_step (k : Nat) (ih : ∀ k', k' < k → WrC k') : WrC k := by
 intro b t A c i l r w0 w hC hB hI h
 cases k with
 | zero => simp [wrT] at h
 | succ k =>
  have HI0 := zM hI
  have HB0 := zM (Below.refl w0.heap.size w)
  have HBW := zM hB
  have HC := zM hC
  simp only [wrT] at h
  by_cases c1 : 0 ≤ i
  ·
   rw [if_pos c1] at h
   by_cases c2 : i < (t.length : Int)
   ·
    rw [if_pos c2] at h
    split at h
    · next c3 =>
     obtain ⟨x, hx, h⟩ := zB h
     obtain ⟨ad, rfl, hz1, hz2⟩ := at_T33 (Kd.C_below hC hB) i c1 c2
     have HX := zM hx
     have H := zM h
     have HI := zM hI
     clear hx h hC hI
     have p4 := eq_true c1
     have q4 := eq_true c2
     have W1 := fun (W : World) (h : IsBd w0.heap.size b l W) (hs : w0.heap.size ≤ W.heap.size) => bd_string w0.heap.size b (Lib.byteCells l) (rd_T33 t i).f0 W h hs (by rw [bd_len]; omega)
     clear c1 c2
     have hbn : some w.heap.size ≠ some b := by have := bd_lt HI.out; intro e_; injection e_ with e_; omega
     go_enter Tryd.func67, Tryd.ntmps67
     go_wp2_with (first | (go_at_call 83; (refine (W1 _ ?side1 ?side2).mono ?_); (case side1 => exact (by repeat (first | exact HI0.out | apply bd_alloc | apply bd_drewN | apply bd_drew))); (case side2 => have := HBW.out.size; simp; omega); rintro e w1 ⟨rfl, hI1, hB1, hk1⟩; have hcb := hk1 w.heap.size _ (heap_alloc_new w _) hbn (by intro c_ fz_ h_; cases h_); have hz1c := (zX hcb 1).trans rfl; have HCB := zM hcb; have HI1 := zM (bd_str hI1); have HB1 : Aside0 (Below w0.heap.size w w1) := ⟨bd_tr (HB0.out.alloc hB.size _) hB1⟩; have HK1 := zM (wr_kept hk1); clear hI1 hB1 hk1 hcb))
     repeat (go_quiet (first | (go_at_call 83; (refine (W1 _ ?side1 ?side2).mono ?_); (case side1 => exact (by repeat (first | exact HI0.out | apply bd_alloc | apply bd_drewN | apply bd_drew))); (case side2 => have := HBW.out.size; simp; omega); rintro e w1 ⟨rfl, hI1, hB1, hk1⟩; have hcb := hk1 w.heap.size _ (heap_alloc_new w _) hbn (by intro c_ fz_ h_; cases h_); have hz1c := (zX hcb 1).trans rfl; have HCB := zM hcb; have HI1 := zM (bd_str hI1); have HB1 : Aside0 (Below w0.heap.size w w1) := ⟨bd_tr (HB0.out.alloc hB.size _) hB1⟩; have HK1 := zM (wr_kept hk1); clear hI1 hB1 hk1 hcb)); try go_wp2_with (first | (go_at_call 83; (refine (W1 _ ?side1 ?side2).mono ?_); (case side1 => exact (by repeat (first | exact HI0.out | apply bd_alloc | apply bd_drewN | apply bd_drew))); (case side2 => have := HBW.out.size; simp; omega); rintro e w1 ⟨rfl, hI1, hB1, hk1⟩; have hcb := hk1 w.heap.size _ (heap_alloc_new w _) hbn (by intro c_ fz_ h_; cases h_); have hz1c := (zX hcb 1).trans rfl; have HCB := zM hcb; have HI1 := zM (bd_str hI1); have HB1 : Aside0 (Below w0.heap.size w w1) := ⟨bd_tr (HB0.out.alloc hB.size _) hB1⟩; have HK1 := zM (wr_kept hk1); clear hI1 hB1 hk1 hcb)))
     go_loopg [2, 21] k (fun kq v2 v21 w' => ∃ (n i2 : Int) (l2 : List UInt8), v2 = .int .i64 i2 ∧ v21 = .int .i64 n ∧ Aside0 (wrL kq t (rd_T33 t i).f1 n i2 l2 = some x) ∧ Aside0 (kq ≤ k) ∧ Aside0 (IsBd w0.heap.size b l2 w') ∧ Aside0 (Below w0.heap.size w w') ∧ Aside0 (w'.heap[w.heap.size]? = some (.cells #[.string (rd_T33 t i).f0, .int .i64 (rd_T33 t i).f1] 33 (0, 0))) ∧ Aside0 (Lib.OthersKept 5 (some b) w w') ∧ Aside0 (0 ≤ n))
     case atStart => exact ⟨0, _, _, rfl, rfl, HX, ⟨Nat.le_refl _⟩, ⟨(by repeat (first | exact HI1.out | apply bd_alloc | apply bd_drewN | apply bd_drew))⟩, ⟨(by repeat (first | exact HB1.out | apply zN | apply zD | apply zA))⟩, HCB, HK1, ⟨Int.le_refl _⟩⟩
     case round =>
      clear HX hz1c HCB HI1 HB1 HK1
      obtain ⟨n, i2, l2, rfl, rfl, HA, HK1, HI2, HB2, HCB2, HK2, Hn⟩ := hrel
      cases gk with
      | zero => exact absurd HA.out (by simp [wrL])
      | succ k1 =>
       have hA := HA.out
       clear HA
       simp only [wrL] at hA
       have hz2c := (zX HCB2.out 1).trans rfl
       by_cases d1 : n < (rd_T33 t i).f1
       ·
        rw [if_pos d1] at hA
        have d1b : decide (n < (rd_T33 t i).f1) = true := zQ d1
        clear d1
        split at hA
        · next d8 =>
         split at hA
         · next d2 =>
          obtain ⟨y, hy, hA⟩ := zB hA
          have H' := zM hA
          clear hA
          have HKK := zM (show k1 < k + 1 by have := HK1.out; omega)
          have REC := fun (W : World) (hW : Below w0.heap.size w0 W) (h : IsBd w0.heap.size b (l2 ++ [if n = 0 then 40 else 44]) W) => ih k1 HKK.out b t (some ad) c i2 _ y w0 W HC.out hW h hy
          have hn := Hn.out
          have d9 : n = 0 ∨ n = 1 ∨ n = 2 ∨ n = 3 := by omega
          clear hn Hn d8
          rcases d9 with rfl | rfl | rfl | rfl
          ·
           simp only [if_true] at REC
           have H1 := zM (show wrL k1 t (rd_T33 t i).f1 1 y.2 y.1 = some x from by have h_ := H'.out; rwa [show wrap64 (0 + 1) = 1 from by unfold wrap64; omega] at h_)
           clear H'
           have H' := H1
           clear H1
           have BY := fun (W : World) (h : IsBd w0.heap.size b l2 W) (hs : w0.heap.size ≤ W.heap.size) => bd_write w0.heap.size b (Lib.byteCells l2) 40 W h hs (by rw [bd_len]; omega)
           go_wp2_with (first | (go_at_call 84; (refine (BY _ ?side1 ?side2).mono ?_); (case side1 => exact (by repeat (first | exact HI2.out | apply bd_alloc | apply bd_drewN | apply bd_drew))); (case side2 => exact Nat.le_trans hB.size ((by repeat (first | exact HB2.out | apply zN | apply zD | apply zA)) : Below w0.heap.size w _).size); rintro e w3 ⟨rfl, hI3, hB3, hk3⟩; have hcb3 := hk3 w.heap.size _ HCB2.out hbn (by intro c_ fz_ h_; cases h_); have hz3c := (zX hcb3 1).trans rfl; have HCB3 := zM hcb3; have HI3 := zM (bd_one (x := 40) hI3); have HB3 := zM (bd_tr (by repeat (first | exact HB2.out | apply zN | apply zD | apply zA)) hB3); have HK3 := zM (Lib.OthersKept.trans HK2.out hk3); clear hI3 hB3 hk3 hcb3) | (go_at_call 67; (refine (REC _ ?side1 ?side2).mono ?_); (case side1 => exact bd_tr HBW.out (by repeat (first | exact HB3.out | apply zN | apply zD | apply zA))); (case side2 => exact (by repeat (first | exact HI3.out | apply bd_alloc | apply bd_drewN | apply bd_drew))); rintro e w4 ⟨rfl, hI4, hB4, hk4⟩; have hcb4 := hk4 w.heap.size _ HCB3.out hbn (by intro c_ fz_ h_; cases h_); have HCB4 := zM hcb4; have HI4 := zM hI4; have HB4 := zM (bd_tr (by repeat (first | exact HB3.out | apply zN | apply zD | apply zA)) hB4); have HK4 := zM (Lib.OthersKept.trans HK3.out hk4); clear hI4 hB4 hk4 hcb4))
           repeat (go_quiet (first | (go_at_call 84; (refine (BY _ ?side1 ?side2).mono ?_); (case side1 => exact (by repeat (first | exact HI2.out | apply bd_alloc | apply bd_drewN | apply bd_drew))); (case side2 => exact Nat.le_trans hB.size ((by repeat (first | exact HB2.out | apply zN | apply zD | apply zA)) : Below w0.heap.size w _).size); rintro e w3 ⟨rfl, hI3, hB3, hk3⟩; have hcb3 := hk3 w.heap.size _ HCB2.out hbn (by intro c_ fz_ h_; cases h_); have hz3c := (zX hcb3 1).trans rfl; have HCB3 := zM hcb3; have HI3 := zM (bd_one (x := 40) hI3); have HB3 := zM (bd_tr (by repeat (first | exact HB2.out | apply zN | apply zD | apply zA)) hB3); have HK3 := zM (Lib.OthersKept.trans HK2.out hk3); clear hI3 hB3 hk3 hcb3) | (go_at_call 67; (refine (REC _ ?side1 ?side2).mono ?_); (case side1 => exact bd_tr HBW.out (by repeat (first | exact HB3.out | apply zN | apply zD | apply zA))); (case side2 => exact (by repeat (first | exact HI3.out | apply bd_alloc | apply bd_drewN | apply bd_drew))); rintro e w4 ⟨rfl, hI4, hB4, hk4⟩; have hcb4 := hk4 w.heap.size _ HCB3.out hbn (by intro c_ fz_ h_; cases h_); have HCB4 := zM hcb4; have HI4 := zM hI4; have HB4 := zM (bd_tr (by repeat (first | exact HB3.out | apply zN | apply zD | apply zA)) hB4); have HK4 := zM (Lib.OthersKept.trans HK3.out hk4); clear hI4 hB4 hk4 hcb4)); try go_wp2_with (first | (go_at_call 84; (refine (BY _ ?side1 ?side2).mono ?_); (case side1 => exact (by repeat (first | exact HI2.out | apply bd_alloc | apply bd_drewN | apply bd_drew))); (case side2 => exact Nat.le_trans hB.size ((by repeat (first | exact HB2.out | apply zN | apply zD | apply zA)) : Below w0.heap.size w _).size); rintro e w3 ⟨rfl, hI3, hB3, hk3⟩; have hcb3 := hk3 w.heap.size _ HCB2.out hbn (by intro c_ fz_ h_; cases h_); have hz3c := (zX hcb3 1).trans rfl; have HCB3 := zM hcb3; have HI3 := zM (bd_one (x := 40) hI3); have HB3 := zM (bd_tr (by repeat (first | exact HB2.out | apply zN | apply zD | apply zA)) hB3); have HK3 := zM (Lib.OthersKept.trans HK2.out hk3); clear hI3 hB3 hk3 hcb3) | (go_at_call 67; (refine (REC _ ?side1 ?side2).mono ?_); (case side1 => exact bd_tr HBW.out (by repeat (first | exact HB3.out | apply zN | apply zD | apply zA))); (case side2 => exact (by repeat (first | exact HI3.out | apply bd_alloc | apply bd_drewN | apply bd_drew))); rintro e w4 ⟨rfl, hI4, hB4, hk4⟩; have hcb4 := hk4 w.heap.size _ HCB3.out hbn (by intro c_ fz_ h_; cases h_); have HCB4 := zM hcb4; have HI4 := zM hI4; have HB4 := zM (bd_tr (by repeat (first | exact HB3.out | apply zN | apply zD | apply zA)) hB4); have HK4 := zM (Lib.OthersKept.trans HK3.out hk4); clear hI4 hB4 hk4 hcb4)))
           go_roundg k1
           case measure => have := HK1.out; omega
           case rel => exact ⟨_, y.2, y.1, rfl, rfl, H', ⟨by have := HK1.out; omega⟩, ⟨(by repeat (first | exact HI4.out | apply bd_alloc | apply bd_drewN | apply bd_drew))⟩, ⟨(by repeat (first | exact HB4.out | apply zN | apply zD | apply zA))⟩, HCB4, HK4, ⟨by decide⟩⟩
          ·
           simp only [if_neg (show ¬ (1 : Int) = 0 by decide)] at REC
           have H1 := zM (show wrL k1 t (rd_T33 t i).f1 2 y.2 y.1 = some x from by have h_ := H'.out; rwa [show wrap64 (1 + 1) = 2 from by unfold wrap64; omega] at h_)
           clear H'
           have H' := H1
           clear H1
           have BY := fun (W : World) (h : IsBd w0.heap.size b l2 W) (hs : w0.heap.size ≤ W.heap.size) => bd_write w0.heap.size b (Lib.byteCells l2) 44 W h hs (by rw [bd_len]; omega)
           go_wp2_with (first | (go_at_call 84; (refine (BY _ ?side1 ?side2).mono ?_); (case side1 => exact (by repeat (first | exact HI2.out | apply bd_alloc | apply bd_drewN | apply bd_drew))); (case side2 => exact Nat.le_trans hB.size ((by repeat (first | exact HB2.out | apply zN | apply zD | apply zA)) : Below w0.heap.size w _).size); rintro e w3 ⟨rfl, hI3, hB3, hk3⟩; have hcb3 := hk3 w.heap.size _ HCB2.out hbn (by intro c_ fz_ h_; cases h_); have hz3c := (zX hcb3 1).trans rfl; have HCB3 := zM hcb3; have HI3 := zM (bd_one (x := 44) hI3); have HB3 := zM (bd_tr (by repeat (first | exact HB2.out | apply zN | apply zD | apply zA)) hB3); have HK3 := zM (Lib.OthersKept.trans HK2.out hk3); clear hI3 hB3 hk3 hcb3) | (go_at_call 67; (refine (REC _ ?side1 ?side2).mono ?_); (case side1 => exact bd_tr HBW.out (by repeat (first | exact HB3.out | apply zN | apply zD | apply zA))); (case side2 => exact (by repeat (first | exact HI3.out | apply bd_alloc | apply bd_drewN | apply bd_drew))); rintro e w4 ⟨rfl, hI4, hB4, hk4⟩; have hcb4 := hk4 w.heap.size _ HCB3.out hbn (by intro c_ fz_ h_; cases h_); have HCB4 := zM hcb4; have HI4 := zM hI4; have HB4 := zM (bd_tr (by repeat (first | exact HB3.out | apply zN | apply zD | apply zA)) hB4); have HK4 := zM (Lib.OthersKept.trans HK3.out hk4); clear hI4 hB4 hk4 hcb4))
           repeat (go_quiet (first | (go_at_call 84; (refine (BY _ ?side1 ?side2).mono ?_); (case side1 => exact (by repeat (first | exact HI2.out | apply bd_alloc | apply bd_drewN | apply bd_drew))); (case side2 => exact Nat.le_trans hB.size ((by repeat (first | exact HB2.out | apply zN | apply zD | apply zA)) : Below w0.heap.size w _).size); rintro e w3 ⟨rfl, hI3, hB3, hk3⟩; have hcb3 := hk3 w.heap.size _ HCB2.out hbn (by intro c_ fz_ h_; cases h_); have hz3c := (zX hcb3 1).trans rfl; have HCB3 := zM hcb3; have HI3 := zM (bd_one (x := 44) hI3); have HB3 := zM (bd_tr (by repeat (first | exact HB2.out | apply zN | apply zD | apply zA)) hB3); have HK3 := zM (Lib.OthersKept.trans HK2.out hk3); clear hI3 hB3 hk3 hcb3) | (go_at_call 67; (refine (REC _ ?side1 ?side2).mono ?_); (case side1 => exact bd_tr HBW.out (by repeat (first | exact HB3.out | apply zN | apply zD | apply zA))); (case side2 => exact (by repeat (first | exact HI3.out | apply bd_alloc | apply bd_drewN | apply bd_drew))); rintro e w4 ⟨rfl, hI4, hB4, hk4⟩; have hcb4 := hk4 w.heap.size _ HCB3.out hbn (by intro c_ fz_ h_; cases h_); have HCB4 := zM hcb4; have HI4 := zM hI4; have HB4 := zM (bd_tr (by repeat (first | exact HB3.out | apply zN | apply zD | apply zA)) hB4); have HK4 := zM (Lib.OthersKept.trans HK3.out hk4); clear hI4 hB4 hk4 hcb4)); try go_wp2_with (first | (go_at_call 84; (refine (BY _ ?side1 ?side2).mono ?_); (case side1 => exact (by repeat (first | exact HI2.out | apply bd_alloc | apply bd_drewN | apply bd_drew))); (case side2 => exact Nat.le_trans hB.size ((by repeat (first | exact HB2.out | apply zN | apply zD | apply zA)) : Below w0.heap.size w _).size); rintro e w3 ⟨rfl, hI3, hB3, hk3⟩; have hcb3 := hk3 w.heap.size _ HCB2.out hbn (by intro c_ fz_ h_; cases h_); have hz3c := (zX hcb3 1).trans rfl; have HCB3 := zM hcb3; have HI3 := zM (bd_one (x := 44) hI3); have HB3 := zM (bd_tr (by repeat (first | exact HB2.out | apply zN | apply zD | apply zA)) hB3); have HK3 := zM (Lib.OthersKept.trans HK2.out hk3); clear hI3 hB3 hk3 hcb3) | (go_at_call 67; (refine (REC _ ?side1 ?side2).mono ?_); (case side1 => exact bd_tr HBW.out (by repeat (first | exact HB3.out | apply zN | apply zD | apply zA))); (case side2 => exact (by repeat (first | exact HI3.out | apply bd_alloc | apply bd_drewN | apply bd_drew))); rintro e w4 ⟨rfl, hI4, hB4, hk4⟩; have hcb4 := hk4 w.heap.size _ HCB3.out hbn (by intro c_ fz_ h_; cases h_); have HCB4 := zM hcb4; have HI4 := zM hI4; have HB4 := zM (bd_tr (by repeat (first | exact HB3.out | apply zN | apply zD | apply zA)) hB4); have HK4 := zM (Lib.OthersKept.trans HK3.out hk4); clear hI4 hB4 hk4 hcb4)))
           go_roundg k1
           case measure => have := HK1.out; omega
           case rel => exact ⟨_, y.2, y.1, rfl, rfl, H', ⟨by have := HK1.out; omega⟩, ⟨(by repeat (first | exact HI4.out | apply bd_alloc | apply bd_drewN | apply bd_drew))⟩, ⟨(by repeat (first | exact HB4.out | apply zN | apply zD | apply zA))⟩, HCB4, HK4, ⟨by decide⟩⟩
          ·
           simp only [if_neg (show ¬ (2 : Int) = 0 by decide)] at REC
           have H1 := zM (show wrL k1 t (rd_T33 t i).f1 3 y.2 y.1 = some x from by have h_ := H'.out; rwa [show wrap64 (2 + 1) = 3 from by unfold wrap64; omega] at h_)
           clear H'
           have H' := H1
           clear H1
           have BY := fun (W : World) (h : IsBd w0.heap.size b l2 W) (hs : w0.heap.size ≤ W.heap.size) => bd_write w0.heap.size b (Lib.byteCells l2) 44 W h hs (by rw [bd_len]; omega)
           go_wp2_with (first | (go_at_call 84; (refine (BY _ ?side1 ?side2).mono ?_); (case side1 => exact (by repeat (first | exact HI2.out | apply bd_alloc | apply bd_drewN | apply bd_drew))); (case side2 => exact Nat.le_trans hB.size ((by repeat (first | exact HB2.out | apply zN | apply zD | apply zA)) : Below w0.heap.size w _).size); rintro e w3 ⟨rfl, hI3, hB3, hk3⟩; have hcb3 := hk3 w.heap.size _ HCB2.out hbn (by intro c_ fz_ h_; cases h_); have hz3c := (zX hcb3 1).trans rfl; have HCB3 := zM hcb3; have HI3 := zM (bd_one (x := 44) hI3); have HB3 := zM (bd_tr (by repeat (first | exact HB2.out | apply zN | apply zD | apply zA)) hB3); have HK3 := zM (Lib.OthersKept.trans HK2.out hk3); clear hI3 hB3 hk3 hcb3) | (go_at_call 67; (refine (REC _ ?side1 ?side2).mono ?_); (case side1 => exact bd_tr HBW.out (by repeat (first | exact HB3.out | apply zN | apply zD | apply zA))); (case side2 => exact (by repeat (first | exact HI3.out | apply bd_alloc | apply bd_drewN | apply bd_drew))); rintro e w4 ⟨rfl, hI4, hB4, hk4⟩; have hcb4 := hk4 w.heap.size _ HCB3.out hbn (by intro c_ fz_ h_; cases h_); have HCB4 := zM hcb4; have HI4 := zM hI4; have HB4 := zM (bd_tr (by repeat (first | exact HB3.out | apply zN | apply zD | apply zA)) hB4); have HK4 := zM (Lib.OthersKept.trans HK3.out hk4); clear hI4 hB4 hk4 hcb4))
           repeat (go_quiet (first | (go_at_call 84; (refine (BY _ ?side1 ?side2).mono ?_); (case side1 => exact (by repeat (first | exact HI2.out | apply bd_alloc | apply bd_drewN | apply bd_drew))); (case side2 => exact Nat.le_trans hB.size ((by repeat (first | exact HB2.out | apply zN | apply zD | apply zA)) : Below w0.heap.size w _).size); rintro e w3 ⟨rfl, hI3, hB3, hk3⟩; have hcb3 := hk3 w.heap.size _ HCB2.out hbn (by intro c_ fz_ h_; cases h_); have hz3c := (zX hcb3 1).trans rfl; have HCB3 := zM hcb3; have HI3 := zM (bd_one (x := 44) hI3); have HB3 := zM (bd_tr (by repeat (first | exact HB2.out | apply zN | apply zD | apply zA)) hB3); have HK3 := zM (Lib.OthersKept.trans HK2.out hk3); clear hI3 hB3 hk3 hcb3) | (go_at_call 67; (refine (REC _ ?side1 ?side2).mono ?_); (case side1 => exact bd_tr HBW.out (by repeat (first | exact HB3.out | apply zN | apply zD | apply zA))); (case side2 => exact (by repeat (first | exact HI3.out | apply bd_alloc | apply bd_drewN | apply bd_drew))); rintro e w4 ⟨rfl, hI4, hB4, hk4⟩; have hcb4 := hk4 w.heap.size _ HCB3.out hbn (by intro c_ fz_ h_; cases h_); have HCB4 := zM hcb4; have HI4 := zM hI4; have HB4 := zM (bd_tr (by repeat (first | exact HB3.out | apply zN | apply zD | apply zA)) hB4); have HK4 := zM (Lib.OthersKept.trans HK3.out hk4); clear hI4 hB4 hk4 hcb4)); try go_wp2_with (first | (go_at_call 84; (refine (BY _ ?side1 ?side2).mono ?_); (case side1 => exact (by repeat (first | exact HI2.out | apply bd_alloc | apply bd_drewN | apply bd_drew))); (case side2 => exact Nat.le_trans hB.size ((by repeat (first | exact HB2.out | apply zN | apply zD | apply zA)) : Below w0.heap.size w _).size); rintro e w3 ⟨rfl, hI3, hB3, hk3⟩; have hcb3 := hk3 w.heap.size _ HCB2.out hbn (by intro c_ fz_ h_; cases h_); have hz3c := (zX hcb3 1).trans rfl; have HCB3 := zM hcb3; have HI3 := zM (bd_one (x := 44) hI3); have HB3 := zM (bd_tr (by repeat (first | exact HB2.out | apply zN | apply zD | apply zA)) hB3); have HK3 := zM (Lib.OthersKept.trans HK2.out hk3); clear hI3 hB3 hk3 hcb3) | (go_at_call 67; (refine (REC _ ?side1 ?side2).mono ?_); (case side1 => exact bd_tr HBW.out (by repeat (first | exact HB3.out | apply zN | apply zD | apply zA))); (case side2 => exact (by repeat (first | exact HI3.out | apply bd_alloc | apply bd_drewN | apply bd_drew))); rintro e w4 ⟨rfl, hI4, hB4, hk4⟩; have hcb4 := hk4 w.heap.size _ HCB3.out hbn (by intro c_ fz_ h_; cases h_); have HCB4 := zM hcb4; have HI4 := zM hI4; have HB4 := zM (bd_tr (by repeat (first | exact HB3.out | apply zN | apply zD | apply zA)) hB4); have HK4 := zM (Lib.OthersKept.trans HK3.out hk4); clear hI4 hB4 hk4 hcb4)))
           go_roundg k1
           case measure => have := HK1.out; omega
           case rel => exact ⟨_, y.2, y.1, rfl, rfl, H', ⟨by have := HK1.out; omega⟩, ⟨(by repeat (first | exact HI4.out | apply bd_alloc | apply bd_drewN | apply bd_drew))⟩, ⟨(by repeat (first | exact HB4.out | apply zN | apply zD | apply zA))⟩, HCB4, HK4, ⟨by decide⟩⟩
          ·
           simp only [if_neg (show ¬ (3 : Int) = 0 by decide)] at REC
           have H1 := zM (show wrL k1 t (rd_T33 t i).f1 4 y.2 y.1 = some x from by have h_ := H'.out; rwa [show wrap64 (3 + 1) = 4 from by unfold wrap64; omega] at h_)
           clear H'
           have H' := H1
           clear H1
           have BY := fun (W : World) (h : IsBd w0.heap.size b l2 W) (hs : w0.heap.size ≤ W.heap.size) => bd_write w0.heap.size b (Lib.byteCells l2) 44 W h hs (by rw [bd_len]; omega)
           go_wp2_with (first | (go_at_call 84; (refine (BY _ ?side1 ?side2).mono ?_); (case side1 => exact (by repeat (first | exact HI2.out | apply bd_alloc | apply bd_drewN | apply bd_drew))); (case side2 => exact Nat.le_trans hB.size ((by repeat (first | exact HB2.out | apply zN | apply zD | apply zA)) : Below w0.heap.size w _).size); rintro e w3 ⟨rfl, hI3, hB3, hk3⟩; have hcb3 := hk3 w.heap.size _ HCB2.out hbn (by intro c_ fz_ h_; cases h_); have hz3c := (zX hcb3 1).trans rfl; have HCB3 := zM hcb3; have HI3 := zM (bd_one (x := 44) hI3); have HB3 := zM (bd_tr (by repeat (first | exact HB2.out | apply zN | apply zD | apply zA)) hB3); have HK3 := zM (Lib.OthersKept.trans HK2.out hk3); clear hI3 hB3 hk3 hcb3) | (go_at_call 67; (refine (REC _ ?side1 ?side2).mono ?_); (case side1 => exact bd_tr HBW.out (by repeat (first | exact HB3.out | apply zN | apply zD | apply zA))); (case side2 => exact (by repeat (first | exact HI3.out | apply bd_alloc | apply bd_drewN | apply bd_drew))); rintro e w4 ⟨rfl, hI4, hB4, hk4⟩; have hcb4 := hk4 w.heap.size _ HCB3.out hbn (by intro c_ fz_ h_; cases h_); have HCB4 := zM hcb4; have HI4 := zM hI4; have HB4 := zM (bd_tr (by repeat (first | exact HB3.out | apply zN | apply zD | apply zA)) hB4); have HK4 := zM (Lib.OthersKept.trans HK3.out hk4); clear hI4 hB4 hk4 hcb4))
           repeat (go_quiet (first | (go_at_call 84; (refine (BY _ ?side1 ?side2).mono ?_); (case side1 => exact (by repeat (first | exact HI2.out | apply bd_alloc | apply bd_drewN | apply bd_drew))); (case side2 => exact Nat.le_trans hB.size ((by repeat (first | exact HB2.out | apply zN | apply zD | apply zA)) : Below w0.heap.size w _).size); rintro e w3 ⟨rfl, hI3, hB3, hk3⟩; have hcb3 := hk3 w.heap.size _ HCB2.out hbn (by intro c_ fz_ h_; cases h_); have hz3c := (zX hcb3 1).trans rfl; have HCB3 := zM hcb3; have HI3 := zM (bd_one (x := 44) hI3); have HB3 := zM (bd_tr (by repeat (first | exact HB2.out | apply zN | apply zD | apply zA)) hB3); have HK3 := zM (Lib.OthersKept.trans HK2.out hk3); clear hI3 hB3 hk3 hcb3) | (go_at_call 67; (refine (REC _ ?side1 ?side2).mono ?_); (case side1 => exact bd_tr HBW.out (by repeat (first | exact HB3.out | apply zN | apply zD | apply zA))); (case side2 => exact (by repeat (first | exact HI3.out | apply bd_alloc | apply bd_drewN | apply bd_drew))); rintro e w4 ⟨rfl, hI4, hB4, hk4⟩; have hcb4 := hk4 w.heap.size _ HCB3.out hbn (by intro c_ fz_ h_; cases h_); have HCB4 := zM hcb4; have HI4 := zM hI4; have HB4 := zM (bd_tr (by repeat (first | exact HB3.out | apply zN | apply zD | apply zA)) hB4); have HK4 := zM (Lib.OthersKept.trans HK3.out hk4); clear hI4 hB4 hk4 hcb4)); try go_wp2_with (first | (go_at_call 84; (refine (BY _ ?side1 ?side2).mono ?_); (case side1 => exact (by repeat (first | exact HI2.out | apply bd_alloc | apply bd_drewN | apply bd_drew))); (case side2 => exact Nat.le_trans hB.size ((by repeat (first | exact HB2.out | apply zN | apply zD | apply zA)) : Below w0.heap.size w _).size); rintro e w3 ⟨rfl, hI3, hB3, hk3⟩; have hcb3 := hk3 w.heap.size _ HCB2.out hbn (by intro c_ fz_ h_; cases h_); have hz3c := (zX hcb3 1).trans rfl; have HCB3 := zM hcb3; have HI3 := zM (bd_one (x := 44) hI3); have HB3 := zM (bd_tr (by repeat (first | exact HB2.out | apply zN | apply zD | apply zA)) hB3); have HK3 := zM (Lib.OthersKept.trans HK2.out hk3); clear hI3 hB3 hk3 hcb3) | (go_at_call 67; (refine (REC _ ?side1 ?side2).mono ?_); (case side1 => exact bd_tr HBW.out (by repeat (first | exact HB3.out | apply zN | apply zD | apply zA))); (case side2 => exact (by repeat (first | exact HI3.out | apply bd_alloc | apply bd_drewN | apply bd_drew))); rintro e w4 ⟨rfl, hI4, hB4, hk4⟩; have hcb4 := hk4 w.heap.size _ HCB3.out hbn (by intro c_ fz_ h_; cases h_); have HCB4 := zM hcb4; have HI4 := zM hI4; have HB4 := zM (bd_tr (by repeat (first | exact HB3.out | apply zN | apply zD | apply zA)) hB4); have HK4 := zM (Lib.OthersKept.trans HK3.out hk4); clear hI4 hB4 hk4 hcb4)))
           go_roundg k1
           case measure => have := HK1.out; omega
           case rel => exact ⟨_, y.2, y.1, rfl, rfl, H', ⟨by have := HK1.out; omega⟩, ⟨(by repeat (first | exact HI4.out | apply bd_alloc | apply bd_drewN | apply bd_drew))⟩, ⟨(by repeat (first | exact HB4.out | apply zN | apply zD | apply zA))⟩, HCB4, HK4, ⟨by decide⟩⟩
         ·
          cases hA
        ·
         cases hA
       ·
        rw [if_neg d1] at hA
        have d1b : decide (n < (rd_T33 t i).f1) = false := zR d1
        injection hA with hA
        subst hA
        have h := H.out
        simp only at h
        by_cases d6 : (rd_T33 t i).f1 > 0
        ·
         rw [if_pos d6] at h
         have d6b : decide ((rd_T33 t i).f1 > 0) = true := zQ d6
         clear d6 d1 H
         split at h
         · next d7 =>
          obtain rfl := zS h
          clear h
          have BY := fun (W : World) (h : IsBd w0.heap.size b l2 W) (hs : w0.heap.size ≤ W.heap.size) => bd_write w0.heap.size b (Lib.byteCells l2) 41 W h hs (by rw [bd_len]; omega)
          go_wp2_with (first | (go_at_call 84; (refine (BY _ ?side1 ?side2).mono ?_); (case side1 => exact (by repeat (first | exact HI2.out | apply bd_alloc | apply bd_drewN | apply bd_drew))); (case side2 => exact Nat.le_trans hB.size ((by repeat (first | exact HB2.out | apply zN | apply zD | apply zA)) : Below w0.heap.size w _).size); rintro e w3 ⟨rfl, hI3, hB3, hk3⟩; have hcb3 := hk3 w.heap.size _ HCB2.out hbn (by intro c_ fz_ h_; cases h_); have hz3c := (zX hcb3 1).trans rfl; have HCB3 := zM hcb3; have HI3 := zM (bd_one (x := 41) hI3); have HB3 := zM (bd_tr (by repeat (first | exact HB2.out | apply zN | apply zD | apply zA)) hB3); have HK3 := zM (Lib.OthersKept.trans HK2.out hk3); clear hI3 hB3 hk3 hcb3))
          repeat (go_quiet (first | (go_at_call 84; (refine (BY _ ?side1 ?side2).mono ?_); (case side1 => exact (by repeat (first | exact HI2.out | apply bd_alloc | apply bd_drewN | apply bd_drew))); (case side2 => exact Nat.le_trans hB.size ((by repeat (first | exact HB2.out | apply zN | apply zD | apply zA)) : Below w0.heap.size w _).size); rintro e w3 ⟨rfl, hI3, hB3, hk3⟩; have hcb3 := hk3 w.heap.size _ HCB2.out hbn (by intro c_ fz_ h_; cases h_); have hz3c := (zX hcb3 1).trans rfl; have HCB3 := zM hcb3; have HI3 := zM (bd_one (x := 41) hI3); have HB3 := zM (bd_tr (by repeat (first | exact HB2.out | apply zN | apply zD | apply zA)) hB3); have HK3 := zM (Lib.OthersKept.trans HK2.out hk3); clear hI3 hB3 hk3 hcb3)); try go_wp2_with (first | (go_at_call 84; (refine (BY _ ?side1 ?side2).mono ?_); (case side1 => exact (by repeat (first | exact HI2.out | apply bd_alloc | apply bd_drewN | apply bd_drew))); (case side2 => exact Nat.le_trans hB.size ((by repeat (first | exact HB2.out | apply zN | apply zD | apply zA)) : Below w0.heap.size w _).size); rintro e w3 ⟨rfl, hI3, hB3, hk3⟩; have hcb3 := hk3 w.heap.size _ HCB2.out hbn (by intro c_ fz_ h_; cases h_); have hz3c := (zX hcb3 1).trans rfl; have HCB3 := zM hcb3; have HI3 := zM (bd_one (x := 41) hI3); have HB3 := zM (bd_tr (by repeat (first | exact HB2.out | apply zN | apply zD | apply zA)) hB3); have HK3 := zM (Lib.OthersKept.trans HK2.out hk3); clear hI3 hB3 hk3 hcb3)))
          go_ret
          exact ⟨rfl, (by repeat (first | exact HI3.out | apply bd_alloc | apply bd_drewN | apply bd_drew)), (by repeat (first | exact HB3.out | apply zN | apply zD | apply zA)), HK3.out⟩
         ·
          cases h
        ·
         rw [if_neg d6] at h
         have d6b : decide ((rd_T33 t i).f1 > 0) = false := zR d6
         clear d6 d1 H
         obtain rfl := zS h
         clear h
         go_wp2_with (first | fail)
         repeat (go_quiet (first | fail); try go_wp2_with (first | fail))
         go_ret
         exact ⟨rfl, (by repeat (first | exact HI2.out | apply bd_alloc | apply bd_drewN | apply bd_drew)), (by repeat (first | exact HB2.out | apply zN | apply zD | apply zA)), HK2.out⟩
    ·
     cases h
   ·
    rw [if_neg c2] at h; cases h
  ·
   rw [if_neg c1] at h; cases h
theorem wr_all : ∀ k, WrC k := by
 intro k
 induction k using Nat.strongRecOn with
 | _ k ih => exact wr_step k ih
/-! ### Print -/
def printF (k : Nat) (t : List (S33)) : Option (ByteArray × Int) :=
 (term_Check.f k t).bind fun e => if e = 0 then ((wrT k t 0 []).bind fun x => if x.1 = [] then none else if x.1.length ≤ 4096 then some (⟨x.1.toArray⟩, 0) else none) else some (⟨#[]⟩, e)
theorem bd_new {w0 W : World} {b : Nat} (h : w0.heap.size ≤ W.heap.size) (hb : b = W.heap.size) : IsBd w0.heap.size b [] (W.alloc (.cells #[.pointer none, .slice none 0 0] 99)) := by
 subst hb
 exact .inl ⟨h, .slice none 0 0, heap_alloc_new W _, ⟨rfl, .inl ⟨rfl, rfl⟩⟩, by simp [Value.ownBlock]⟩
theorem print_calls (k : Nat) (A0 : Option Addr) (c0 : Nat) (l0 : List (S33)) (r1 : ByteArray) (r2 : Int) (w : World) (hr0 : Kd.C k33 w A0 l0.length l0) (hc0 : l0.length ≤ c0) (h : printF k l0 = some (r1, r2)) :
 Calls Tryd.prog 43 #[.slice A0 l0.length c0] w fun e w' => e = .returned (.tuple #[.string r1, .int .i64 r2]) ∧ Below w.heap.size w w' := by
 unfold printF at h
 obtain ⟨e0, he, h⟩ := zB h
 have C1 := fun (W : World) (hq : Kd.C k33 W A0 l0.length l0) => term_Check.calls k A0 c0 l0 e0 W hq hc0 he
 have HR := zM hr0
 clear he hr0
 by_cases c1 : e0 = 0
 ·
  rw [if_pos c1] at h
  have c1b : (e0 == 0) = true := zG c1
  have c1c : (e0 != 0) = false := zH c1
  clear c1
  obtain ⟨x, hx, h⟩ := zB h
  by_cases c2 : x.1 = []
  ·
   rw [if_pos c2] at h; cases h
  ·
   rw [if_neg c2] at h
   split at h
   · next c3 =>
    injection h with h
    injection h with h1 h2
    subst h1 h2
    have W1 := fun (b : Nat) (W : World) (hb : Below w.heap.size w W) (hq : IsBd w.heap.size b [] W) => (wr_all k) b l0 A0 c0 0 [] x w W HR.out hb hq hx
    have D1 := fun (b : Nat) (W : World) (hq : IsBd w.heap.size b x.1 W) => bd_done w.heap.size b x.1 W hq c2 c3
    clear hx c2 c3
    go_enter Tryd.func43, Tryd.ntmps43
    go_wp2_with (first | (go_at_call 30; (refine (C1 _ ?side1).mono ?_); (case side1 => repeat (first | exact HR.out | apply Kd.C_drewN | apply Kd.C_drew)); rintro e w1 ⟨rfl, hB1⟩; have HB1 := zM hB1; clear hB1) | (go_at_call 67; (refine (W1 _ _ ?side1 ?side2).mono ?_); (case side1 => exact HB1.out.alloc HB1.out.size _); (case side2 => exact bd_new HB1.out.size rfl); rintro e w2 ⟨rfl, hI2, hB2, hk2⟩; have HI2 := zM hI2; have HB2 : Aside0 (Below w.heap.size w w2) := ⟨bd_tr (HB1.out.alloc HB1.out.size _) hB2⟩; clear hI2 hB2 hk2) | (go_at_call 68; (refine (D1 _ _ ?side1).mono ?_); (case side1 => exact HI2.out); rintro e w3 ⟨rfl, hB3⟩; have HB3 : Aside0 (Below w.heap.size w w3) := ⟨bd_tr HB2.out hB3⟩; clear hB3))
    go_ret2
    exact ⟨rfl, HB3.out⟩
   ·
    cases h
 ·
  rw [if_neg c1] at h
  have c1b : (e0 == 0) = false := zE c1
  have c1c : (e0 != 0) = true := zF c1
  clear c1
  injection h with h
  injection h with h1 h2
  subst h1 h2
  go_enter Tryd.func43, Tryd.ntmps43
  go_wp2_with (first | (go_at_call 30; (refine (C1 _ ?side1).mono ?_); (case side1 => repeat (first | exact HR.out | apply Kd.C_drewN | apply Kd.C_drew)); rintro e w1 ⟨rfl, hB1⟩; have HB1 := zM hB1; clear hB1))
  go_ret2
  exact ⟨rfl, HB1.out⟩
theorem wr_mono : ∀ k, (∀ t i l, LeO (wrT k t i l) (wrT (k + 1) t i l)) ∧ (∀ t a n i l, LeO (wrL k t a n i l) (wrL (k + 1) t a n i l))
 | 0 => ⟨fun _ _ _ r h => by simp [wrT] at h, fun _ _ _ _ _ r h => by simp [wrL] at h⟩
 | k + 1 => by
  obtain ⟨ih0, ih1⟩ := wr_mono k
  refine ⟨fun t i l => ?_, fun t a n i l => ?_⟩
  ·
   unfold wrT
   exact LeO.ite (LeO.ite (LeO.ite (LeO.bind (ih1 _ _ _ _ _) fun _ => LeO.refl _) (LeO.none _)) (LeO.none _)) (LeO.none _)
  ·
   unfold wrL
   exact LeO.ite (LeO.ite (LeO.ite (LeO.bind (ih0 _ _ _) fun _ => ih1 _ _ _ _ _) (LeO.none _)) (LeO.none _)) (LeO.refl _)
def term_Print.f (k : Nat) (l0 : List (S33)) : Option (ByteArray × Int) := printF k l0
theorem term_Print.mono : ∀ a0 k, LeO (term_Print.f k a0) (term_Print.f (k + 1) a0) := by
 intro a0 k
 unfold term_Print.f printF
 exact LeO.bind (term_Check.mono _ _) fun e => LeO.ite (LeO.bind ((wr_mono k).1 _ _ _) fun _ => LeO.refl _) (LeO.refl _)
theorem term_Print.calls (k : Nat) (A0 : Option Addr) (c0 : Nat) (l0 : List (S33)) (r1 : ByteArray) (r2 : Int) (w : World) (hr0 : Kd.C k33 w A0 l0.length l0) (hc0 : l0.length ≤ c0) (h : term_Print.f k l0 = some (r1, r2)) :
 Calls Tryd.prog 43 #[.slice A0 l0.length c0] w fun e w' => e = .returned (.tuple #[.string r1, .int .i64 r2]) ∧ Below w.heap.size w w' := print_calls k A0 c0 l0 r1 r2 w hr0 hc0 h



-- ==== PF18

/-! ### rule_Print: function 18 -/
def rule_Print.f (k : Nat) (a0_0 : Int) (l0_1 : List (S33)) (l0_2 : List (S33)) : Option (ByteArray × Int) := (rule_Check.f k a0_0 l0_1 l0_2).bind fun t102 => (if t102 = 0 then ((term_Print.f k l0_1).bind fun bt103 => ((term_Print.f k l0_2).bind fun bt105 => (if bt103.1.size + 4 ≤ 9223372036854775807 then (if (bt103.1 ++ (⟨#[32, 45, 62, 32]⟩ : ByteArray)).size + bt105.1.size ≤ 9223372036854775807 then (some ((bt103.1 ++ (⟨#[32, 45, 62, 32]⟩ : ByteArray)) ++ bt105.1, 0)) else (none)) else (none)))) else (some ((⟨#[]⟩ : ByteArray), t102)))
theorem rule_Print.mono : ∀ a0 a1 a2 k, LeO (rule_Print.f k a0 a1 a2) (rule_Print.f (k + 1) a0 a1 a2) := by
 intro a0 a1 a2 k
 unfold rule_Print.f
 repeat' first
  | (with_reducible exact rule_Check.mono _ _ _ _)
  | (with_reducible exact term_Print.mono _ _)
  | (with_reducible exact LeO.refl _)
  | (with_reducible exact LeO.none _)
  | (with_reducible refine LeO.ite ?_ ?_)
  | (with_reducible refine LeO.bind ?_ (fun _ => ?_))
theorem rule_Print.calls (k : Nat) (a0_0 : Int) (A0_1 : Option Addr) (c0_1 : Nat) (l0_1 : List (S33)) (A0_2 : Option Addr) (c0_2 : Nat) (l0_2 : List (S33)) (r1 : ByteArray) (r2 : Int) (w : World) (hr0_1 : Kd.C k33 w A0_1 l0_1.length l0_1) (hc0_1 : l0_1.length ≤ c0_1) (hr0_2 : Kd.C k33 w A0_2 l0_2.length l0_2) (hc0_2 : l0_2.length ≤ c0_2) (h : rule_Print.f k a0_0 l0_1 l0_2 = some (r1, r2)) :
 Calls Tryd.prog 18 #[.agg #[.int .i64 a0_0, .slice A0_1 l0_1.length c0_1, .slice A0_2 l0_2.length c0_2]] w fun e w' => e = .returned (.tuple #[.string r1, .int .i64 r2]) ∧ Below w.heap.size w w' := by
 have hu25 := Tryd.underlying25
 have HR0_1 := zM hr0_1
 have HC0_1 := zM hc0_1
 clear hr0_1 hc0_1
 have HR0_2 := zM hr0_2
 have HC0_2 := zM hc0_2
 clear hr0_2 hc0_2
 have HB := zM (Below.refl w.heap.size w)
 have H : ((rule_Check.f k a0_0 l0_1 l0_2).bind fun t102 => (if t102 = 0 then ((term_Print.f k l0_1).bind fun bt103 => ((term_Print.f k l0_2).bind fun bt105 => (if bt103.1.size + 4 ≤ 9223372036854775807 then (if (bt103.1 ++ (⟨#[32, 45, 62, 32]⟩ : ByteArray)).size + bt105.1.size ≤ 9223372036854775807 then (some ((bt103.1 ++ (⟨#[32, 45, 62, 32]⟩ : ByteArray)) ++ bt105.1, 0)) else (none)) else (none)))) else (some ((⟨#[]⟩ : ByteArray), t102)))) = some (r1, r2) := h
 clear h
 replace H := zB H
 obtain ⟨t102, A20, H⟩ := H
 try dsimp only at H
 have A2 := zM A20
 clear A20
 by_cases c3 : t102 = 0
 ·
  rw [if_pos c3] at H
  have c3b0 : (t102 == 0) = true := zG c3
  have c3b1 : (t102 != 0) = false := zH c3
  clear c3
  replace H := zB H
  obtain ⟨⟨t103, t104⟩, A40, H⟩ := H
  try dsimp only at H
  have A4 := zM A40
  clear A40
  replace H := zB H
  obtain ⟨⟨t105, t106⟩, A50, H⟩ := H
  try dsimp only at H
  have A5 := zM A50
  clear A50
  by_cases c6 : t103.size + 4 ≤ 9223372036854775807
  ·
   rw [if_pos c6] at H
   have c6b0 := eq_true c6
   have c6b1 : decide (t103.size + 4 ≤ 9223372036854775807) = true := zQ c6
   try have c6b2 : (9223372036854775807 < t103.size + 4) = False := eq_false (Nat.not_lt.2 c6)
   by_cases c7 : (t103 ++ (⟨#[32, 45, 62, 32]⟩ : ByteArray)).size + t105.size ≤ 9223372036854775807
   ·
    rw [if_pos c7] at H
    have c7b0 := eq_true c7
    have c7b1 : decide ((t103 ++ (⟨#[32, 45, 62, 32]⟩ : ByteArray)).size + t105.size ≤ 9223372036854775807) = true := zQ c7
    try have c7b2 : (9223372036854775807 < (t103 ++ (⟨#[32, 45, 62, 32]⟩ : ByteArray)).size + t105.size) = False := eq_false (Nat.not_lt.2 c7)
    try have c7b3 : (9223372036854775807 < t103.size + 4 + t105.size) = False := eq_false (Nat.not_lt.2 (by have h_ := c7; rw [ByteArray.size_append] at h_; exact h_))
    simp only [Option.some.injEq, Prod.mk.injEq] at H
    obtain ⟨rfl, rfl⟩ := H
    go_enter Tryd.func18, Tryd.ntmps18
    go_wp2_with (first | ((with_reducible refine gate_dst (N := 1) rfl ?_); refine box_event ?hg (N := 1) ?hd (cs := #[.int .i64 a0_0, .slice A0_1 l0_1.length c0_1, .slice A0_2 l0_2.length c0_2]) (t := 25) ?hr ?_; (case hd => rfl); (case hg => rfl); (case hr => first | (go_simp; done) | (go_simp; rfl)); intro gb101 hg w8 hbox hb; have BK101 := zM (hbox); have GW101 := zM (zh hg : w.heap.size ≤ gb101); have GE101 := zM (zh hg : w.heap.size ≤ gb101); replace HB := zM (below_step zb hb); clear hb hbox hg; have hcz9_0 : w8.cell? ⟨gb101, 0, none⟩ = some (.int .i64 a0_0) := (zX BK101.out 0).trans rfl; have hcz9_1 : w8.cell? ⟨gb101, 1, none⟩ = some (.slice A0_1 l0_1.length c0_1) := (zX BK101.out 1).trans rfl; have hcz9_2 : w8.cell? ⟨gb101, 2, none⟩ = some (.slice A0_2 l0_2.length c0_2) := (zX BK101.out 2).trans rfl; have hfz9_0 := zY BK101.out 0; have hfz9_1 := zY BK101.out 1; have hfz9_2 := zY BK101.out 2) | ((with_reducible refine gate_callee (f := 11) rfl ?_); refine goesL_ (some 10) rfl rfl Tryd.func11 (by kernel_rfl) rfl #[.agg #[.int .i64 a0_0, .slice A0_1 l0_1.length c0_1, .slice A0_2 l0_2.length c0_2]] rfl zl ?_; (with_reducible refine (rule_Check.calls k a0_0 _ _ l0_1 _ _ l0_2 t102 _ ?side1 ?side2 ?side3 ?side4 A2.out).mono ?_); (case side1 => exact Kd.C_below HR0_1.out zb); (case side2 => exact HC0_1.out); (case side3 => exact Kd.C_below HR0_2.out zb); (case side4 => exact HC0_2.out); rintro e w10 ⟨rfl, hb⟩; refine ⟨_, rfl, ?_⟩; replace BK101 := zM (blk_below (zk BK101.out) hb); replace HB := zM (below_step zb hb); (try clear hb); have hcz11_0 : w10.cell? ⟨gb101, 0, none⟩ = some (.int .i64 a0_0) := (zX BK101.out 0).trans rfl; have hcz11_1 : w10.cell? ⟨gb101, 1, none⟩ = some (.slice A0_1 l0_1.length c0_1) := (zX BK101.out 1).trans rfl; have hcz11_2 : w10.cell? ⟨gb101, 2, none⟩ = some (.slice A0_2 l0_2.length c0_2) := (zX BK101.out 2).trans rfl; have hfz11_0 := zY BK101.out 0; have hfz11_1 := zY BK101.out 1; have hfz11_2 := zY BK101.out 2) | ((with_reducible refine gate_callee (f := 43) rfl ?_); refine goesL_ (some 17) rfl rfl Tryd.func43 (by kernel_rfl) rfl #[.slice A0_1 l0_1.length c0_1] rfl zl ?_; (with_reducible refine (term_Print.calls k _ _ l0_1 t103 t104 _ ?side1 ?side2 A4.out).mono ?_); (case side1 => exact Kd.C_below HR0_1.out zb); (case side2 => exact HC0_1.out); rintro e w12 ⟨rfl, hb⟩; refine ⟨_, rfl, ?_⟩; replace BK101 := zM (blk_below (zk BK101.out) hb); replace HB := zM (below_step zb hb); (try clear hb); have hcz13_0 : w12.cell? ⟨gb101, 0, none⟩ = some (.int .i64 a0_0) := (zX BK101.out 0).trans rfl; have hcz13_1 : w12.cell? ⟨gb101, 1, none⟩ = some (.slice A0_1 l0_1.length c0_1) := (zX BK101.out 1).trans rfl; have hcz13_2 : w12.cell? ⟨gb101, 2, none⟩ = some (.slice A0_2 l0_2.length c0_2) := (zX BK101.out 2).trans rfl; have hfz13_0 := zY BK101.out 0; have hfz13_1 := zY BK101.out 1; have hfz13_2 := zY BK101.out 2) | ((with_reducible refine gate_callee (f := 43) rfl ?_); refine goesL_ (some 23) rfl rfl Tryd.func43 (by kernel_rfl) rfl #[.slice A0_2 l0_2.length c0_2] rfl zl ?_; (with_reducible refine (term_Print.calls k _ _ l0_2 t105 t106 _ ?side1 ?side2 A5.out).mono ?_); (case side1 => exact Kd.C_below HR0_2.out zb); (case side2 => exact HC0_2.out); rintro e w14 ⟨rfl, hb⟩; refine ⟨_, rfl, ?_⟩; replace BK101 := zM (blk_below (zk BK101.out) hb); replace HB := zM (below_step zb hb); (try clear hb)))
    go_ret2
    exact ⟨zw, zb⟩
   ·
    rw [if_neg c7] at H
    exact absurd H (by simp)
  ·
   rw [if_neg c6] at H
   exact absurd H (by simp)
 ·
  rw [if_neg c3] at H
  have c3b0 : (t102 == 0) = false := zE c3
  have c3b1 : (t102 != 0) = true := zF c3
  simp only [Option.some.injEq, Prod.mk.injEq] at H
  obtain ⟨rfl, rfl⟩ := H
  go_enter Tryd.func18, Tryd.ntmps18
  go_wp2_with (first | ((with_reducible refine gate_dst (N := 1) rfl ?_); refine box_event ?hg (N := 1) ?hd (cs := #[.int .i64 a0_0, .slice A0_1 l0_1.length c0_1, .slice A0_2 l0_2.length c0_2]) (t := 25) ?hr ?_; (case hd => rfl); (case hg => rfl); (case hr => first | (go_simp; done) | (go_simp; rfl)); intro gb101 hg w15 hbox hb; have BK101 := zM (hbox); have GW101 := zM (zh hg : w.heap.size ≤ gb101); have GE101 := zM (zh hg : w.heap.size ≤ gb101); replace HB := zM (below_step zb hb); clear hb hbox hg; have hcz16_0 : w15.cell? ⟨gb101, 0, none⟩ = some (.int .i64 a0_0) := (zX BK101.out 0).trans rfl; have hcz16_1 : w15.cell? ⟨gb101, 1, none⟩ = some (.slice A0_1 l0_1.length c0_1) := (zX BK101.out 1).trans rfl; have hcz16_2 : w15.cell? ⟨gb101, 2, none⟩ = some (.slice A0_2 l0_2.length c0_2) := (zX BK101.out 2).trans rfl; have hfz16_0 := zY BK101.out 0; have hfz16_1 := zY BK101.out 1; have hfz16_2 := zY BK101.out 2) | ((with_reducible refine gate_callee (f := 11) rfl ?_); refine goesL_ (some 10) rfl rfl Tryd.func11 (by kernel_rfl) rfl #[.agg #[.int .i64 a0_0, .slice A0_1 l0_1.length c0_1, .slice A0_2 l0_2.length c0_2]] rfl zl ?_; (with_reducible refine (rule_Check.calls k a0_0 _ _ l0_1 _ _ l0_2 t102 _ ?side1 ?side2 ?side3 ?side4 A2.out).mono ?_); (case side1 => exact Kd.C_below HR0_1.out zb); (case side2 => exact HC0_1.out); (case side3 => exact Kd.C_below HR0_2.out zb); (case side4 => exact HC0_2.out); rintro e w17 ⟨rfl, hb⟩; refine ⟨_, rfl, ?_⟩; replace BK101 := zM (blk_below (zk BK101.out) hb); replace HB := zM (below_step zb hb); (try clear hb)))
  go_ret2
  exact ⟨zw, zb⟩


-- ==== PF19

/-! ### rule_Plain: function 19 -/
def itB (j : Int) : ByteArray := ⟨#[UInt8.ofNat (48 + j.toNat)]⟩
theorem ito_calls (j : Int) (h0 : 0 ≤ j) (h1 : j < 8) (w : World) : Calls Tryd.prog 48 #[.int .i64 j] w fun e w' => e = .returned (.string (itB j)) ∧ w' = w := by
 have h : j = 0 ∨ j = 1 ∨ j = 2 ∨ j = 3 ∨ j = 4 ∨ j = 5 ∨ j = 6 ∨ j = 7 := by omega
 clear h0 h1
 rcases h with rfl | rfl | rfl | rfl | rfl | rfl | rfl | rfl
 all_goals
  go_enter Tryd.func48, Tryd.ntmps48
  go_wp2
  go_ret
  exact ⟨rfl, rfl⟩
/-- A term whose variables are called by their places. -/
def plL (k : Nat) (vars : List ByteArray) : List CkC → Option (List CkC)
 | [] => some []
 | c :: u => (slices_Index_string_string.f k vars c.f0).bind fun j => if j ≥ 0 then (if j < 8 then (plL k vars u).bind fun q => some (⟨(⟨#[88]⟩ : ByteArray) ++ itB j, c.f1⟩ :: q) else none) else (plL k vars u).bind fun q => some (c :: q)
def plF (k : Nat) (vars : List ByteArray) (t : List CkC) : Option (List CkC) := if t.length < 5864062014805 then plL k vars t else none
theorem pl1_calls {w : World} {p cv k c0 : Nat} {Av A0 : Option Addr} {vars : List ByteArray} {t fin : List CkC} (hv : IsVl w p Av cv vars) (hr : Kd.C k33 w A0 t.length t) (hc : t.length ≤ c0) (h : plF k vars t = some fin) :
 Calls Tryd.prog 45 #[.slice A0 t.length c0, .pointer (some ⟨p, 0, none⟩)] w fun e w' => ∃ v : Value, e = .returned v ∧ Kd.R k33 33 w' w.heap.size (fun _ => True) v fin ∧ Below w.heap.size w w' := by
 unfold plF at h
 by_cases hlen : t.length < 5864062014805
 case neg => rw [if_neg hlen] at h; cases h
 rw [if_pos hlen] at h
 have hcl : api_Cell_46.f t = some t := by
  unfold api_Cell_46.f
  rw [if_pos (by simpa using hlen)]
  rfl
 have C1 := api_Cell_46.calls A0 c0 t t w hr hc hcl
 have HV := zM hv
 have HP := zM h
 have HM := zM (show (t.length : Int) ≤ 9223372036854775807 by omega)
 clear hr hc h hcl hv hlen
 go_enter Tryd.func45, Tryd.ntmps45
 go_wp2_with (first | (go_at_call 46; (with_reducible refine C1.mono ?_); rintro e w1 ⟨v1, rfl, hR, hb⟩; obtain ⟨Ao, co, rfl⟩ := Kd.R_slice hR; have HO := zM hR; have HB := zM hb; clear hR hb))
 go_loopg [12] t.length (fun kq v12 w' => ∃ (x : Int) (cur done rest : List CkC), v12 = .int .i64 x ∧ Aside0 (0 ≤ x ∧ x + kq = (t.length : Int)) ∧ Aside0 (cur = done ++ t.drop x.toNat ∧ done.length = x.toNat) ∧ Aside0 (plL k vars (t.drop x.toNat) = some rest ∧ done ++ rest = fin) ∧ Aside0 (Kd.R k33 33 w' w.heap.size (fun _ => True) (.slice Ao t.length co) cur) ∧ Aside0 (Below w.heap.size w w'))
 case atStart => exact ⟨0, t, [], fin, rfl, ⟨by omega⟩, ⟨⟨rfl, rfl⟩⟩, ⟨⟨HP.out, rfl⟩⟩, HO, HB⟩
 case round =>
  clear HO HB HP
  obtain ⟨x, cur, done, rest, rfl, HI, HC, HP, HO, HB⟩ := hrel
  cases gk with
  | succ k1 =>
   have hi : 0 ≤ x ∧ x < (t.length : Int) := by have := HI.out; omega
   have hcur := (Kd.R_reads' HO.out).1
   obtain ⟨g, cap, eg, hge, hgl, _⟩ := Kd.R_form HO.out (by omega)
   injection eg with ea el ec
   clear el
   subst ea ec
   obtain ⟨ce, hcl, hMM, hcc, hfr⟩ := Kd.R_elem HO.out z33 x hi.1 hi.2
   obtain rfl := k33_openM hMM
   obtain ⟨c, hc⟩ : ∃ c, c = cur.getD x.toNat z33 := ⟨_, rfl⟩
   have hx0 : wr.cell? ⟨g, x.toNat * 2, none⟩ = some (.string c.f0) := by rw [hc]; exact hcc 0 _ rfl
   have hx1 : wr.cell? ⟨g, x.toNat * 2 + 1, none⟩ = some (.int .i64 c.f1) := by rw [hc]; exact hcc 1 _ rfl
   have hf0 : wr.frozen? ⟨g, x.toNat * 2, none⟩ = false := hfr 0
   have hd : t.drop x.toNat = c :: t.drop (x.toNat + 1) := by
    have h1 : x.toNat < t.length := by omega
    rw [List.drop_eq_getElem_cons h1]
    congr 1
    rw [hc, HC.out.1, List.getD_eq_getElem?_getD, List.getElem?_append_right (by have := HC.out.2; omega)]
    have := HC.out.2
    simp [this, h1]
   have HD := zM hd
   have hp := HP.out.1
   rw [hd] at hp
   unfold plL at hp
   obtain ⟨j, hj, hp⟩ := zB hp
   have I1 := fun (W : World) (hW : Below w.heap.size w W) => slices_Index_string_string.calls k Av cv vars c.f0 j W (HV.out.below hW).hl HV.out.hc hj
   have hvc : wr.cell? ⟨p, 0, none⟩ = some (.slice Av vars.length cv) := (zX (HV.out.below HB.out).blk 0).trans rfl
   have hvp : p < wr.heap.size := blk_lt (HV.out.below HB.out).blk
   have hgw := HB.out.size
   have HGW := zM (show w.heap.size ≤ g ∧ g < wr.heap.size from ⟨hge, hgl⟩)
   have HX := zM hi
   have HCC := zM hc
   have hpp := eq_true hi.1
   have hqq := eq_true hi.2
   have hb0 : decide (x < (t.length : Int)) = true := zQ hi.2
   clear hcl hMM hcc hfr hd hj hc hcur hi hgw hge
   by_cases hj0 : j ≥ 0
   ·
    rw [if_pos hj0] at hp
    have dj : decide (0 ≤ j) = true := zQ hj0
    by_cases hj8 : j < 8
    case neg => rw [if_neg hj8] at hp; cases hp
    rw [if_pos hj8] at hp
    obtain ⟨q, hq, hp⟩ := zB hp
    have HQ := zM (show plL k vars (t.drop (x.toNat + 1)) = some q from hq)
    have HRE := zM (zS hp)
    have T1 := fun (W : World) => ito_calls j hj0 hj8 W
    clear hp hq hj0 hj8
    go_wp2_with (first | (go_at_call 47; (with_reducible refine (I1 _ ?side1).mono ?_); (case side1 => exact zb); rintro e w2 ⟨rfl, ⟨nd, rfl⟩⟩) | (go_at_call 48; (with_reducible refine (T1 _).mono ?_); rintro e w3 ⟨rfl, rfl⟩))
    go_roundg k1
    case measure => have := HI.out; omega
    case rel => exact ⟨x + 1, cur.set x.toNat ⟨(⟨#[88]⟩ : ByteArray) ++ itB j, c.f1⟩, done ++ [⟨(⟨#[88]⟩ : ByteArray) ++ itB j, c.f1⟩], q, by have e_ : wrap64 (x + 1) = x + 1 := (by have := HX.out; have := HM.out; unfold wrap64; omega); first | rfl | rw [e_] | (simp [e_]; done), ⟨by have := HI.out; omega⟩,
     ⟨by rw [show (x + 1).toNat = x.toNat + 1 by have := HX.out; omega]; refine ⟨?_, by simp [HC.out.2]⟩; rw [HC.out.1, HD.out, List.set_append_right _ _ (by have := HC.out.2; omega), HC.out.2, Nat.sub_self]; simp⟩,
     ⟨by rw [show (x + 1).toNat = x.toNat + 1 by have := HX.out; omega]; refine ⟨HQ.out, ?_⟩; rw [← HP.out.2, ← HRE.out]; simp⟩,
     ⟨by
      have HO2 := Kd.R_drewN (Kd.R_alloc HO.out (.cells #[.string c.f0, .int .i64 c.f1] 33)) nd
      obtain ⟨ce, hcl, hMM, hcc, hfr⟩ := Kd.R_elem HO2 z33 x HX.out.1 HX.out.2
      obtain rfl := k33_openM hMM
      exact (Kd.R_seg (okp := fun _ => False) HO2 x HX.out.1 HX.out.2 (seg := [.string ((⟨#[88]⟩ : ByteArray) ++ itB j)]) (j := 0) hcl hcc (show 1 ≤ 2 from by decide) (x' := (⟨(⟨#[88]⟩ : ByteArray) ++ itB j, c.f1⟩ : CkC)) (by rw [HCC.out]; exact k33_mkM _ _ (fun _ => False) (⟨(⟨#[88]⟩ : ByteArray) ++ itB j, (cur.getD x.toNat z33).f1⟩ : CkC)) (fun _ hk => hk.elim)).1⟩,
     ⟨by refine below_set ?_ HGW.out.1; repeat (first | exact HB.out | apply zA | apply zN | apply zD)⟩⟩
   ·
    rw [if_neg hj0] at hp
    have dj : decide (0 ≤ j) = false := zR hj0
    obtain ⟨q, hq, hp⟩ := zB hp
    have HQ := zM (show plL k vars (t.drop (x.toNat + 1)) = some q from hq)
    have HRE := zM (zS hp)
    clear hp hq hj0
    go_wp2_with (first | (go_at_call 47; (with_reducible refine (I1 _ ?side1).mono ?_); (case side1 => exact zb); rintro e w2 ⟨rfl, ⟨nd, rfl⟩⟩))
    go_roundg k1
    case measure => have := HI.out; omega
    case rel => exact ⟨x + 1, cur, done ++ [c], q, by have e_ : wrap64 (x + 1) = x + 1 := (by have := HX.out; have := HM.out; unfold wrap64; omega); first | rfl | rw [e_] | (simp [e_]; done), ⟨by have := HI.out; omega⟩,
     ⟨by rw [show (x + 1).toNat = x.toNat + 1 by have := HX.out; omega]; refine ⟨?_, by simp [HC.out.2]⟩; rw [HC.out.1, HD.out]; simp⟩,
     ⟨by rw [show (x + 1).toNat = x.toNat + 1 by have := HX.out; omega]; refine ⟨HQ.out, ?_⟩; rw [← HP.out.2, ← HRE.out]; simp⟩,
     ⟨by (repeat (first | exact HO.out | apply Kd.R_alloc | apply Kd.R_drewN | apply Kd.R_drew))⟩, ⟨by repeat (first | exact HB.out | apply zA | apply zN | apply zD)⟩⟩
  | zero =>
   have hb0 : decide (x < (t.length : Int)) = false := zR (by have := HI.out; omega)
   go_wp2
   go_ret
   have e1 : t.drop x.toNat = [] := List.drop_eq_nil_of_le (by have := HI.out; omega)
   have h1 := HC.out.1
   have h2 := HP.out
   rw [e1] at h1 h2
   have h3 : rest = [] := (zS h2.1).symm
   have h4 : cur = fin := by rw [h1, ← h2.2, h3]
   rw [h4] at HO
   exact ⟨_, rfl, HO.out, HB.out⟩
def plainF (k : Nat) (id : Int) (l r : List CkC) : Option (Int × List CkC × List CkC × Int) :=
 (rule_Check.f k id l r).bind fun e => if e = 0 then ((term_Vars.f k l).bind fun a => (plF k a.1 l).bind fun x => (plF k a.1 r).bind fun y => some (id, x, y, 0)) else some (0, [], [], e)
def pnW (w : World) (id : Int) (A1 : Option Addr) (c1 : Nat) (l : List CkC) (A2 : Option Addr) (c2 : Nat) (r : List CkC) : World := (w.alloc (.cells #[.int .i64 id, .slice A1 l.length c1, .slice A2 r.length c2] 25)).alloc (.cells #[.int .i64 0, .slice none 0 0, .slice none 0 0] 25)
theorem pn_facts (w : World) (id : Int) (A1 : Option Addr) (c1 : Nat) (l : List CkC) (A2 : Option Addr) (c2 : Nat) (r : List CkC) :
 (pnW w id A1 c1 l A2 c2 r).heap.size = w.heap.size + 2 ∧ (pnW w id A1 c1 l A2 c2 r).heap[w.heap.size]? = some (.cells #[.int .i64 id, .slice A1 l.length c1, .slice A2 r.length c2] 25 (0, 0)) ∧
 (pnW w id A1 c1 l A2 c2 r).heap[w.heap.size + 1]? = some (.cells #[.int .i64 0, .slice none 0 0, .slice none 0 0] 25 (0, 0)) ∧ Below w.heap.size w (pnW w id A1 c1 l A2 c2 r) := by
 have h1 := heap_alloc_new (w.alloc (.cells #[.int .i64 id, .slice A1 l.length c1, .slice A2 r.length c2] 25)) (.cells #[.int .i64 0, .slice none 0 0, .slice none 0 0] 25)
 have hs : (w.alloc (.cells #[.int .i64 id, .slice A1 l.length c1, .slice A2 r.length c2] 25)).heap.size = w.heap.size + 1 := by simp
 rw [hs] at h1
 refine ⟨by simp [pnW], ?_, h1, zA (zA (Below.refl _ _) _) _⟩
 exact (Below.heap_alloc _ _ w.heap.size (by simp)).trans (heap_alloc_new w _)
/-- What stands behind a call that keeps what was there. -/
theorem pn_kept {w w1 : World} {id : Int} {A1 A2 : Option Addr} {c1 c2 : Nat} {l r : List CkC} (hb : Below (pnW w id A1 c1 l A2 c2 r).heap.size (pnW w id A1 c1 l A2 c2 r) w1) :
 w.heap.size + 2 ≤ w1.heap.size ∧ w1.heap[w.heap.size]? = some (.cells #[.int .i64 id, .slice A1 l.length c1, .slice A2 r.length c2] 25 (0, 0)) ∧
 w1.heap[w.heap.size + 1]? = some (.cells #[.int .i64 0, .slice none 0 0, .slice none 0 0] 25 (0, 0)) ∧ Below w.heap.size w w1 := by
 obtain ⟨h1, h2, h3, h4⟩ := pn_facts w id A1 c1 l A2 c2 r
 have hs := hb.size
 exact ⟨by omega, (hb.block _ (by omega)).trans h2, (hb.block _ (by omega)).trans h3, below_step h4 hb⟩
theorem plain_calls (k : Nat) (id : Int) (A1 : Option Addr) (c1 : Nat) (l : List CkC) (A2 : Option Addr) (c2 : Nat) (r : List CkC) (r1 : Int) (r2 r3 : List CkC) (r4 : Int) (w : World) (hl : Kd.C k33 w A1 l.length l) (hl' : l.length ≤ c1) (hr : Kd.C k33 w A2 r.length r) (hr' : r.length ≤ c2) (h : plainF k id l r = some (r1, r2, r3, r4)) :
 Calls Tryd.prog 19 #[.agg #[.int .i64 id, .slice A1 l.length c1, .slice A2 r.length c2]] w fun e w' => ∃ v1_ v2_ : Value, e = .returned (.tuple #[.agg #[.int .i64 r1, v1_, v2_], .int .i64 r4]) ∧ Kd.R k33 33 w' w.heap.size (fun k_ => some k_ ≠ (v2_ : Value).ownBlock) v1_ r2 ∧ Kd.R k33 33 w' w.heap.size (fun k_ => some k_ ≠ (v1_ : Value).ownBlock) v2_ r3 ∧ Below w.heap.size w w' := by
 unfold plainF at h
 obtain ⟨e0, he, h⟩ := zB h
 have K1 := fun (W : World) (hW : Below w.heap.size w W) => rule_Check.calls k id A1 c1 l A2 c2 r e0 W (Kd.C_below hl hW) hl' (Kd.C_below hr hW) hr' he
 have HL := zM hl
 have HR := zM hr
 have hmf : ∀ (fn : Fn) (first cap : Array Value) (w : World), (Instr.makeFunc fn first cap).run Tryd.prog w = .ok (.func fn first cap) w := fun _ _ _ _ => rfl
 have HB := zM (Below.refl w.heap.size w)
 clear he hl hr
 by_cases c0 : e0 = 0
 case neg =>
  rw [if_neg c0] at h
  simp only [Option.some.injEq, Prod.mk.injEq] at h
  obtain ⟨rfl, rfl, rfl, rfl⟩ := h
  have d0 : (e0 != 0) = true := zF c0
  clear c0 hmf
  go_enter Tryd.func19, Tryd.ntmps19
  go_wp2_with (first | (go_at_call 11; (with_reducible refine (K1 _ ?side1).mono ?_); (case side1 => exact zb); rintro e w1 ⟨rfl, hb⟩; obtain ⟨hz, hz0, hz1, hB⟩ := pn_kept hb; have hq0 : w1.cell? ⟨w.heap.size + 1, 0, none⟩ = some (.int .i64 0) := (zX hz1 0).trans rfl; have hq1 : w1.cell? ⟨w.heap.size + 1, 1, none⟩ = some (.slice none 0 0) := (zX hz1 1).trans rfl; have hq2 : w1.cell? ⟨w.heap.size + 1, 2, none⟩ = some (.slice none 0 0) := (zX hz1 2).trans rfl; have hf0 := zY hz1 0; have hf1 := zY hz1 1; have hf2 := zY hz1 2; have HZ := zM (And.intro hz (And.intro hz0 hz1)); clear HB hb hz hz0 hz1; have HB := zM hB; clear hB))
  refine bodyPost_ret (results_ct rfl _ _ (w.heap.size + 1) 25 #[.int .i64 0, .slice none 0 0, .slice none 0 0] (0, 0) _ rfl (by refine blk_put (cs := #[.int .i64 0, .slice none 0 0, .slice none 0 0]) ?_ 2 _ rfl; refine blk_put (cs := #[.int .i64 0, .slice none 0 0, .slice none 0 0]) ?_ 1 _ rfl; refine blk_put (cs := #[.int .i64 0, .slice none 0 0, .slice none 0 0]) ?_ 0 _ rfl; exact HZ.out.2.2) Tryd.underlying25 rfl (by kernel_rfl)) rfl ?_
  exact ⟨_, _, rfl, Kd.R_nil _ _ _ _ _, Kd.R_nil _ _ _ _ _, by repeat (first | exact HB.out | (refine below_set ?_ (by omega)))⟩
 case pos =>
  subst c0
  rw [if_pos rfl] at h
  obtain ⟨⟨vl, q1⟩, hv, h⟩ := zB h
  obtain ⟨x, hx, h⟩ := zB h
  obtain ⟨y, hy, h⟩ := zB h
  simp only [Option.some.injEq, Prod.mk.injEq] at h
  obtain ⟨rfl, rfl, rfl, rfl⟩ := h
  have V1 := fun (W : World) (hW : Below w.heap.size w W) => term_Vars.calls k A1 c1 l vl q1 W (Kd.C_below HL.out hW) hl' hv
  have HX := zM hx
  have HY := zM hy
  clear hv hx hy
  go_enter Tryd.func19, Tryd.ntmps19
  go_wp2_with (first | (go_at_call 11; (with_reducible refine (K1 _ ?side1).mono ?_); (case side1 => exact zb); rintro e w1 ⟨rfl, hb⟩; obtain ⟨hz, hz0, hz1, hB⟩ := pn_kept hb; have hq0 : w1.cell? ⟨w.heap.size, 0, none⟩ = some (.int .i64 id) := (zX hz0 0).trans rfl; have hq1 : w1.cell? ⟨w.heap.size, 1, none⟩ = some (.slice A1 l.length c1) := (zX hz0 1).trans rfl; have hq2 : w1.cell? ⟨w.heap.size, 2, none⟩ = some (.slice A2 r.length c2) := (zX hz0 2).trans rfl; have HZ := zM (And.intro hz (And.intro hz0 hz1)); clear HB hb hz hz0 hz1; have HB := zM hB; clear hB) | (go_at_call 44; (with_reducible refine (V1 _ ?side2).mono ?_); (case side2 => exact zb); rintro e w2 ⟨vv, rfl, hR, hb⟩; obtain ⟨Av, cv, rfl⟩ := Kd.R_slice hR; have HRV := zM (Kd.R_reads' hR).2; have HZ2 := zM (And.intro (show w.heap.size + 2 ≤ w2.heap.size from by have := hb.size; have := HZ.out.1; omega) (And.intro ((hb.block _ (by have := HZ.out.1; omega)).trans HZ.out.2.1) ((hb.block _ (by have := HZ.out.1; omega)).trans HZ.out.2.2))); replace HB := zM (below_step HB.out hb); clear hR hb hq0 hq1 hq2; have hz2 : w.heap.size + 1 < w2.heap.size := (by have := HZ2.out.1; omega)))
  have hbx := heap_alloc_new w2 (.cells #[.slice Av vl.length cv] 58)
  obtain ⟨W5, hW5⟩ : ∃ W5, W5 = w2.alloc (.cells #[.slice Av vl.length cv] 58) := ⟨_, rfl⟩
  have hB5 : Below w2.heap.size w2 W5 := by rw [hW5]; exact zA (Below.refl _ _) _
  have HIV := zM (show IsVl W5 w2.heap.size Av cv vl from ⟨by rw [hW5]; exact hbx, Kd.C_below HRV.out.2 hB5, HRV.out.1⟩)
  have HK0 := zM ((hB5.block _ (by have := HZ2.out.1; omega)).trans HZ2.out.2.1)
  have HK1 := zM ((hB5.block _ (by have := HZ2.out.1; omega)).trans HZ2.out.2.2)
  have HB5 := zM (below_step HB.out hB5)
  have P1 := fun (W : World) (hW : Below W5.heap.size W5 W) => pl1_calls (w := W) (c0 := c1) (A0 := A1) (HIV.out.below hW) (Kd.C_below HL.out (below_step HB5.out hW)) hl' HX.out
  have P2 := fun (W : World) (hW : Below W5.heap.size W5 W) => pl1_calls (w := W) (c0 := c2) (A0 := A2) (HIV.out.below hW) (Kd.C_below HR.out (below_step HB5.out hW)) hr' HY.out
  have hc0 : W5.cell? ⟨w.heap.size, 0, none⟩ = some (.int .i64 id) := (zX HK0.out 0).trans rfl
  have hc1 : W5.cell? ⟨w.heap.size, 1, none⟩ = some (.slice A1 l.length c1) := (zX HK0.out 1).trans rfl
  have hc2 : W5.cell? ⟨w.heap.size, 2, none⟩ = some (.slice A2 r.length c2) := (zX HK0.out 2).trans rfl
  have HBW := zM (Below.refl W5.heap.size W5)
  have HC0 := zM hc0
  have HC1 := zM hc1
  have HC2 := zM hc2
  rw [← hW5]
  have HW5 := zM hW5
  have HLT := zM (show w.heap.size + 1 < W5.heap.size from blk_lt HK1.out)
  clear hW5 hB5 hbx hz2
  go_region_held3 (fun w' => w'.cell? ⟨w.heap.size, 0, none⟩ = some (.int .i64 id) ∧ w'.cell? ⟨w.heap.size, 1, none⟩ = some (.slice A1 l.length c1) ∧ w'.cell? ⟨w.heap.size, 2, none⟩ = some (.slice A2 r.length c2)) (first | go_keep | (go_split_ands; refine ⟨?_, ?_, ?_⟩ <;> assumption)) (first | (go_at_call 45; (with_reducible refine (P1 _ ?side3).mono ?_); (case side3 => exact (by repeat (first | exact HBW.out | apply zN | apply zD))); rintro e w3 ⟨v1, rfl, hR, hb⟩; obtain ⟨Ax, cx, rfl⟩ := Kd.R_slice hR; have HR1 := zM (Kd.R_lower hR (Nat.le_trans HB5.out.size (show W5.heap.size ≤ _ from (by repeat (first | exact HBW.out | apply zN | apply zD) : Below W5.heap.size W5 _).size))); replace HBW := zM (below_step (by repeat (first | exact HBW.out | apply zN | apply zD)) hb); clear hR hb; have hd0 := pw_cell_below HBW.out HC0.out; have hd1 := pw_cell_below HBW.out HC1.out; have hd2 := pw_cell_below HBW.out HC2.out) | (go_at_call 45; (with_reducible refine (P2 _ ?side4).mono ?_); (case side4 => exact (by repeat (first | exact HBW.out | apply zN | apply zD))); rintro e w4 ⟨v2, rfl, hR, hb⟩; obtain ⟨Ay, cy, rfl⟩ := Kd.R_slice hR; have HR2 := zM (Kd.R_lower (Kd.R_new' hR (Kd.R_lt (by (repeat (first | exact HR1.out | apply Kd.R_drewN | apply Kd.R_drew))))) (Nat.le_trans HB5.out.size (show W5.heap.size ≤ _ from (by repeat (first | exact HBW.out | apply zN | apply zD) : Below W5.heap.size W5 _).size))); have HR1b := zM (Kd.R_elder' (by (repeat (first | exact HR1.out | apply Kd.R_drewN | apply Kd.R_drew))) (Kd.R_base hR) hb); replace HBW := zM (below_step (by repeat (first | exact HBW.out | apply zN | apply zD)) hb); clear hR hb; have hd0 := pw_cell_below HBW.out HC0.out; have hd1 := pw_cell_below HBW.out HC1.out; have hd2 := pw_cell_below HBW.out HC2.out; have hk_ := (HBW.out.block (w.heap.size + 1) HLT.out).trans HK1.out; have HK4 := zM hk_; have he0 : w4.cell? ⟨w.heap.size + 1, 0, none⟩ = some (.int .i64 0) := (zX hk_ 0).trans rfl; have he1 : w4.cell? ⟨w.heap.size + 1, 1, none⟩ = some (.slice none 0 0) := (zX hk_ 1).trans rfl; have he2 : w4.cell? ⟨w.heap.size + 1, 2, none⟩ = some (.slice none 0 0) := (zX hk_ 2).trans rfl; have hg0 := zY hk_ 0; have hg1 := zY hk_ 1; have hg2 := zY hk_ 2; clear hk_))
  go_wp2
  refine bodyPost_ret (results_ct rfl _ _ (w.heap.size + 1) 25 #[.int .i64 id, .slice Ax x.length cx, .slice Ay y.length cy] (0, 0) _ rfl (by refine blk_put (cs := #[.int .i64 id, .slice Ax x.length cx, .slice none 0 0]) ?_ 2 _ rfl; refine blk_put (cs := #[.int .i64 id, .slice none 0 0, .slice none 0 0]) ?_ 1 _ rfl; refine blk_put (cs := #[.int .i64 0, .slice none 0 0, .slice none 0 0]) ?_ 0 _ rfl; exact HK4.out) Tryd.underlying25 rfl (by kernel_rfl)) rfl ?_
  exact ⟨_, _, rfl, Kd.R_mono (Kd.R_far (p := ⟨w.heap.size + 1, 2, none⟩) (Kd.R_far (p := ⟨w.heap.size + 1, 1, none⟩) (Kd.R_far (p := ⟨w.heap.size + 1, 0, none⟩) (Kd.R_types HR1b.out HK4.out (by decide)) (fun _ hk => hk.2) _) (fun _ hk => hk.2) _) (fun _ hk => hk.2) _) (fun _ hk => hk.1.2), Kd.R_mono (Kd.R_far (p := ⟨w.heap.size + 1, 2, none⟩) (Kd.R_far (p := ⟨w.heap.size + 1, 1, none⟩) (Kd.R_far (p := ⟨w.heap.size + 1, 0, none⟩) (Kd.R_types HR2.out HK4.out (by decide)) (fun _ hk => hk.2) _) (fun _ hk => hk.2) _) (fun _ hk => hk.2) _) (fun _ hk => hk.1.2), by
   have h_ := below_step HB5.out HBW.out
   repeat (first | exact h_ | (refine below_set ?_ (by omega)))⟩
theorem plL_mono (vars : List ByteArray) (k : Nat) : ∀ t, LeO (plL k vars t) (plL (k + 1) vars t)
 | [] => LeO.refl _
 | c :: u => by
  unfold plL
  exact LeO.bind (slices_Index_string_string.mono _ _ _) fun j => LeO.ite (LeO.ite (LeO.bind (plL_mono vars k u) fun _ => LeO.refl _) (LeO.refl _)) (LeO.bind (plL_mono vars k u) fun _ => LeO.refl _)
def rule_Plain.f (k : Nat) (a0_0 : Int) (l0_1 : List (S33)) (l0_2 : List (S33)) : Option (Int × (List (S33)) × (List (S33)) × Int) := plainF k a0_0 l0_1 l0_2
theorem rule_Plain.mono : ∀ a0 a1 a2 k, LeO (rule_Plain.f k a0 a1 a2) (rule_Plain.f (k + 1) a0 a1 a2) := by
 intro a0 a1 a2 k
 unfold rule_Plain.f plainF
 refine LeO.bind (rule_Check.mono _ _ _ _) fun _ => LeO.ite (LeO.bind (term_Vars.mono _ _) fun _ => LeO.bind ?_ fun _ => LeO.bind ?_ fun _ => LeO.refl _) (LeO.refl _)
 ·
  unfold plF; exact LeO.ite (plL_mono _ _ _) (LeO.refl _)
 ·
  unfold plF; exact LeO.ite (plL_mono _ _ _) (LeO.refl _)
theorem rule_Plain.calls (k : Nat) (a0_0 : Int) (A0_1 : Option Addr) (c0_1 : Nat) (l0_1 : List (S33)) (A0_2 : Option Addr) (c0_2 : Nat) (l0_2 : List (S33)) (r1 : Int) (r2 : List (S33)) (r3 : List (S33)) (r4 : Int) (w : World) (hr0_1 : Kd.C k33 w A0_1 l0_1.length l0_1) (hc0_1 : l0_1.length ≤ c0_1) (hr0_2 : Kd.C k33 w A0_2 l0_2.length l0_2) (hc0_2 : l0_2.length ≤ c0_2) (h : rule_Plain.f k a0_0 l0_1 l0_2 = some (r1, r2, r3, r4)) :
 Calls Tryd.prog 19 #[.agg #[.int .i64 a0_0, .slice A0_1 l0_1.length c0_1, .slice A0_2 l0_2.length c0_2]] w fun e w' => ∃ v1_ v2_ : Value, e = .returned (.tuple #[.agg #[.int .i64 r1, v1_, v2_], .int .i64 r4]) ∧ Kd.R k33 33 w' w.heap.size (fun k_ => some k_ ≠ (v2_ : Value).ownBlock) v1_ r2 ∧ Kd.R k33 33 w' w.heap.size (fun k_ => some k_ ≠ (v1_ : Value).ownBlock) v2_ r3 ∧ Below w.heap.size w w' := plain_calls k a0_0 A0_1 c0_1 l0_1 A0_2 c0_2 l0_2 r1 r2 r3 r4 w hr0_1 hc0_1 hr0_2 hc0_2 h



-- ==== PF10

/-! ### aumbrylaw06_wakes: function 10 -/
def aumbrylaw06_wakes.f (k : Nat)  : Option (Bool) := (rule_Parse.f k (⟨#[103, 40, 66, 44, 65, 41]⟩ : ByteArray) (⟨#[65]⟩ : ByteArray)).bind fun bt101 => ((rule_Plain.f k bt101.1 bt101.2.1 bt101.2.2.1).bind fun bt110 => ((rule_Print.f k bt110.1 bt110.2.1 bt110.2.2.1).bind fun bt119 => ((rule_Parse.f k (⟨#[88]⟩ : ByteArray) (⟨#[97]⟩ : ByteArray)).bind fun bt121 => (if bt101.2.2.2 = 0 then (if bt110.2.2.2 = 0 then (if bt119.2 = 0 then (if bt119.1.toList = ([103, 40, 88, 48, 44, 88, 49, 41, 32, 45, 62, 32, 88, 49] : List UInt8) then ((rule_Head.f k bt101.1 bt101.2.1 bt101.2.2.1).bind fun t130 => (if t130.toList = ([103] : List UInt8) then (some (bt121.2.2.2 == 20)) else (some false))) else (some false)) else (some false)) else (some false)) else (some false)))))
theorem aumbrylaw06_wakes.mono : ∀ k, LeO (aumbrylaw06_wakes.f k ) (aumbrylaw06_wakes.f (k + 1) ) := by
 intro  k
 unfold aumbrylaw06_wakes.f
 repeat' first
  | (with_reducible exact rule_Head.mono _ _ _ _)
  | (with_reducible exact rule_Parse.mono _ _ _)
  | (with_reducible exact rule_Plain.mono _ _ _ _)
  | (with_reducible exact rule_Print.mono _ _ _ _)
  | (with_reducible exact LeO.refl _)
  | (with_reducible exact LeO.none _)
  | (with_reducible refine LeO.ite ?_ ?_)
  | (with_reducible refine LeO.bind ?_ (fun _ => ?_))
theorem aumbrylaw06_wakes.ev_true : Ev (fun k => aumbrylaw06_wakes.f k) true := Ev.of (g := fun k => aumbrylaw06_wakes.f k) aumbrylaw06_wakes.mono (k := 40) (by kernel_rfl)
theorem aumbrylaw06_wakes.is_true (k : Nat) (r : Bool) (h : aumbrylaw06_wakes.f k = some r) : r = true := by
 obtain ⟨K1, h1⟩ := Ev.of (g := fun k => aumbrylaw06_wakes.f k) aumbrylaw06_wakes.mono h
 obtain ⟨K2, h2⟩ := aumbrylaw06_wakes.ev_true
 exact zS ((h1 (max K1 K2) (Nat.le_max_left _ _)).symm.trans (h2 _ (Nat.le_max_right _ _)))
theorem aumbrylaw06_wakes.calls (k : Nat)  (r : Bool) (w : World) (h : aumbrylaw06_wakes.f k  = some r) :
 Calls Tryd.prog 10 #[] w fun e w' => e = .returned (.bool r) ∧ Below w.heap.size w w' := by
 have HRT := zM (aumbrylaw06_wakes.is_true k r h)
 have hu25 := Tryd.underlying25
 have HB := zM (Below.refl w.heap.size w)
 have H : ((rule_Parse.f k (⟨#[103, 40, 66, 44, 65, 41]⟩ : ByteArray) (⟨#[65]⟩ : ByteArray)).bind fun bt101 => ((rule_Plain.f k bt101.1 bt101.2.1 bt101.2.2.1).bind fun bt110 => ((rule_Print.f k bt110.1 bt110.2.1 bt110.2.2.1).bind fun bt119 => ((rule_Parse.f k (⟨#[88]⟩ : ByteArray) (⟨#[97]⟩ : ByteArray)).bind fun bt121 => (if bt101.2.2.2 = 0 then (if bt110.2.2.2 = 0 then (if bt119.2 = 0 then (if bt119.1.toList = ([103, 40, 88, 48, 44, 88, 49, 41, 32, 45, 62, 32, 88, 49] : List UInt8) then ((rule_Head.f k bt101.1 bt101.2.1 bt101.2.2.1).bind fun t130 => (if t130.toList = ([103] : List UInt8) then (some (bt121.2.2.2 == 20)) else (some false))) else (some false)) else (some false)) else (some false)) else (some false)))))) = some r := h
 clear h
 replace H := zB H
 obtain ⟨⟨t101, t102, t105, t108⟩, A10, H⟩ := H
 try dsimp only at H
 have A1 := zM A10
 clear A10
 replace H := zB H
 obtain ⟨⟨t110, t111, t114, t117⟩, A20, H⟩ := H
 try dsimp only at H
 have A2 := zM A20
 clear A20
 replace H := zB H
 obtain ⟨⟨t119, t120⟩, A30, H⟩ := H
 try dsimp only at H
 have A3 := zM A30
 clear A30
 replace H := zB H
 obtain ⟨⟨t121, t122, t125, t128⟩, A40, H⟩ := H
 try dsimp only at H
 have A4 := zM A40
 clear A40
 by_cases c5 : t108 = 0
 ·
  rw [if_pos c5] at H
  have c5b0 : (t108 == 0) = true := zG c5
  have c5b1 : (t108 != 0) = false := zH c5
  clear c5
  by_cases c6 : t117 = 0
  ·
   rw [if_pos c6] at H
   have c6b0 : (t117 == 0) = true := zG c6
   have c6b1 : (t117 != 0) = false := zH c6
   clear c6
   by_cases c7 : t120 = 0
   ·
    rw [if_pos c7] at H
    have c7b0 : (t120 == 0) = true := zG c7
    have c7b1 : (t120 != 0) = false := zH c7
    clear c7
    by_cases c8 : t119.toList = ([103, 40, 88, 48, 44, 88, 49, 41, 32, 45, 62, 32, 88, 49] : List UInt8)
    ·
     rw [if_pos c8] at H
     have c8b0 : (t119.toList == ([103, 40, 88, 48, 44, 88, 49, 41, 32, 45, 62, 32, 88, 49] : List UInt8)) = true := zG c8
     have c8b1 : (t119.toList != ([103, 40, 88, 48, 44, 88, 49, 41, 32, 45, 62, 32, 88, 49] : List UInt8)) = false := zH c8
     clear c8
     replace H := zB H
     obtain ⟨t130, A90, H⟩ := H
     try dsimp only at H
     have A9 := zM A90
     clear A90
     by_cases c10 : t130.toList = ([103] : List UInt8)
     ·
      rw [if_pos c10] at H
      have c10b0 : (t130.toList == ([103] : List UInt8)) = true := zG c10
      have c10b1 : (t130.toList != ([103] : List UInt8)) = false := zH c10
      clear c10
      obtain rfl := zS H
      go_enter Tryd.func10, Tryd.ntmps10
      go_wp2_with (first | ((with_reducible refine gate_callee (f := 15) rfl ?_); refine goesL_ (some 10) rfl rfl Tryd.func15 (by kernel_rfl) rfl #[.string (⟨#[103, 40, 66, 44, 65, 41]⟩ : ByteArray), .string (⟨#[65]⟩ : ByteArray)] rfl zl ?_; (with_reducible refine (rule_Parse.calls k (⟨#[103, 40, 66, 44, 65, 41]⟩ : ByteArray) (⟨#[65]⟩ : ByteArray) t101 t102 t105 t108 _ A1.out).mono ?_); rintro e w11 ⟨v103, v106, rfl, ho0, ho1, hb⟩; refine ⟨_, rfl, ?_⟩; have HO104 := zM (Kd.R_lower ho0 (below_size zb)); have HO107 := zM (Kd.R_lower ho1 (below_size zb)); replace HB := zM (below_step zb hb); (try clear hb); (try clear ho0); (try clear ho1)) | ((with_reducible refine gate_dst (N := 1) rfl ?_); refine box_event ?hg (N := 1) ?hd (cs := #[.int .i64 0, .slice none 0 0, .slice none 0 0]) (t := 25) ?hr ?_; (case hd => rfl); (case hg => rfl); (case hr => first | (go_simp; done) | (go_simp; rfl)); intro gb109 hg w12 hbox hb; replace HO104 := zM (Kd.R_below (zr HO104.out) hb); replace HO107 := zM (Kd.R_below (zr HO107.out) hb); have BK109 := zM (hbox); have GW109 := zM (zh hg : w.heap.size ≤ gb109); have GE109 := zM (zh hg : w.heap.size ≤ gb109); replace HB := zM (below_step zb hb); clear hb hbox hg; have hcz13_0 : w12.cell? ⟨gb109, 0, none⟩ = some (.int .i64 0) := (zX BK109.out 0).trans rfl; have hcz13_1 : w12.cell? ⟨gb109, 1, none⟩ = some (.slice none 0 0) := (zX BK109.out 1).trans rfl; have hcz13_2 : w12.cell? ⟨gb109, 2, none⟩ = some (.slice none 0 0) := (zX BK109.out 2).trans rfl; have hfz13_0 := zY BK109.out 0; have hfz13_1 := zY BK109.out 1; have hfz13_2 := zY BK109.out 2; obtain ⟨Ao14, co14, eo14⟩ := Kd.R_slice HO104.out; subst eo14; obtain ⟨Ao15, co15, eo15⟩ := Kd.R_slice HO107.out; subst eo15) | ((with_reducible refine gate_callee (f := 19) rfl ?_); refine goesL_ (some 15) rfl rfl Tryd.func19 (by kernel_rfl) rfl #[.agg #[.int .i64 t101, .slice Ao14 t102.length co14, .slice Ao15 t105.length co15]] rfl zl ?_; (with_reducible refine (rule_Plain.calls k t101 _ _ t102 _ _ t105 t110 t111 t114 t117 _ ?side1 ?side2 ?side3 ?side4 A2.out).mono ?_); (case side1 => refine (Kd.R_reads' (e := 33) (base := w.heap.size) (ok := fun k_ => some k_ ≠ (.slice Ao15 t105.length co15 : Value).ownBlock) (n := t102.length) (c := co14) ?_).2.2; exact (by (with_reducible repeat (first | apply Kd.R_alloc | apply Kd.R_drewN | apply Kd.R_drew)); exact (Kd.R_mono (Kd.R_far (p := ⟨gb109, 2, none⟩) (Kd.R_far (p := ⟨gb109, 1, none⟩) (Kd.R_far (p := ⟨gb109, 0, none⟩) (Kd.R_types HO104.out BK109.out (by decide)) (fun _ hk => hk.2) (.int .i64 t101)) (fun _ hk => hk.2) (.slice Ao14 t102.length co14)) (fun _ hk => hk.2) (.slice Ao15 t105.length co15)) (fun _ h_ => h_.1)))); (case side2 => exact (Kd.R_reads' HO104.out).2.1); (case side3 => refine (Kd.R_reads' (e := 33) (base := w.heap.size) (ok := fun k_ => some k_ ≠ (.slice Ao14 t102.length co14 : Value).ownBlock) (n := t105.length) (c := co15) ?_).2.2; exact (by (with_reducible repeat (first | apply Kd.R_alloc | apply Kd.R_drewN | apply Kd.R_drew)); exact (Kd.R_mono (Kd.R_far (p := ⟨gb109, 2, none⟩) (Kd.R_far (p := ⟨gb109, 1, none⟩) (Kd.R_far (p := ⟨gb109, 0, none⟩) (Kd.R_types HO107.out BK109.out (by decide)) (fun _ hk => hk.2) (.int .i64 t101)) (fun _ hk => hk.2) (.slice Ao14 t102.length co14)) (fun _ hk => hk.2) (.slice Ao15 t105.length co15)) (fun _ h_ => h_.1)))); (case side4 => exact (Kd.R_reads' HO107.out).2.1); rintro e w16 ⟨v112, v115, rfl, ho0, ho1, hb⟩; refine ⟨_, rfl, ?_⟩; have HO113 := zM (Kd.R_lower (Kd.R_new' (Kd.R_new' ho0 (Kd.R_lt (by (with_reducible repeat (first | apply Kd.R_alloc | apply Kd.R_drewN | apply Kd.R_drew)); exact (Kd.R_mono (Kd.R_far (p := ⟨gb109, 2, none⟩) (Kd.R_far (p := ⟨gb109, 1, none⟩) (Kd.R_far (p := ⟨gb109, 0, none⟩) (Kd.R_types HO104.out BK109.out (by decide)) (fun _ hk => hk.2) (.int .i64 t101)) (fun _ hk => hk.2) (.slice Ao14 t102.length co14)) (fun _ hk => hk.2) (.slice Ao15 t105.length co15)) (fun _ h_ => h_.1))))) (Kd.R_lt (by (with_reducible repeat (first | apply Kd.R_alloc | apply Kd.R_drewN | apply Kd.R_drew)); exact (Kd.R_mono (Kd.R_far (p := ⟨gb109, 2, none⟩) (Kd.R_far (p := ⟨gb109, 1, none⟩) (Kd.R_far (p := ⟨gb109, 0, none⟩) (Kd.R_types HO107.out BK109.out (by decide)) (fun _ hk => hk.2) (.int .i64 t101)) (fun _ hk => hk.2) (.slice Ao14 t102.length co14)) (fun _ hk => hk.2) (.slice Ao15 t105.length co15)) (fun _ h_ => h_.1))))) (below_size zb)); have HO116 := zM (Kd.R_lower (Kd.R_new' (Kd.R_new' ho1 (Kd.R_lt (by (with_reducible repeat (first | apply Kd.R_alloc | apply Kd.R_drewN | apply Kd.R_drew)); exact (Kd.R_mono (Kd.R_far (p := ⟨gb109, 2, none⟩) (Kd.R_far (p := ⟨gb109, 1, none⟩) (Kd.R_far (p := ⟨gb109, 0, none⟩) (Kd.R_types HO104.out BK109.out (by decide)) (fun _ hk => hk.2) (.int .i64 t101)) (fun _ hk => hk.2) (.slice Ao14 t102.length co14)) (fun _ hk => hk.2) (.slice Ao15 t105.length co15)) (fun _ h_ => h_.1))))) (Kd.R_lt (by (with_reducible repeat (first | apply Kd.R_alloc | apply Kd.R_drewN | apply Kd.R_drew)); exact (Kd.R_mono (Kd.R_far (p := ⟨gb109, 2, none⟩) (Kd.R_far (p := ⟨gb109, 1, none⟩) (Kd.R_far (p := ⟨gb109, 0, none⟩) (Kd.R_types HO107.out BK109.out (by decide)) (fun _ hk => hk.2) (.int .i64 t101)) (fun _ hk => hk.2) (.slice Ao14 t102.length co14)) (fun _ hk => hk.2) (.slice Ao15 t105.length co15)) (fun _ h_ => h_.1))))) (below_size zb)); replace HO104 := zM (Kd.R_mono (Kd.R_told (Kd.R_told (Kd.R_old (by (with_reducible repeat (first | apply Kd.R_alloc | apply Kd.R_drewN | apply Kd.R_drew)); exact (Kd.R_mono (Kd.R_far (p := ⟨gb109, 2, none⟩) (Kd.R_far (p := ⟨gb109, 1, none⟩) (Kd.R_far (p := ⟨gb109, 0, none⟩) (Kd.R_types HO104.out BK109.out (by decide)) (fun _ hk => hk.2) (.int .i64 t101)) (fun _ hk => hk.2) (.slice Ao14 t102.length co14)) (fun _ hk => hk.2) (.slice Ao15 t105.length co15)) (fun _ h_ => h_.1))) hb) (Kd.R_base ho0)) (Kd.R_base ho1)) (fun _ h_ => h_.1)); replace HO107 := zM (Kd.R_mono (Kd.R_told (Kd.R_told (Kd.R_old (by (with_reducible repeat (first | apply Kd.R_alloc | apply Kd.R_drewN | apply Kd.R_drew)); exact (Kd.R_mono (Kd.R_far (p := ⟨gb109, 2, none⟩) (Kd.R_far (p := ⟨gb109, 1, none⟩) (Kd.R_far (p := ⟨gb109, 0, none⟩) (Kd.R_types HO107.out BK109.out (by decide)) (fun _ hk => hk.2) (.int .i64 t101)) (fun _ hk => hk.2) (.slice Ao14 t102.length co14)) (fun _ hk => hk.2) (.slice Ao15 t105.length co15)) (fun _ h_ => h_.1))) hb) (Kd.R_base ho0)) (Kd.R_base ho1)) (fun _ h_ => h_.1)); replace BK109 := zM (blk_below (g := gb109) (o := .cells #[.int .i64 t101, .slice Ao14 t102.length co14, .slice Ao15 t105.length co15] 25 (0, 0)) (by refine zk ?_; refine blk_put (cs := #[.int .i64 t101, .slice Ao14 t102.length co14, .slice none 0 0]) ?_ 2 _ rfl; refine zk ?_; refine blk_put (cs := #[.int .i64 t101, .slice none 0 0, .slice none 0 0]) ?_ 1 _ rfl; refine zk ?_; refine blk_put (cs := #[.int .i64 0, .slice none 0 0, .slice none 0 0]) ?_ 0 _ rfl; refine zk ?_; exact BK109.out) hb); replace HB := zM (below_step zb hb); (try clear hb); (try clear ho0); (try clear ho1)) | ((with_reducible refine gate_dst (N := 3) rfl ?_); refine box_event ?hg (N := 3) ?hd (cs := #[.int .i64 0, .slice none 0 0, .slice none 0 0]) (t := 25) ?hr ?_; (case hd => rfl); (case hg => rfl); (case hr => first | (go_simp; done) | (go_simp; rfl)); intro gb118 hg w17 hbox hb; replace HO104 := zM (Kd.R_below (zr HO104.out) hb); replace HO107 := zM (Kd.R_below (zr HO107.out) hb); replace HO113 := zM (Kd.R_below (zr HO113.out) hb); replace HO116 := zM (Kd.R_below (zr HO116.out) hb); have BK118 := zM (hbox); have GW118 := zM (zh hg : w.heap.size ≤ gb118); have GE118 := zM (zh hg : w.heap.size ≤ gb118); replace HB := zM (below_step zb hb); have NB109_118 := zM ((by rw [hg]; exact Nat.ne_of_lt (blk_lt (zk BK109.out)) : gb109 ≠ gb118)); have NB118_109 := zM ((by rw [hg]; exact Nat.ne_of_gt (blk_lt (zk BK109.out)) : gb118 ≠ gb109)); replace BK109 := zM (blk_below (zk BK109.out) hb); clear hb hbox hg; have hnb18 := NB118_109.out; have hnc18 := NB109_118.out; have hcz19_0 : w17.cell? ⟨gb118, 0, none⟩ = some (.int .i64 0) := (zX BK118.out 0).trans rfl; have hcz19_1 : w17.cell? ⟨gb118, 1, none⟩ = some (.slice none 0 0) := (zX BK118.out 1).trans rfl; have hcz19_2 : w17.cell? ⟨gb118, 2, none⟩ = some (.slice none 0 0) := (zX BK118.out 2).trans rfl; have hfz19_0 := zY BK118.out 0; have hfz19_1 := zY BK118.out 1; have hfz19_2 := zY BK118.out 2; obtain ⟨Ao20, co20, eo20⟩ := Kd.R_slice HO113.out; subst eo20; obtain ⟨Ao21, co21, eo21⟩ := Kd.R_slice HO116.out; subst eo21) | ((with_reducible refine gate_callee (f := 18) rfl ?_); refine goesL_ (some 20) rfl rfl Tryd.func18 (by kernel_rfl) rfl #[.agg #[.int .i64 t110, .slice Ao20 t111.length co20, .slice Ao21 t114.length co21]] rfl zl ?_; (with_reducible refine (rule_Print.calls k t110 _ _ t111 _ _ t114 t119 t120 _ ?side1 ?side2 ?side3 ?side4 A3.out).mono ?_); (case side1 => refine (Kd.R_reads' (e := 33) (base := w.heap.size) (ok := fun k_ => ((some k_ ≠ (.slice Ao21 t114.length co21 : Value).ownBlock ∧ some k_ ≠ (.slice Ao14 t102.length co14 : Value).ownBlock) ∧ some k_ ≠ (.slice Ao15 t105.length co15 : Value).ownBlock)) (n := t111.length) (c := co20) ?_).2.2; exact (by (with_reducible repeat (first | apply Kd.R_alloc | apply Kd.R_drewN | apply Kd.R_drew)); exact (Kd.R_mono (Kd.R_far (p := ⟨gb118, 2, none⟩) (Kd.R_far (p := ⟨gb118, 1, none⟩) (Kd.R_far (p := ⟨gb118, 0, none⟩) (Kd.R_types HO113.out BK118.out (by decide)) (fun _ hk => hk.2) (.int .i64 t110)) (fun _ hk => hk.2) (.slice Ao20 t111.length co20)) (fun _ hk => hk.2) (.slice Ao21 t114.length co21)) (fun _ h_ => h_.1)))); (case side2 => exact (Kd.R_reads' HO113.out).2.1); (case side3 => refine (Kd.R_reads' (e := 33) (base := w.heap.size) (ok := fun k_ => ((some k_ ≠ (.slice Ao20 t111.length co20 : Value).ownBlock ∧ some k_ ≠ (.slice Ao14 t102.length co14 : Value).ownBlock) ∧ some k_ ≠ (.slice Ao15 t105.length co15 : Value).ownBlock)) (n := t114.length) (c := co21) ?_).2.2; exact (by (with_reducible repeat (first | apply Kd.R_alloc | apply Kd.R_drewN | apply Kd.R_drew)); exact (Kd.R_mono (Kd.R_far (p := ⟨gb118, 2, none⟩) (Kd.R_far (p := ⟨gb118, 1, none⟩) (Kd.R_far (p := ⟨gb118, 0, none⟩) (Kd.R_types HO116.out BK118.out (by decide)) (fun _ hk => hk.2) (.int .i64 t110)) (fun _ hk => hk.2) (.slice Ao20 t111.length co20)) (fun _ hk => hk.2) (.slice Ao21 t114.length co21)) (fun _ h_ => h_.1)))); (case side4 => exact (Kd.R_reads' HO116.out).2.1); rintro e w22 ⟨rfl, hb⟩; refine ⟨_, rfl, ?_⟩; replace HO104 := zM (Kd.R_below (by (with_reducible repeat (first | apply Kd.R_alloc | apply Kd.R_drewN | apply Kd.R_drew)); exact (Kd.R_mono (Kd.R_far (p := ⟨gb118, 2, none⟩) (Kd.R_far (p := ⟨gb118, 1, none⟩) (Kd.R_far (p := ⟨gb118, 0, none⟩) (Kd.R_types HO104.out BK118.out (by decide)) (fun _ hk => hk.2) (.int .i64 t110)) (fun _ hk => hk.2) (.slice Ao20 t111.length co20)) (fun _ hk => hk.2) (.slice Ao21 t114.length co21)) (fun _ h_ => h_.1))) hb); replace HO107 := zM (Kd.R_below (by (with_reducible repeat (first | apply Kd.R_alloc | apply Kd.R_drewN | apply Kd.R_drew)); exact (Kd.R_mono (Kd.R_far (p := ⟨gb118, 2, none⟩) (Kd.R_far (p := ⟨gb118, 1, none⟩) (Kd.R_far (p := ⟨gb118, 0, none⟩) (Kd.R_types HO107.out BK118.out (by decide)) (fun _ hk => hk.2) (.int .i64 t110)) (fun _ hk => hk.2) (.slice Ao20 t111.length co20)) (fun _ hk => hk.2) (.slice Ao21 t114.length co21)) (fun _ h_ => h_.1))) hb); replace HO113 := zM (Kd.R_below (by (with_reducible repeat (first | apply Kd.R_alloc | apply Kd.R_drewN | apply Kd.R_drew)); exact (Kd.R_mono (Kd.R_far (p := ⟨gb118, 2, none⟩) (Kd.R_far (p := ⟨gb118, 1, none⟩) (Kd.R_far (p := ⟨gb118, 0, none⟩) (Kd.R_types HO113.out BK118.out (by decide)) (fun _ hk => hk.2) (.int .i64 t110)) (fun _ hk => hk.2) (.slice Ao20 t111.length co20)) (fun _ hk => hk.2) (.slice Ao21 t114.length co21)) (fun _ h_ => h_.1))) hb); replace HO116 := zM (Kd.R_below (by (with_reducible repeat (first | apply Kd.R_alloc | apply Kd.R_drewN | apply Kd.R_drew)); exact (Kd.R_mono (Kd.R_far (p := ⟨gb118, 2, none⟩) (Kd.R_far (p := ⟨gb118, 1, none⟩) (Kd.R_far (p := ⟨gb118, 0, none⟩) (Kd.R_types HO116.out BK118.out (by decide)) (fun _ hk => hk.2) (.int .i64 t110)) (fun _ hk => hk.2) (.slice Ao20 t111.length co20)) (fun _ hk => hk.2) (.slice Ao21 t114.length co21)) (fun _ h_ => h_.1))) hb); replace BK109 := zM (blk_below (g := gb109) (o := .cells #[.int .i64 t101, .slice Ao14 t102.length co14, .slice Ao15 t105.length co15] 25 (0, 0)) (by refine zk ?_; refine blk_far ?_ NB109_118.out _; refine zk ?_; refine blk_far ?_ NB109_118.out _; refine zk ?_; refine blk_far ?_ NB109_118.out _; refine zk ?_; exact BK109.out) hb); replace BK118 := zM (blk_below (g := gb118) (o := .cells #[.int .i64 t110, .slice Ao20 t111.length co20, .slice Ao21 t114.length co21] 25 (0, 0)) (by refine zk ?_; refine blk_put (cs := #[.int .i64 t110, .slice Ao20 t111.length co20, .slice none 0 0]) ?_ 2 _ rfl; refine zk ?_; refine blk_put (cs := #[.int .i64 t110, .slice none 0 0, .slice none 0 0]) ?_ 1 _ rfl; refine zk ?_; refine blk_put (cs := #[.int .i64 0, .slice none 0 0, .slice none 0 0]) ?_ 0 _ rfl; refine zk ?_; exact BK118.out) hb); replace HB := zM (below_step zb hb); (try clear hb)) | ((with_reducible refine gate_callee (f := 15) rfl ?_); refine goesL_ (some 24) rfl rfl Tryd.func15 (by kernel_rfl) rfl #[.string (⟨#[88]⟩ : ByteArray), .string (⟨#[97]⟩ : ByteArray)] rfl zl ?_; (with_reducible refine (rule_Parse.calls k (⟨#[88]⟩ : ByteArray) (⟨#[97]⟩ : ByteArray) t121 t122 t125 t128 _ A4.out).mono ?_); rintro e w23 ⟨v123, v126, rfl, ho0, ho1, hb⟩; refine ⟨_, rfl, ?_⟩; have HO124 := zM (Kd.R_lower (Kd.R_new' (Kd.R_new' (Kd.R_new' (Kd.R_new' ho0 (Kd.R_lt (zr HO104.out))) (Kd.R_lt (zr HO107.out))) (Kd.R_lt (zr HO113.out))) (Kd.R_lt (zr HO116.out))) (below_size zb)); have HO127 := zM (Kd.R_lower (Kd.R_new' (Kd.R_new' (Kd.R_new' (Kd.R_new' ho1 (Kd.R_lt (zr HO104.out))) (Kd.R_lt (zr HO107.out))) (Kd.R_lt (zr HO113.out))) (Kd.R_lt (zr HO116.out))) (below_size zb)); replace HO104 := zM (Kd.R_mono (Kd.R_told (Kd.R_told (Kd.R_old (zr HO104.out) hb) (Kd.R_base ho0)) (Kd.R_base ho1)) (fun _ h_ => h_.1)); replace HO107 := zM (Kd.R_mono (Kd.R_told (Kd.R_told (Kd.R_old (zr HO107.out) hb) (Kd.R_base ho0)) (Kd.R_base ho1)) (fun _ h_ => h_.1)); replace HO113 := zM (Kd.R_mono (Kd.R_told (Kd.R_told (Kd.R_old (zr HO113.out) hb) (Kd.R_base ho0)) (Kd.R_base ho1)) (fun _ h_ => h_.1)); replace HO116 := zM (Kd.R_mono (Kd.R_told (Kd.R_told (Kd.R_old (zr HO116.out) hb) (Kd.R_base ho0)) (Kd.R_base ho1)) (fun _ h_ => h_.1)); replace BK109 := zM (blk_below (zk BK109.out) hb); replace BK118 := zM (blk_below (zk BK118.out) hb); replace HB := zM (below_step zb hb); (try clear hb); (try clear ho0); (try clear ho1)) | ((with_reducible refine gate_dst (N := 7) rfl ?_); refine box_event ?hg (N := 7) ?hd (cs := #[.int .i64 0, .slice none 0 0, .slice none 0 0]) (t := 25) ?hr ?_; (case hd => rfl); (case hg => rfl); (case hr => first | (go_simp; done) | (go_simp; rfl)); intro gb129 hg w24 hbox hb; replace HO104 := zM (Kd.R_below (zr HO104.out) hb); replace HO107 := zM (Kd.R_below (zr HO107.out) hb); replace HO113 := zM (Kd.R_below (zr HO113.out) hb); replace HO116 := zM (Kd.R_below (zr HO116.out) hb); replace HO124 := zM (Kd.R_below (zr HO124.out) hb); replace HO127 := zM (Kd.R_below (zr HO127.out) hb); have BK129 := zM (hbox); have GW129 := zM (zh hg : w.heap.size ≤ gb129); have GE129 := zM (zh hg : w.heap.size ≤ gb129); replace HB := zM (below_step zb hb); have NB109_129 := zM ((by rw [hg]; exact Nat.ne_of_lt (blk_lt (zk BK109.out)) : gb109 ≠ gb129)); have NB129_109 := zM ((by rw [hg]; exact Nat.ne_of_gt (blk_lt (zk BK109.out)) : gb129 ≠ gb109)); replace BK109 := zM (blk_below (zk BK109.out) hb); have NB118_129 := zM ((by rw [hg]; exact Nat.ne_of_lt (blk_lt (zk BK118.out)) : gb118 ≠ gb129)); have NB129_118 := zM ((by rw [hg]; exact Nat.ne_of_gt (blk_lt (zk BK118.out)) : gb129 ≠ gb118)); replace BK118 := zM (blk_below (zk BK118.out) hb); clear hb hbox hg; have hnb25 := NB129_109.out; have hnc25 := NB109_129.out; have hnb26 := NB129_118.out; have hnc26 := NB118_129.out; have hcz27_0 : w24.cell? ⟨gb129, 0, none⟩ = some (.int .i64 0) := (zX BK129.out 0).trans rfl; have hcz27_1 : w24.cell? ⟨gb129, 1, none⟩ = some (.slice none 0 0) := (zX BK129.out 1).trans rfl; have hcz27_2 : w24.cell? ⟨gb129, 2, none⟩ = some (.slice none 0 0) := (zX BK129.out 2).trans rfl; have hfz27_0 := zY BK129.out 0; have hfz27_1 := zY BK129.out 1; have hfz27_2 := zY BK129.out 2; obtain ⟨Ao28, co28, eo28⟩ := Kd.R_slice HO124.out; subst eo28; obtain ⟨Ao29, co29, eo29⟩ := Kd.R_slice HO127.out; subst eo29; have hcz30_0 : w24.cell? ⟨gb109, 0, none⟩ = some (.int .i64 t101) := (zX BK109.out 0).trans rfl; have hcz30_1 : w24.cell? ⟨gb109, 1, none⟩ = some (.slice Ao14 t102.length co14) := (zX BK109.out 1).trans rfl; have hcz30_2 : w24.cell? ⟨gb109, 2, none⟩ = some (.slice Ao15 t105.length co15) := (zX BK109.out 2).trans rfl; have hfz30_0 := zY BK109.out 0; have hfz30_1 := zY BK109.out 1; have hfz30_2 := zY BK109.out 2) | (go_at_call 14; (with_reducible refine (rule_Head.calls k t101 _ _ t102 _ _ t105 t130 _ ?side1 ?side2 ?side3 ?side4 A9.out).mono ?_); (case side1 => refine (Kd.R_reads' (e := 33) (base := w.heap.size) (ok := fun k_ => ((((some k_ ≠ (.slice Ao15 t105.length co15 : Value).ownBlock ∧ some k_ ≠ (.slice Ao20 t111.length co20 : Value).ownBlock) ∧ some k_ ≠ (.slice Ao21 t114.length co21 : Value).ownBlock) ∧ some k_ ≠ (.slice Ao28 t122.length co28 : Value).ownBlock) ∧ some k_ ≠ (.slice Ao29 t125.length co29 : Value).ownBlock)) (n := t102.length) (c := co14) ?_).2.2; exact (by (with_reducible repeat (first | apply Kd.R_alloc | apply Kd.R_drewN | apply Kd.R_drew)); exact (Kd.R_mono (Kd.R_far (p := ⟨gb129, 2, none⟩) (Kd.R_far (p := ⟨gb129, 1, none⟩) (Kd.R_far (p := ⟨gb129, 0, none⟩) (Kd.R_types HO104.out BK129.out (by decide)) (fun _ hk => hk.2) (.int .i64 t121)) (fun _ hk => hk.2) (.slice Ao28 t122.length co28)) (fun _ hk => hk.2) (.slice Ao29 t125.length co29)) (fun _ h_ => h_.1)))); (case side2 => exact (Kd.R_reads' HO104.out).2.1); (case side3 => refine (Kd.R_reads' (e := 33) (base := w.heap.size) (ok := fun k_ => ((((some k_ ≠ (.slice Ao14 t102.length co14 : Value).ownBlock ∧ some k_ ≠ (.slice Ao20 t111.length co20 : Value).ownBlock) ∧ some k_ ≠ (.slice Ao21 t114.length co21 : Value).ownBlock) ∧ some k_ ≠ (.slice Ao28 t122.length co28 : Value).ownBlock) ∧ some k_ ≠ (.slice Ao29 t125.length co29 : Value).ownBlock)) (n := t105.length) (c := co15) ?_).2.2; exact (by (with_reducible repeat (first | apply Kd.R_alloc | apply Kd.R_drewN | apply Kd.R_drew)); exact (Kd.R_mono (Kd.R_far (p := ⟨gb129, 2, none⟩) (Kd.R_far (p := ⟨gb129, 1, none⟩) (Kd.R_far (p := ⟨gb129, 0, none⟩) (Kd.R_types HO107.out BK129.out (by decide)) (fun _ hk => hk.2) (.int .i64 t121)) (fun _ hk => hk.2) (.slice Ao28 t122.length co28)) (fun _ hk => hk.2) (.slice Ao29 t125.length co29)) (fun _ h_ => h_.1)))); (case side4 => exact (Kd.R_reads' HO107.out).2.1); rintro e w31 ⟨rfl, hb⟩; replace HO104 := zM (Kd.R_below (by (with_reducible repeat (first | apply Kd.R_alloc | apply Kd.R_drewN | apply Kd.R_drew)); exact (Kd.R_mono (Kd.R_far (p := ⟨gb129, 2, none⟩) (Kd.R_far (p := ⟨gb129, 1, none⟩) (Kd.R_far (p := ⟨gb129, 0, none⟩) (Kd.R_types HO104.out BK129.out (by decide)) (fun _ hk => hk.2) (.int .i64 t121)) (fun _ hk => hk.2) (.slice Ao28 t122.length co28)) (fun _ hk => hk.2) (.slice Ao29 t125.length co29)) (fun _ h_ => h_.1))) hb); replace HO107 := zM (Kd.R_below (by (with_reducible repeat (first | apply Kd.R_alloc | apply Kd.R_drewN | apply Kd.R_drew)); exact (Kd.R_mono (Kd.R_far (p := ⟨gb129, 2, none⟩) (Kd.R_far (p := ⟨gb129, 1, none⟩) (Kd.R_far (p := ⟨gb129, 0, none⟩) (Kd.R_types HO107.out BK129.out (by decide)) (fun _ hk => hk.2) (.int .i64 t121)) (fun _ hk => hk.2) (.slice Ao28 t122.length co28)) (fun _ hk => hk.2) (.slice Ao29 t125.length co29)) (fun _ h_ => h_.1))) hb); replace HO113 := zM (Kd.R_below (by (with_reducible repeat (first | apply Kd.R_alloc | apply Kd.R_drewN | apply Kd.R_drew)); exact (Kd.R_mono (Kd.R_far (p := ⟨gb129, 2, none⟩) (Kd.R_far (p := ⟨gb129, 1, none⟩) (Kd.R_far (p := ⟨gb129, 0, none⟩) (Kd.R_types HO113.out BK129.out (by decide)) (fun _ hk => hk.2) (.int .i64 t121)) (fun _ hk => hk.2) (.slice Ao28 t122.length co28)) (fun _ hk => hk.2) (.slice Ao29 t125.length co29)) (fun _ h_ => h_.1))) hb); replace HO116 := zM (Kd.R_below (by (with_reducible repeat (first | apply Kd.R_alloc | apply Kd.R_drewN | apply Kd.R_drew)); exact (Kd.R_mono (Kd.R_far (p := ⟨gb129, 2, none⟩) (Kd.R_far (p := ⟨gb129, 1, none⟩) (Kd.R_far (p := ⟨gb129, 0, none⟩) (Kd.R_types HO116.out BK129.out (by decide)) (fun _ hk => hk.2) (.int .i64 t121)) (fun _ hk => hk.2) (.slice Ao28 t122.length co28)) (fun _ hk => hk.2) (.slice Ao29 t125.length co29)) (fun _ h_ => h_.1))) hb); replace HO124 := zM (Kd.R_below (by (with_reducible repeat (first | apply Kd.R_alloc | apply Kd.R_drewN | apply Kd.R_drew)); exact (Kd.R_mono (Kd.R_far (p := ⟨gb129, 2, none⟩) (Kd.R_far (p := ⟨gb129, 1, none⟩) (Kd.R_far (p := ⟨gb129, 0, none⟩) (Kd.R_types HO124.out BK129.out (by decide)) (fun _ hk => hk.2) (.int .i64 t121)) (fun _ hk => hk.2) (.slice Ao28 t122.length co28)) (fun _ hk => hk.2) (.slice Ao29 t125.length co29)) (fun _ h_ => h_.1))) hb); replace HO127 := zM (Kd.R_below (by (with_reducible repeat (first | apply Kd.R_alloc | apply Kd.R_drewN | apply Kd.R_drew)); exact (Kd.R_mono (Kd.R_far (p := ⟨gb129, 2, none⟩) (Kd.R_far (p := ⟨gb129, 1, none⟩) (Kd.R_far (p := ⟨gb129, 0, none⟩) (Kd.R_types HO127.out BK129.out (by decide)) (fun _ hk => hk.2) (.int .i64 t121)) (fun _ hk => hk.2) (.slice Ao28 t122.length co28)) (fun _ hk => hk.2) (.slice Ao29 t125.length co29)) (fun _ h_ => h_.1))) hb); replace BK109 := zM (blk_below (g := gb109) (o := .cells #[.int .i64 t101, .slice Ao14 t102.length co14, .slice Ao15 t105.length co15] 25 (0, 0)) (by refine zk ?_; refine blk_far ?_ NB109_129.out _; refine zk ?_; refine blk_far ?_ NB109_129.out _; refine zk ?_; refine blk_far ?_ NB109_129.out _; refine zk ?_; exact BK109.out) hb); replace BK118 := zM (blk_below (g := gb118) (o := .cells #[.int .i64 t110, .slice Ao20 t111.length co20, .slice Ao21 t114.length co21] 25 (0, 0)) (by refine zk ?_; refine blk_far ?_ NB118_129.out _; refine zk ?_; refine blk_far ?_ NB118_129.out _; refine zk ?_; refine blk_far ?_ NB118_129.out _; refine zk ?_; exact BK118.out) hb); replace BK129 := zM (blk_below (g := gb129) (o := .cells #[.int .i64 t121, .slice Ao28 t122.length co28, .slice Ao29 t125.length co29] 25 (0, 0)) (by refine zk ?_; refine blk_put (cs := #[.int .i64 t121, .slice Ao28 t122.length co28, .slice none 0 0]) ?_ 2 _ rfl; refine zk ?_; refine blk_put (cs := #[.int .i64 t121, .slice none 0 0, .slice none 0 0]) ?_ 1 _ rfl; refine zk ?_; refine blk_put (cs := #[.int .i64 0, .slice none 0 0, .slice none 0 0]) ?_ 0 _ rfl; refine zk ?_; exact BK129.out) hb); replace HB := zM (below_step zb hb); (try clear hb)))
      go_ret
      exact ⟨zw, zb⟩
     ·
      rw [if_neg c10] at H
      have c10b0 : (t130.toList == ([103] : List UInt8)) = false := zE c10
      have c10b1 : (t130.toList != ([103] : List UInt8)) = true := zF c10
      exact absurd ((zS H).trans HRT.out) (by decide)
    ·
     rw [if_neg c8] at H
     have c8b0 : (t119.toList == ([103, 40, 88, 48, 44, 88, 49, 41, 32, 45, 62, 32, 88, 49] : List UInt8)) = false := zE c8
     have c8b1 : (t119.toList != ([103, 40, 88, 48, 44, 88, 49, 41, 32, 45, 62, 32, 88, 49] : List UInt8)) = true := zF c8
     exact absurd ((zS H).trans HRT.out) (by decide)
   ·
    rw [if_neg c7] at H
    have c7b0 : (t120 == 0) = false := zE c7
    have c7b1 : (t120 != 0) = true := zF c7
    exact absurd ((zS H).trans HRT.out) (by decide)
  ·
   rw [if_neg c6] at H
   have c6b0 : (t117 == 0) = false := zE c6
   have c6b1 : (t117 != 0) = true := zF c6
   exact absurd ((zS H).trans HRT.out) (by decide)
 ·
  rw [if_neg c5] at H
  have c5b0 : (t108 == 0) = false := zE c5
  have c5b1 : (t108 != 0) = true := zF c5
  exact absurd ((zS H).trans HRT.out) (by decide)


-- ==== PF23

/-! ### aumbryref04_Copy: function 23 -/
def aumbryref04_Copy.f (l0 : List (S33)) : Option ((List (S33))) := if ([] : List (S33)).length + l0.length < 5864062014805 then (some (([] : List (S33)) ++ l0)) else (none)
theorem aumbryref04_Copy.calls (A0 : Option Addr) (c0 : Nat) (l0 : List (S33)) (r : List (S33)) (w : World) (hr0 : Kd.C k33 w A0 l0.length l0) (hc0 : l0.length ≤ c0) (h : aumbryref04_Copy.f l0 = some r) :
 Calls Tryd.prog 23 #[.slice A0 l0.length c0] w fun e w' => ∃ v0_ : Value, e = .returned (v0_) ∧ Kd.R k33 33 w' w.heap.size (fun _ => True) v0_ r ∧ Below w.heap.size w w' := by
 have HR0 := zM hr0
 have HC0 := zM hc0
 clear hr0 hc0
 have HB := zM (Below.refl w.heap.size w)
 have H : (if ([] : List (S33)).length + l0.length < 5864062014805 then (some (([] : List (S33)) ++ l0)) else (none)) = some r := h
 clear h
 by_cases c2 : ([] : List (S33)).length + l0.length < 5864062014805
 ·
  rw [if_pos c2] at H
  have LMc2 := zM c2
  clear c2
  obtain ⟨y101, hy101⟩ : ∃ y_ : List (S33), y_ = (([] : List (S33)) ++ l0) := ⟨_, rfl⟩
  replace H : (some y101) = some r := by first | (rw [hy101]; with_reducible exact H) | (have H2_ := (Option.bind_some _ _).symm.trans H; rw [hy101]; with_reducible exact H2_) | (have H2_ := (Option.bind_some _ _).symm.trans H; with_reducible exact H2_) | with_reducible exact H | (rw [hy101]; exact H) | exact H
  have Ny101 := zM hy101
  clear hy101
  obtain rfl := zS H
  go_enter Tryd.func23, Tryd.ntmps23
  go_wp2_with (first | ((with_reducible refine gate_builtin (b := .append) (xs := #[.tmp 4, .tmp 5]) rfl ?_); at_builtin; refine Kd.R_append_rows k33 (w0 := w) w.heap.size rfl (.tmp 4) (.tmp 5) 23 33 (.agg #[(.string ⟨#[]⟩), (.int .i64 0)]) 24 rfl Tryd.underlying23 info33 rfl (by decide) (by omega) (.slice none 0 0) ([] : List (S33)) l0 _ _ _ (fun _ => True) (fun _ => False) rfl rfl ?aO ?aR (fun _ _ h => h) (fun _ h => h.elim) ?aF ?aB ?aS ?aL ?_; (case aR => exact Kd.C_below HR0.out zg); (case aB => exact zb); (case aF => exact (fun _ _ => trivial)); (case aO => exact ((Kd.R_nil _ _ _ _ (fun _ => True)))); (case aS => exact (below_size zb)); (case aL => have := LMc2.out; omega); intro v102 w3 ho hb hg hat; rw [← Ny101.out] at ho; replace HB := zM (hb); have HO103 := zM (ho); clear ho hb hg hat))
  go_ret
  exact ⟨_, zw, zr HO103.out, zb⟩
 ·
  rw [if_neg c2] at H
  exact absurd H (by simp)


-- ==== PF12

/-! ### aumbryref06_Copy: function 12 -/
def aumbryref06_Copy.f (a0_0 : Int) (l0_1 : List (S33)) (l0_2 : List (S33)) : Option (Int × (List (S33)) × (List (S33))) := (aumbryref04_Copy.f l0_1).bind fun t103 => ((aumbryref04_Copy.f l0_2).bind fun t106 => (some (a0_0, t103, t106)))
def aumbryref06_Copy.T1 : Bool × List (List Nat × List Nat) := (true, [([], []), ([0], [0]), ([], []), ([2], [2]), ([3], [3]), ([], []), ([5], [5]), ([6, 4], [6]), ([1, 4, 7], [1, 4, 7]), ([8, 7, 0, 1, 2, 3, 4, 5, 6, 7, 8], [8])])
def aumbryref06_Copy.B1 : List Nat := [0, 1, 0, 4, 12, 0, 32, 124, 255, 511]
theorem aumbryref06_Copy.tab1 : rtab .any (opsOf Tryd.f12 1) = aumbryref06_Copy.T1 := by kernel_rfl
theorem aumbryref06_Copy.bits1 : waitsOk aumbryref06_Copy.T1.2 aumbryref06_Copy.B1 = true := by kernel_rfl
theorem aumbryref06_Copy.calls (a0_0 : Int) (A0_1 : Option Addr) (c0_1 : Nat) (l0_1 : List (S33)) (A0_2 : Option Addr) (c0_2 : Nat) (l0_2 : List (S33)) (r1 : Int) (r2 : List (S33)) (r3 : List (S33)) (w : World) (hr0_1 : Kd.C k33 w A0_1 l0_1.length l0_1) (hc0_1 : l0_1.length ≤ c0_1) (hr0_2 : Kd.C k33 w A0_2 l0_2.length l0_2) (hc0_2 : l0_2.length ≤ c0_2) (h : aumbryref06_Copy.f a0_0 l0_1 l0_2 = some (r1, r2, r3)) :
 Calls Tryd.prog 12 #[.agg #[.int .i64 a0_0, .slice A0_1 l0_1.length c0_1, .slice A0_2 l0_2.length c0_2]] w fun e w' => ∃ v1_ v2_ : Value, e = .returned (.agg #[.int .i64 r1, v1_, v2_]) ∧ Kd.R k33 33 w' w.heap.size (fun k_ => some k_ ≠ (v2_ : Value).ownBlock) v1_ r2 ∧ Kd.R k33 33 w' w.heap.size (fun k_ => some k_ ≠ (v1_ : Value).ownBlock) v2_ r3 ∧ Below w.heap.size w w' := by
 have hu25 := Tryd.underlying25
 have HR0_1 := zM hr0_1
 have HC0_1 := zM hc0_1
 clear hr0_1 hc0_1
 have HR0_2 := zM hr0_2
 have HC0_2 := zM hc0_2
 clear hr0_2 hc0_2
 have HB := zM (Below.refl w.heap.size w)
 have H : ((aumbryref04_Copy.f l0_1).bind fun t103 => ((aumbryref04_Copy.f l0_2).bind fun t106 => (some (a0_0, t103, t106)))) = some (r1, r2, r3) := h
 clear h
 replace H := zB H
 obtain ⟨t103, A20, H⟩ := H
 try dsimp only at H
 have A2 := zM A20
 clear A20
 replace H := zB H
 obtain ⟨t106, A30, H⟩ := H
 try dsimp only at H
 have A3 := zM A30
 clear A30
 simp only [Option.some.injEq, Prod.mk.injEq] at H
 obtain ⟨rfl, rfl, rfl⟩ := H
 go_enter Tryd.func12, Tryd.ntmps12
 try go_wp2_with (first | ((with_reducible refine gate_dst (N := 1) rfl ?_); refine box_event ?hg (N := 1) ?hd (cs := #[.int .i64 a0_0, .slice A0_1 l0_1.length c0_1, .slice A0_2 l0_2.length c0_2]) (t := 25) ?hr ?_; (case hd => rfl); (case hg => rfl); (case hr => first | (go_simp; done) | (go_simp; rfl)); intro gb101 hg w4 hbox hb; have BK101 := zM (hbox); have GW101 := zM (zh hg : w.heap.size ≤ gb101); have GE101 := zM (zh hg : w.heap.size ≤ gb101); replace HB := zM (below_step zb hb); clear hb hbox hg) | ((with_reducible refine gate_dst (N := 2) rfl ?_); refine box_event ?hg (N := 2) ?hd (cs := #[.int .i64 0, .slice none 0 0, .slice none 0 0]) (t := 25) ?hr ?_; (case hd => rfl); (case hg => rfl); (case hr => first | (go_simp; done) | (go_simp; rfl)); intro gb102 hg w5 hbox hb; have BK102 := zM (hbox); have GW102 := zM (zh hg : w.heap.size ≤ gb102); have GE102 := zM (zh hg : w.heap.size ≤ gb102); replace HB := zM (below_step zb hb); have NB101_102 := zM ((by rw [hg]; exact Nat.ne_of_lt (blk_lt (zk BK101.out)) : gb101 ≠ gb102)); have NB102_101 := zM ((by rw [hg]; exact Nat.ne_of_gt (blk_lt (zk BK101.out)) : gb102 ≠ gb101)); replace BK101 := zM (blk_below (zk BK101.out) hb); clear hb hbox hg))
 have n0_ := zM (blk_drew BK101.out)
 have n1_ := zM (blk_drew BK102.out)
 have n2_ := zM (zD HB.out)
 clear BK101
 clear BK102
 clear HB
 have BK101 := n0_
 have BK102 := n1_
 have HB := n2_
 clear n0_ n1_ n2_
 refine start_ (n := 10) (S := fun w' => w'.cell? ⟨gb101, 0, none⟩ = some (.int .i64 a0_0) ∧ w'.cell? ⟨gb101, 1, none⟩ = some (.slice A0_1 l0_1.length c0_1) ∧ w'.cell? ⟨gb101, 2, none⟩ = some (.slice A0_2 l0_2.length c0_2)) (ds := []) #[false, false, false, false, false, false, false, false, false, false] (by kernel_rfl) rfl rfl ⟨(zX BK101.out 0).trans rfl, (zX BK101.out 1).trans rfl, (zX BK101.out 2).trans rfl⟩ (fun hHeld => ?_); refine with_tabW aumbryref06_Copy.tab1 aumbryref06_Copy.bits1 (fun HT_ HW_ => ?_)
 generalize w5.drew = w6 at BK101 BK102 HB hHeld ⊢
 refine pure_ (i := 0) (N := some 3) (v := ?_) (a' := ?_) #[true, false, false, false, false, false, false, false, false, false] rfl rfl (any_of HT_.out (by kernel_rfl)) (fun _ _ _ h => h) (Or.inl ⟨by rfl, ?_⟩) ?_ ?_
 rotate_left
 ·
  intro w'
  go_simp
  with_reducible rfl
 rotate_left
 ·
  simp only [Act.put, List.setIfInBounds_toArray, List.set_cons_zero, List.set_cons_succ, i64_w, i32_w]
  rfl
 refine pure_ (i := 2) (N := some 5) (v := ?_) (a' := ?_) #[true, false, true, false, false, false, false, false, false, false] rfl rfl (any_of HT_.out (by kernel_rfl)) (fun _ _ _ h => h) (Or.inl ⟨by rfl, ?_⟩) ?_ ?_
 rotate_left
 ·
  intro w'
  go_simp
  with_reducible rfl
 rotate_left
 ·
  simp only [Act.put, List.setIfInBounds_toArray, List.set_cons_zero, List.set_cons_succ, i64_w, i32_w]
  rfl
 refine pure_ (i := 5) (N := some 8) (v := ?_) (a' := ?_) #[true, false, true, false, false, true, false, false, false, false] rfl rfl (any_of HT_.out (by kernel_rfl)) (fun _ _ _ h => h) (Or.inl ⟨by rfl, ?_⟩) ?_ ?_
 rotate_left
 ·
  intro w'
  go_simp
  with_reducible rfl
 rotate_left
 ·
  simp only [Act.put, List.setIfInBounds_toArray, List.set_cons_zero, List.set_cons_succ, i64_w, i32_w]
  rfl
 refine take_ (i := 1) (N := some 4) (v := ?_) (a' := ?_) #[true, true, true, false, false, true, false, false, false, false] rfl rfl (take_ofW HT_.out HW_.out (by kernel_rfl)) (fun _ _ _ h => h) (Or.inl ⟨by rfl, ?_⟩) hHeld ?_ ?_
 rotate_left
 ·
  rintro w' ⟨s0, s1, s2⟩
  go_simp
  with_reducible rfl
 rotate_left
 ·
  simp only [Act.put, List.setIfInBounds_toArray, List.set_cons_zero, List.set_cons_succ, i64_w, i32_w]
  rfl
 refine take_ (i := 3) (N := some 6) (v := ?_) (a' := ?_) #[true, true, true, true, false, true, false, false, false, false] rfl rfl (take_ofW HT_.out HW_.out (by kernel_rfl)) (fun _ _ _ h => h) (Or.inl ⟨by rfl, ?_⟩) hHeld ?_ ?_
 rotate_left
 ·
  rintro w' ⟨s0, s1, s2⟩
  go_simp
  with_reducible rfl
 rotate_left
 ·
  simp only [Act.put, List.setIfInBounds_toArray, List.set_cons_zero, List.set_cons_succ, i64_w, i32_w]
  rfl
 refine take_ (i := 6) (N := some 9) (v := ?_) (a' := ?_) #[true, true, true, true, false, true, true, false, false, false] rfl rfl (take_ofW HT_.out HW_.out (by kernel_rfl)) (fun _ _ _ h => h) (Or.inl ⟨by rfl, ?_⟩) hHeld ?_ ?_
 rotate_left
 ·
  rintro w' ⟨s0, s1, s2⟩
  go_simp
  with_reducible rfl
 rotate_left
 ·
  simp only [Act.put, List.setIfInBounds_toArray, List.set_cons_zero, List.set_cons_succ, i64_w, i32_w]
  rfl
 refine one_ (i := 4) (N := some 7) #[true, true, true, true, true, true, true, false, false, false] rfl rfl (one_of HT_.out (by kernel_rfl)) (by decide) (fun K hK => ?_)
 refine goes_ Tryd.func23 (by kernel_rfl) rfl #[.slice A0_1 l0_1.length c0_1] (by rfl) rfl rfl zl ?_
 with_reducible refine (aumbryref04_Copy.calls _ _ l0_1 t103 _ ?side1 ?side2 A2.out).mono ?_
 (case side1 => exact Kd.C_below HR0_1.out zb)
 (case side2 => exact HC0_1.out)
 rintro e w7 ⟨v104, rfl, ho0, hb⟩
 refine ⟨_, rfl, ?_⟩
 have n0_ := zM (Kd.R_lower ho0 (below_size zb))
 have n1_ := zM (blk_below (zk BK101.out) hb)
 have n2_ := zM (blk_below (zk BK102.out) hb)
 have n3_ := zM (below_step zb hb)
 clear BK101
 clear BK102
 clear HB
 have HO105 := n0_
 have BK101 := n1_
 have BK102 := n2_
 have HB := n3_
 clear n0_ n1_ n2_ n3_
 (try clear hb)
 (try clear hb2)
 (try clear hk)
 (try clear hi)
 (try clear ho0)
 refine hK.out _ _ ⟨(zX BK101.out 0).trans rfl, (zX BK101.out 1).trans rfl, (zX BK101.out 2).trans rfl⟩ (fun hHeld => ?_)
 clear hK K
 refine norm_ (a' := ?_) ?_ ?_
 rotate_left
 ·
  show Act.put _ (some 7) _ = _
  simp only [Act.put, List.setIfInBounds_toArray, List.set_cons_zero, List.set_cons_succ, i64_w, i32_w]
  rfl
 refine one_ (i := 7) (N := some 10) #[true, true, true, true, true, true, true, true, false, false] rfl rfl (one_of HT_.out (by kernel_rfl)) (by decide) (fun K hK => ?_)
 refine goes_ Tryd.func23 (by kernel_rfl) rfl #[.slice A0_2 l0_2.length c0_2] (by rfl) rfl rfl zl ?_
 with_reducible refine (aumbryref04_Copy.calls _ _ l0_2 t106 _ ?side1 ?side2 A3.out).mono ?_
 (case side1 => exact Kd.C_below HR0_2.out zb)
 (case side2 => exact HC0_2.out)
 rintro e w8 ⟨v107, rfl, ho0, hb⟩
 refine ⟨_, rfl, ?_⟩
 have n0_ := zM (Kd.R_elder' (zr HO105.out) (Kd.R_base ho0) hb)
 have n1_ := zM (Kd.R_lower (Kd.R_new' ho0 (Kd.R_lt (zr HO105.out))) (below_size zb))
 have n2_ := zM (blk_below (zk BK101.out) hb)
 have n3_ := zM (blk_below (zk BK102.out) hb)
 have n4_ := zM (below_step zb hb)
 clear HO105
 clear BK101
 clear BK102
 clear HB
 have HO105 := n0_
 have HO108 := n1_
 have BK101 := n2_
 have BK102 := n3_
 have HB := n4_
 clear n0_ n1_ n2_ n3_ n4_
 (try clear hb)
 (try clear hb2)
 (try clear hk)
 (try clear hi)
 (try clear ho0)
 obtain ⟨Ao9, co9, eo9⟩ := Kd.R_slice HO108.out
 (first | subst eo9 | (injection eo9 with f1_ f2_ f3_; have f4_ := f1_.symm; have f5_ := f3_.symm; clear f1_ f2_ f3_; subst f4_; subst f5_))
 obtain ⟨Ao10, co10, eo10⟩ := Kd.R_slice HO105.out
 (first | subst eo10 | (injection eo10 with f1_ f2_ f3_; have f4_ := f1_.symm; have f5_ := f3_.symm; clear f1_ f2_ f3_; subst f4_; subst f5_))
 refine hK.out _ _ ⟨(zX BK101.out 0).trans rfl, (zX BK101.out 1).trans rfl, (zX BK101.out 2).trans rfl⟩ (fun hHeld => ?_)
 clear hK K
 refine norm_ (a' := ?_) ?_ ?_
 rotate_left
 ·
  show Act.put _ (some 10) _ = _
  simp only [Act.put, List.setIfInBounds_toArray, List.set_cons_zero, List.set_cons_succ, i64_w, i32_w]
  rfl
 refine pure_ (i := 8) (N := some 11) (v := ?_) (a' := ?_) #[true, true, true, true, true, true, true, true, true, false] rfl rfl (any_of HT_.out (by kernel_rfl)) (fun _ _ _ h => h) (Or.inl ⟨by rfl, ?_⟩) ?_ ?_
 rotate_left
 ·
  intro w'
  go_simp
  with_reducible rfl
 rotate_left
 ·
  simp only [Act.put, List.setIfInBounds_toArray, List.set_cons_zero, List.set_cons_succ, i64_w, i32_w]
  rfl
 refine one_ (i := 9) (N := none) #[true, true, true, true, true, true, true, true, true, true] rfl rfl (one_of HT_.out (by kernel_rfl)) (by decide) (fun K hK => ?_)
 have hs11 : w8.cell? ⟨gb102, 0, none⟩ = some (.int .i64 0) := (zX BK102.out 0).trans rfl
 have hfs11 := zY BK102.out 0
 have hns11_0 := NB101_102.out
 have hms11_0 := NB102_101.out
 have hs12 : w8.cell? ⟨gb102, 1, none⟩ = some (.slice none 0 0) := (zX BK102.out 1).trans rfl
 have hfs12 := zY BK102.out 1
 have hns12_0 := NB101_102.out
 have hms12_0 := NB102_101.out
 have hs13 : w8.cell? ⟨gb102, 2, none⟩ = some (.slice none 0 0) := (zX BK102.out 2).trans rfl
 have hfs13 := zY BK102.out 2
 have hns13_0 := NB101_102.out
 have hms13_0 := NB102_101.out
 refine skip_ (w1 := ?_) (by rfl) rfl ?_ ?_
 rotate_left
 ·
  go_simp
  rfl
 refine hK.out _ _ ⟨((cell_far (p := ⟨gb102, _, none⟩) NB101_102.out _).trans (((cell_far (p := ⟨gb102, _, none⟩) NB101_102.out _).trans (((cell_far (p := ⟨gb102, _, none⟩) NB101_102.out _).trans (hHeld.1)))))), ((cell_far (p := ⟨gb102, _, none⟩) NB101_102.out _).trans (((cell_far (p := ⟨gb102, _, none⟩) NB101_102.out _).trans (((cell_far (p := ⟨gb102, _, none⟩) NB101_102.out _).trans (hHeld.2.1)))))), ((cell_far (p := ⟨gb102, _, none⟩) NB101_102.out _).trans (((cell_far (p := ⟨gb102, _, none⟩) NB101_102.out _).trans (((cell_far (p := ⟨gb102, _, none⟩) NB101_102.out _).trans (hHeld.2.2))))))⟩ (fun hHeld => ?_)
 clear hK K
 refine done_ (done_of HT_.out (by kernel_rfl)) ?_
 try go_wp2
 refine bodyPost_ret (results_cell_row rfl _ _ gb102 25 #[.int .i64 a0_0, .slice Ao10 t103.length co10, .slice Ao9 t106.length co9] (0, 0) _ rfl (by refine zk ?_; refine blk_put (cs := #[.int .i64 a0_0, .slice Ao10 t103.length co10, .slice none 0 0]) ?_ 2 _ rfl; refine zk ?_; refine blk_put (cs := #[.int .i64 a0_0, .slice none 0 0, .slice none 0 0]) ?_ 1 _ rfl; refine zk ?_; refine blk_put (cs := #[.int .i64 0, .slice none 0 0, .slice none 0 0]) ?_ 0 _ rfl; refine zk ?_; exact BK102.out) Tryd.underlying25 rfl (by kernel_rfl)) rfl ?_
 exact ⟨_, _, zw, by (with_reducible repeat (first | apply Kd.R_alloc | apply Kd.R_drewN | apply Kd.R_drew)); exact Kd.R_mono (Kd.R_far (p := ⟨gb102, 2, none⟩) (Kd.R_far (p := ⟨gb102, 1, none⟩) (Kd.R_far (p := ⟨gb102, 0, none⟩) (Kd.R_types HO105.out BK102.out (by decide)) (fun _ hk => hk.2) (.int .i64 a0_0)) (fun _ hk => hk.2) (.slice Ao10 t103.length co10)) (fun _ hk => hk.2) (.slice Ao9 t106.length co9)) (fun _ hk => hk.1.2), by (with_reducible repeat (first | apply Kd.R_alloc | apply Kd.R_drewN | apply Kd.R_drew)); exact Kd.R_mono (Kd.R_far (p := ⟨gb102, 2, none⟩) (Kd.R_far (p := ⟨gb102, 1, none⟩) (Kd.R_far (p := ⟨gb102, 0, none⟩) (Kd.R_types HO108.out BK102.out (by decide)) (fun _ hk => hk.2) (.int .i64 a0_0)) (fun _ hk => hk.2) (.slice Ao10 t103.length co10)) (fun _ hk => hk.2) (.slice Ao9 t106.length co9)) (fun _ hk => hk.1.2), zb⟩


-- ==== PE0

theorem eqA33 (d : Nat) (w : World) (x0 y0 : ByteArray) (x1 y1 : Int) :
 (Op.equalIn (d + 2) 33 (.agg #[.string x0, .int .i64 x1]) (.agg #[.string y0, .int .i64 y1])).run Tryd.prog w = .ok (x0.toList == y0.toList && (x1 == y1)) w := by
 refine eqA_of Tryd.underlying33 (by kernel_rfl) ?_
 refine eqf_cons (by rfl) (by go_simp; rfl) (by go_simp; rfl) (by go_simp) ?_
 exact eqf_last (by rfl) (by go_simp; rfl) (by go_simp; rfl) (by go_simp)

-- ==== PF25

attribute [local go_sem high] eqA33
/-! ### aumbryref04_Same: function 25 -/
def aumbryref04_Same.l0 : Nat → List (S33) → List (S33) → Int → Int → Option (Bool)
 | 0, _, _, _, _ => none
 | k + 1, x0, x1, x12, x13 => if x13 < x12 then (if 0 ≤ x13 then (if x13 < (x0.length : Int) then (if x13 < (x1.length : Int) then (if (!((((rd_T33 x0 x13).f0).toList) == (((rd_T33 x1 x13).f0).toList)) || (!(((rd_T33 x0 x13).f1) == ((rd_T33 x1 x13).f1)))) = true then (some false) else (aumbryref04_Same.l0 k x0 x1 x12 (wrap64 (x13 + 1)))) else (none)) else (none)) else (none)) else (some true)
def aumbryref04_Same.f (k : Nat) (l0 : List (S33)) (l1 : List (S33)) : Option (Bool) := if (l0.length : Int) = (l1.length : Int) then (aumbryref04_Same.l0 k l0 l1 (l0.length : Int) 0) else (some false)
theorem aumbryref04_Same.mono_l : ∀ k, (∀ y0 y1 y2 y3, LeO (aumbryref04_Same.l0 k y0 y1 y2 y3) (aumbryref04_Same.l0 (k + 1) y0 y1 y2 y3))
 | 0 => fun _ _ _ _ r h => by simp [aumbryref04_Same.l0] at h
 | k + 1 => by
  have ih0 := aumbryref04_Same.mono_l k
  ·
   intro y0 y1 y2 y3
   unfold aumbryref04_Same.l0
   repeat' first
   | (with_reducible exact ih0 _ _ _ _)
   | (with_reducible exact LeO.refl _)
   | (with_reducible exact LeO.none _)
   | (with_reducible refine LeO.ite ?_ ?_)
   | (with_reducible refine LeO.bind ?_ (fun _ => ?_))
theorem aumbryref04_Same.mono : ∀ a0 a1 k, LeO (aumbryref04_Same.f k a0 a1) (aumbryref04_Same.f (k + 1) a0 a1) := by
 intro a0 a1 k
 have ih0 := aumbryref04_Same.mono_l k
 unfold aumbryref04_Same.f
 repeat' first
  | (with_reducible exact ih0 _ _ _ _)
  | (with_reducible exact LeO.refl _)
  | (with_reducible exact LeO.none _)
  | (with_reducible refine LeO.ite ?_ ?_)
  | (with_reducible refine LeO.bind ?_ (fun _ => ?_))
theorem aumbryref04_Same.calls (k : Nat) (A0 : Option Addr) (c0 : Nat) (l0 : List (S33)) (A1 : Option Addr) (c1 : Nat) (l1 : List (S33)) (r : Bool) (w : World) (hr0 : Kd.C k33 w A0 l0.length l0) (hc0 : l0.length ≤ c0) (hr1 : Kd.C k33 w A1 l1.length l1) (hc1 : l1.length ≤ c1) (h : aumbryref04_Same.f k l0 l1 = some r) :
 Calls Tryd.prog 25 #[.slice A0 l0.length c0, .slice A1 l1.length c1] w fun e w' => e = .returned (.bool r) ∧ Drawn0 w w' := by
 have hu33 := Tryd.underlying33
 have HR0 := zM hr0
 have HC0 := zM hc0
 clear hr0 hc0
 have HR1 := zM hr1
 have HC1 := zM hc1
 clear hr1 hc1
 have H : (if (l0.length : Int) = (l1.length : Int) then (aumbryref04_Same.l0 k l0 l1 (l0.length : Int) 0) else (some false)) = some r := h
 clear h
 by_cases c3 : (l0.length : Int) = (l1.length : Int)
 ·
  rw [if_pos c3] at H
  have c3b0 : ((l0.length : Int) == (l1.length : Int)) = true := zG c3
  have c3b1 : ((l0.length : Int) != (l1.length : Int)) = false := zH c3
  have c3b2 : (l0.length == l1.length) = true := by first | simpa using c3 | (simp at c3 ⊢; omega)
  clear c3
  have H' := zM H
  clear H
  go_enter Tryd.func25, Tryd.ntmps25
  go_wp2
  repeat (go_quiet (fail); try go_wp2)
  go_loopg [13] k (fun kq v13 w' => ∃ (x13_1 : Int), v13 = .int .i64 x13_1 ∧ Aside0 (aumbryref04_Same.l0 kq l0 l1 (l0.length : Int) x13_1 = some r) ∧ Aside0 (kq ≤ k) ∧ Drawn0 w w')
  case atStart => exact ⟨(0), zy, H', ⟨Nat.le_refl _⟩, zd⟩
  case round =>
   clear H'
   try clear c1
   try clear c2
   try clear p2
   try clear c3
   try clear c3b0
   try clear c3b1
   try clear c3b2
   obtain ⟨x13_1, rfl, HA, HK1, ⟨m1, rfl⟩⟩ := hrel
   cases gk with
   | zero => exact absurd HA.out (by simp [aumbryref04_Same.l0])
   | succ k1 =>
    have H := HA.out
    clear HA
    simp only [aumbryref04_Same.l0] at H
    by_cases c4 : x13_1 < (l0.length : Int)
    ·
     rw [if_pos c4] at H
     have c4b0 : decide (x13_1 < (l0.length : Int)) = true := zQ c4
     clear c4
     by_cases c5 : 0 ≤ x13_1
     ·
      rw [if_pos c5] at H
      have c5b0 : decide (0 ≤ x13_1) = true := zQ c5
      clear c5
      by_cases c6 : x13_1 < (l0.length : Int)
      ·
       rw [if_pos c6] at H
       have c6b0 : decide (x13_1 < (l0.length : Int)) = true := zQ c6
       clear c6
       by_cases c7 : x13_1 < (l1.length : Int)
       ·
        rw [if_pos c7] at H
        have c7b0 : decide (x13_1 < (l1.length : Int)) = true := zQ c7
        clear c7
        by_cases c8 : (!((((rd_T33 l0 x13_1).f0).toList) == (((rd_T33 l1 x13_1).f0).toList)) || (!(((rd_T33 l0 x13_1).f1) == ((rd_T33 l1 x13_1).f1)))) = true
        ·
         rw [if_pos c8] at H
         have c8b0 : (!((((rd_T33 l0 x13_1).f0).toList) == (((rd_T33 l1 x13_1).f0).toList)) || (!(((rd_T33 l0 x13_1).f1) == ((rd_T33 l1 x13_1).f1)))) = true := c8
         clear c8
         obtain rfl := zS H
         have p101 : 0 ≤ (x13_1 : Int) := zT zv
         have q101 : x13_1 < (l0.length : Int) := zT zv
         obtain ⟨ad101, e101, hx101_0, hx101_1⟩ := at_T33 HR0.out x13_1 p101 q101
         cases e101
         replace p101 := eq_true p101
         replace q101 := eq_true q101
         have p102 : 0 ≤ (x13_1 : Int) := zT zv
         have q102 : x13_1 < (l1.length : Int) := zT zv
         obtain ⟨ad102, e102, hx102_0, hx102_1⟩ := at_T33 HR1.out x13_1 p102 q102
         cases e102
         replace p102 := eq_true p102
         replace q102 := eq_true q102
         go_wp2
         repeat (go_quiet (fail); try go_wp2)
         go_ret
         exact ⟨zy, zd⟩
        ·
         rw [if_neg c8] at H
         have c8b0 : (!((((rd_T33 l0 x13_1).f0).toList) == (((rd_T33 l1 x13_1).f0).toList)) || (!(((rd_T33 l0 x13_1).f1) == ((rd_T33 l1 x13_1).f1)))) = false := by simpa using c8
         clear c8
         have H' := zM H
         clear H
         have p101 : 0 ≤ (x13_1 : Int) := zT zv
         have q101 : x13_1 < (l0.length : Int) := zT zv
         obtain ⟨ad101, e101, hx101_0, hx101_1⟩ := at_T33 HR0.out x13_1 p101 q101
         cases e101
         replace p101 := eq_true p101
         replace q101 := eq_true q101
         have p102 : 0 ≤ (x13_1 : Int) := zT zv
         have q102 : x13_1 < (l1.length : Int) := zT zv
         obtain ⟨ad102, e102, hx102_0, hx102_1⟩ := at_T33 HR1.out x13_1 p102 q102
         cases e102
         replace p102 := eq_true p102
         replace q102 := eq_true q102
         go_wp2
         repeat (go_quiet (fail); try go_wp2)
         go_roundg k1
         case measure => have := HK1.out; omega
         case rel => exact ⟨(wrap64 (x13_1 + 1)), zy, H', ⟨by have := HK1.out; omega⟩, zd⟩
       ·
        rw [if_neg c7] at H
        exact absurd H (by simp)
      ·
       rw [if_neg c6] at H
       exact absurd H (by simp)
     ·
      rw [if_neg c5] at H
      exact absurd H (by simp)
    ·
     rw [if_neg c4] at H
     have c4b0 : decide (x13_1 < (l0.length : Int)) = false := zR c4
     clear c4
     obtain rfl := zS H
     go_wp2
     repeat (go_quiet (fail); try go_wp2)
     go_ret
     exact ⟨zy, zd⟩
 ·
  rw [if_neg c3] at H
  have c3b0 : ((l0.length : Int) == (l1.length : Int)) = false := zE c3
  have c3b1 : ((l0.length : Int) != (l1.length : Int)) = true := zF c3
  have c3b2 : (l0.length == l1.length) = false := by first | simpa using c3 | (simp at c3 ⊢; omega)
  obtain rfl := zS H
  go_enter Tryd.func25, Tryd.ntmps25
  go_wp2
  repeat (go_quiet (fail); try go_wp2)
  go_ret
  exact ⟨zy, zd⟩


-- ==== PF17

/-! ### aumbryref06_Same: function 17 -/
def aumbryref06_Same.f (k : Nat) (a0_0 : Int) (l0_1 : List (S33)) (l0_2 : List (S33)) (a1_0 : Int) (l1_1 : List (S33)) (l1_2 : List (S33)) : Option (Bool) := if a0_0 = a1_0 then ((aumbryref04_Same.f k l0_1 l1_1).bind fun t103 => (if t103 = true then ((aumbryref04_Same.f k l0_2 l1_2).bind fun t104 => (some t104)) else (some false))) else (some false)
theorem aumbryref06_Same.mono : ∀ a0 a1 a2 a3 a4 a5 k, LeO (aumbryref06_Same.f k a0 a1 a2 a3 a4 a5) (aumbryref06_Same.f (k + 1) a0 a1 a2 a3 a4 a5) := by
 intro a0 a1 a2 a3 a4 a5 k
 unfold aumbryref06_Same.f
 repeat' first
  | (with_reducible exact aumbryref04_Same.mono _ _ _)
  | (with_reducible exact LeO.refl _)
  | (with_reducible exact LeO.none _)
  | (with_reducible refine LeO.ite ?_ ?_)
  | (with_reducible refine LeO.bind ?_ (fun _ => ?_))
theorem aumbryref06_Same.calls (k : Nat) (a0_0 : Int) (A0_1 : Option Addr) (c0_1 : Nat) (l0_1 : List (S33)) (A0_2 : Option Addr) (c0_2 : Nat) (l0_2 : List (S33)) (a1_0 : Int) (A1_1 : Option Addr) (c1_1 : Nat) (l1_1 : List (S33)) (A1_2 : Option Addr) (c1_2 : Nat) (l1_2 : List (S33)) (r : Bool) (w : World) (hr0_1 : Kd.C k33 w A0_1 l0_1.length l0_1) (hc0_1 : l0_1.length ≤ c0_1) (hr0_2 : Kd.C k33 w A0_2 l0_2.length l0_2) (hc0_2 : l0_2.length ≤ c0_2) (hr1_1 : Kd.C k33 w A1_1 l1_1.length l1_1) (hc1_1 : l1_1.length ≤ c1_1) (hr1_2 : Kd.C k33 w A1_2 l1_2.length l1_2) (hc1_2 : l1_2.length ≤ c1_2) (h : aumbryref06_Same.f k a0_0 l0_1 l0_2 a1_0 l1_1 l1_2 = some r) :
 Calls Tryd.prog 17 #[.agg #[.int .i64 a0_0, .slice A0_1 l0_1.length c0_1, .slice A0_2 l0_2.length c0_2], .agg #[.int .i64 a1_0, .slice A1_1 l1_1.length c1_1, .slice A1_2 l1_2.length c1_2]] w fun e w' => e = .returned (.bool r) ∧ Below w.heap.size w w' := by
 have hu25 := Tryd.underlying25
 have HR0_1 := zM hr0_1
 have HC0_1 := zM hc0_1
 clear hr0_1 hc0_1
 have HR0_2 := zM hr0_2
 have HC0_2 := zM hc0_2
 clear hr0_2 hc0_2
 have HR1_1 := zM hr1_1
 have HC1_1 := zM hc1_1
 clear hr1_1 hc1_1
 have HR1_2 := zM hr1_2
 have HC1_2 := zM hc1_2
 clear hr1_2 hc1_2
 have HB := zM (Below.refl w.heap.size w)
 have H : (if a0_0 = a1_0 then ((aumbryref04_Same.f k l0_1 l1_1).bind fun t103 => (if t103 = true then ((aumbryref04_Same.f k l0_2 l1_2).bind fun t104 => (some t104)) else (some false))) else (some false)) = some r := h
 clear h
 by_cases c3 : a0_0 = a1_0
 ·
  rw [if_pos c3] at H
  have c3b0 : (a0_0 == a1_0) = true := zG c3
  have c3b1 : (a0_0 != a1_0) = false := zH c3
  clear c3
  replace H := zB H
  obtain ⟨t103, A40, H⟩ := H
  try dsimp only at H
  have A4 := zM A40
  clear A40
  by_cases c5 : t103 = true
  ·
   subst c5
   rw [if_pos rfl] at H
   replace H := zB H
   obtain ⟨t104, A60, H⟩ := H
   try dsimp only at H
   have A6 := zM A60
   clear A60
   obtain rfl := zS H
   go_enter Tryd.func17, Tryd.ntmps17
   go_wp2_with (first | ((with_reducible refine gate_dst (N := 2) rfl ?_); refine box_event ?hg (N := 2) ?hd (cs := #[.int .i64 a0_0, .slice A0_1 l0_1.length c0_1, .slice A0_2 l0_2.length c0_2]) (t := 25) ?hr ?_; (case hd => rfl); (case hg => rfl); (case hr => first | (go_simp; done) | (go_simp; rfl)); intro gb101 hg w7 hbox hb; have BK101 := zM (hbox); have GW101 := zM (zh hg : w.heap.size ≤ gb101); have GE101 := zM (zh hg : w.heap.size ≤ gb101); replace HB := zM (below_step zb hb); clear hb hbox hg) | ((with_reducible refine gate_dst (N := 3) rfl ?_); refine box_event ?hg (N := 3) ?hd (cs := #[.int .i64 a1_0, .slice A1_1 l1_1.length c1_1, .slice A1_2 l1_2.length c1_2]) (t := 25) ?hr ?_; (case hd => rfl); (case hg => rfl); (case hr => first | (go_simp; done) | (go_simp; rfl)); intro gb102 hg w8 hbox hb; have BK102 := zM (hbox); have GW102 := zM (zh hg : w.heap.size ≤ gb102); have GE102 := zM (zh hg : w.heap.size ≤ gb102); replace HB := zM (below_step zb hb); have NB101_102 := zM ((by rw [hg]; exact Nat.ne_of_lt (blk_lt (zk BK101.out)) : gb101 ≠ gb102)); have NB102_101 := zM ((by rw [hg]; exact Nat.ne_of_gt (blk_lt (zk BK101.out)) : gb102 ≠ gb101)); replace BK101 := zM (blk_below (zk BK101.out) hb); clear hb hbox hg; have hnb9 := NB101_102.out; have hnc9 := NB102_101.out; have hcz10_0 : w8.cell? ⟨gb101, 0, none⟩ = some (.int .i64 a0_0) := (zX BK101.out 0).trans rfl; have hcz10_1 : w8.cell? ⟨gb101, 1, none⟩ = some (.slice A0_1 l0_1.length c0_1) := (zX BK101.out 1).trans rfl; have hcz10_2 : w8.cell? ⟨gb101, 2, none⟩ = some (.slice A0_2 l0_2.length c0_2) := (zX BK101.out 2).trans rfl; have hfz10_0 := zY BK101.out 0; have hfz10_1 := zY BK101.out 1; have hfz10_2 := zY BK101.out 2; have hcz11_0 : w8.cell? ⟨gb102, 0, none⟩ = some (.int .i64 a1_0) := (zX BK102.out 0).trans rfl; have hcz11_1 : w8.cell? ⟨gb102, 1, none⟩ = some (.slice A1_1 l1_1.length c1_1) := (zX BK102.out 1).trans rfl; have hcz11_2 : w8.cell? ⟨gb102, 2, none⟩ = some (.slice A1_2 l1_2.length c1_2) := (zX BK102.out 2).trans rfl; have hfz11_0 := zY BK102.out 0; have hfz11_1 := zY BK102.out 1; have hfz11_2 := zY BK102.out 2) | (go_at_call 25; (with_reducible refine (aumbryref04_Same.calls k _ _ l0_1 _ _ l1_1 true _ ?side1 ?side2 ?side3 ?side4 A4.out).mono ?_); (case side1 => exact Kd.C_below HR0_1.out zb); (case side2 => exact HC0_1.out); (case side3 => exact Kd.C_below HR1_1.out zb); (case side4 => exact HC1_1.out); rintro e w' ⟨rfl, ⟨nd, rfl⟩⟩) | (go_at_call 25; (with_reducible refine (aumbryref04_Same.calls k _ _ l0_2 _ _ l1_2 t104 _ ?side1 ?side2 ?side3 ?side4 A6.out).mono ?_); (case side1 => exact Kd.C_below (Kd.C_below HR0_2.out zb) zg); (case side2 => exact HC0_2.out); (case side3 => exact Kd.C_below (Kd.C_below HR1_2.out zb) zg); (case side4 => exact HC1_2.out); rintro e w' ⟨rfl, ⟨nd, rfl⟩⟩))
   go_ret
   exact ⟨zw, zb⟩
  ·
   replace c5 := zI c5
   subst c5
   rw [if_neg (show ¬ (false = true) by decide)] at H
   obtain rfl := zS H
   go_enter Tryd.func17, Tryd.ntmps17
   go_wp2_with (first | ((with_reducible refine gate_dst (N := 2) rfl ?_); refine box_event ?hg (N := 2) ?hd (cs := #[.int .i64 a0_0, .slice A0_1 l0_1.length c0_1, .slice A0_2 l0_2.length c0_2]) (t := 25) ?hr ?_; (case hd => rfl); (case hg => rfl); (case hr => first | (go_simp; done) | (go_simp; rfl)); intro gb101 hg w12 hbox hb; have BK101 := zM (hbox); have GW101 := zM (zh hg : w.heap.size ≤ gb101); have GE101 := zM (zh hg : w.heap.size ≤ gb101); replace HB := zM (below_step zb hb); clear hb hbox hg) | ((with_reducible refine gate_dst (N := 3) rfl ?_); refine box_event ?hg (N := 3) ?hd (cs := #[.int .i64 a1_0, .slice A1_1 l1_1.length c1_1, .slice A1_2 l1_2.length c1_2]) (t := 25) ?hr ?_; (case hd => rfl); (case hg => rfl); (case hr => first | (go_simp; done) | (go_simp; rfl)); intro gb102 hg w13 hbox hb; have BK102 := zM (hbox); have GW102 := zM (zh hg : w.heap.size ≤ gb102); have GE102 := zM (zh hg : w.heap.size ≤ gb102); replace HB := zM (below_step zb hb); have NB101_102 := zM ((by rw [hg]; exact Nat.ne_of_lt (blk_lt (zk BK101.out)) : gb101 ≠ gb102)); have NB102_101 := zM ((by rw [hg]; exact Nat.ne_of_gt (blk_lt (zk BK101.out)) : gb102 ≠ gb101)); replace BK101 := zM (blk_below (zk BK101.out) hb); clear hb hbox hg; have hnb14 := NB101_102.out; have hnc14 := NB102_101.out; have hcz15_0 : w13.cell? ⟨gb101, 0, none⟩ = some (.int .i64 a0_0) := (zX BK101.out 0).trans rfl; have hcz15_1 : w13.cell? ⟨gb101, 1, none⟩ = some (.slice A0_1 l0_1.length c0_1) := (zX BK101.out 1).trans rfl; have hcz15_2 : w13.cell? ⟨gb101, 2, none⟩ = some (.slice A0_2 l0_2.length c0_2) := (zX BK101.out 2).trans rfl; have hfz15_0 := zY BK101.out 0; have hfz15_1 := zY BK101.out 1; have hfz15_2 := zY BK101.out 2; have hcz16_0 : w13.cell? ⟨gb102, 0, none⟩ = some (.int .i64 a1_0) := (zX BK102.out 0).trans rfl; have hcz16_1 : w13.cell? ⟨gb102, 1, none⟩ = some (.slice A1_1 l1_1.length c1_1) := (zX BK102.out 1).trans rfl; have hcz16_2 : w13.cell? ⟨gb102, 2, none⟩ = some (.slice A1_2 l1_2.length c1_2) := (zX BK102.out 2).trans rfl; have hfz16_0 := zY BK102.out 0; have hfz16_1 := zY BK102.out 1; have hfz16_2 := zY BK102.out 2) | (go_at_call 25; (with_reducible refine (aumbryref04_Same.calls k _ _ l0_1 _ _ l1_1 false _ ?side1 ?side2 ?side3 ?side4 A4.out).mono ?_); (case side1 => exact Kd.C_below HR0_1.out zb); (case side2 => exact HC0_1.out); (case side3 => exact Kd.C_below HR1_1.out zb); (case side4 => exact HC1_1.out); rintro e w' ⟨rfl, ⟨nd, rfl⟩⟩))
   go_ret
   exact ⟨zw, zb⟩
 ·
  rw [if_neg c3] at H
  have c3b0 : (a0_0 == a1_0) = false := zE c3
  have c3b1 : (a0_0 != a1_0) = true := zF c3
  obtain rfl := zS H
  go_enter Tryd.func17, Tryd.ntmps17
  go_wp2_with (first | ((with_reducible refine gate_dst (N := 2) rfl ?_); refine box_event ?hg (N := 2) ?hd (cs := #[.int .i64 a0_0, .slice A0_1 l0_1.length c0_1, .slice A0_2 l0_2.length c0_2]) (t := 25) ?hr ?_; (case hd => rfl); (case hg => rfl); (case hr => first | (go_simp; done) | (go_simp; rfl)); intro gb101 hg w17 hbox hb; have BK101 := zM (hbox); have GW101 := zM (zh hg : w.heap.size ≤ gb101); have GE101 := zM (zh hg : w.heap.size ≤ gb101); replace HB := zM (below_step zb hb); clear hb hbox hg) | ((with_reducible refine gate_dst (N := 3) rfl ?_); refine box_event ?hg (N := 3) ?hd (cs := #[.int .i64 a1_0, .slice A1_1 l1_1.length c1_1, .slice A1_2 l1_2.length c1_2]) (t := 25) ?hr ?_; (case hd => rfl); (case hg => rfl); (case hr => first | (go_simp; done) | (go_simp; rfl)); intro gb102 hg w18 hbox hb; have BK102 := zM (hbox); have GW102 := zM (zh hg : w.heap.size ≤ gb102); have GE102 := zM (zh hg : w.heap.size ≤ gb102); replace HB := zM (below_step zb hb); have NB101_102 := zM ((by rw [hg]; exact Nat.ne_of_lt (blk_lt (zk BK101.out)) : gb101 ≠ gb102)); have NB102_101 := zM ((by rw [hg]; exact Nat.ne_of_gt (blk_lt (zk BK101.out)) : gb102 ≠ gb101)); replace BK101 := zM (blk_below (zk BK101.out) hb); clear hb hbox hg; have hnb19 := NB101_102.out; have hnc19 := NB102_101.out; have hcz20_0 : w18.cell? ⟨gb101, 0, none⟩ = some (.int .i64 a0_0) := (zX BK101.out 0).trans rfl; have hcz20_1 : w18.cell? ⟨gb101, 1, none⟩ = some (.slice A0_1 l0_1.length c0_1) := (zX BK101.out 1).trans rfl; have hcz20_2 : w18.cell? ⟨gb101, 2, none⟩ = some (.slice A0_2 l0_2.length c0_2) := (zX BK101.out 2).trans rfl; have hfz20_0 := zY BK101.out 0; have hfz20_1 := zY BK101.out 1; have hfz20_2 := zY BK101.out 2; have hcz21_0 : w18.cell? ⟨gb102, 0, none⟩ = some (.int .i64 a1_0) := (zX BK102.out 0).trans rfl; have hcz21_1 : w18.cell? ⟨gb102, 1, none⟩ = some (.slice A1_1 l1_1.length c1_1) := (zX BK102.out 1).trans rfl; have hcz21_2 : w18.cell? ⟨gb102, 2, none⟩ = some (.slice A1_2 l1_2.length c1_2) := (zX BK102.out 2).trans rfl; have hfz21_0 := zY BK102.out 0; have hfz21_1 := zY BK102.out 1; have hfz21_2 := zY BK102.out 2))
  go_ret
  exact ⟨zw, zb⟩

end Go.Proofs.YtpnamhplhdaphaaDoor.P

-- ==== PM
/- A map from strings to ints that the call makes, read as a list of its stores, the latest first: what the walk asks of it. -/
namespace Go.Proofs.YtpnamhplhdaphaaDoor.P
open Go.RowKit Go.WideMaps Go.Maps Go.Proofs.YtpnamhplhdaphaaDoorW.PrintWords
set_option linter.unusedVariables false

def mapHas (m : List S33) (s : ByteArray) : Bool := m.any (fun x => x.f0.data.toList == s.data.toList)
def mapAt (m : List S33) (s : ByteArray) : Int := match m.find? (fun x => x.f0.data.toList == s.data.toList) with
 | some x => x.f1
 | none => 0
def mapPut (m : List S33) (s : ByteArray) (a : Int) : List S33 := ⟨s, a⟩ :: m

/-- One map has been written, its block is b or more, nothing else has turned. -/
def Mapped (base : Nat) (W w1 : World) : Prop := ∃ b es clock, base ≤ b ∧ W.heap[b]? = some (.map es clock) ∧ W.grownBy w1 (some b)

theorem below_mapped {w W w1 : World} {base : Nat} (h : Below base w W) (hm : Mapped base W w1) : Below base w w1 := by
 obtain ⟨b, es, clock, hb, hh, hg⟩ := hm
 refine ⟨hg.os.trans h.os, hg.tape.trans h.tape, hg.output.trans h.output, Nat.le_trans h.size hg.size, fun i hi => ?_⟩
 have := blk_lt hh
 exact (hg.block i (by omega) (by intro e; injection e with e; omega)).trans (h.block i hi)
theorem blk_mapped {W w1 : World} {base g : Nat} {o : Obj} (h : W.heap[g]? = some o) (hm : Mapped base W w1) (hne : ∀ es clock, o ≠ .map es clock := by intro _ _ h_; cases h_) : w1.heap[g]? = some o := by
 obtain ⟨b, es, clock, hb, hh, hg⟩ := hm
 refine (hg.block g (blk_lt h) (fun e => ?_)).trans h
 injection e with e
 subst e
 rw [h] at hh
 injection hh with hh
 exact hne _ _ hh

namespace Kd
section
variable {α : Type} {d : Kd α} {e base base' : Nat} {ok : Nat → Prop} {W w1 : World} {v : Value} {xs : List α}
theorem R_mapped (h : d.R e W base ok v xs) (hm : Mapped base' W w1) : d.R e w1 base ok v xs := by
 obtain ⟨b, es, clock, hb, hh, hg⟩ := hm
 refine Kd.R_mono (Kd.R_move (Kd.R_bound h) (fun k hk => hg.block k hk.2.2.1 (fun he => ?_))) (fun _ hk => hk.1)
 obtain ⟨_, _, _, q, hq, cells, hc⟩ := hk
 injection he with he
 subst he
 rw [hc] at hh
 cases hh
theorem S_mapped (h : Kd.S d e W base ok v xs) (hm : Mapped base' W w1) : Kd.S d e w1 base ok v xs := by
 obtain ⟨f, h⟩ := h
 exact ⟨f, R_mapped h hm⟩
end

def P (d : Kd S33) (e : Nat) (w : World) (base : Nat) (ok : Nat → Prop) (v : Value) (m : List S33) : Prop :=
 ∃ b, ∃ D : DataW Unit, v = .map (some b) ∧ ok b ∧ base ≤ b ∧ w.ownsMap Tryd.prog 9 (plainElem Tryd.prog 3) b m.length D ∧ IsMap D ∧
  ∀ s : ByteArray, Maps.has D (.string s.data.toList) = mapHas m s ∧ D.atKey (.string s.data.toList) (.lit (.int .i64 0)) = .lit (.int .i64 (mapAt m s))
section
variable {d : Kd S33} {e e' base base' : Nat} {ok ok' : Nat → Prop} {w w1 W : World} {v u : Value} {m : List S33}
theorem P_step (h : Kd.P d e w base ok v m) (hm : ∀ b es clock, ok b → w.heap[b]? = some (.map es clock) → w1.heap[b]? = w.heap[b]?) : Kd.P d e w1 base ok v m := by
 obtain ⟨b, D, rfl, ho, hb, ⟨es, clock, hh, hf⟩, hD, hs⟩ := h
 exact ⟨b, D, rfl, ho, hb, ⟨es, clock, (hm b es clock ho hh).trans hh, hf⟩, hD, hs⟩
theorem P_mono (h : Kd.P d e w base ok v m) (hk : ∀ k, ok k → ok' k) : Kd.P d e w base ok' v m := by
 obtain ⟨b, D, rfl, ho, r⟩ := h
 exact ⟨b, D, rfl, hk _ ho, r⟩
theorem P_lower (h : Kd.P d e w base ok v m) (hb : base' ≤ base) : Kd.P d e w base' ok v m := by
 obtain ⟨b, D, rfl, ho, h1, r⟩ := h
 exact ⟨b, D, rfl, ho, Nat.le_trans hb h1, r⟩
theorem P_below (h : Kd.P d e w base ok v m) (hb : Below w.heap.size w w1) : Kd.P d e w1 base ok v m := P_step h (fun b es clock _ hh => hb.block b (blk_lt hh))
theorem P_drew (h : Kd.P d e w base ok v m) : Kd.P d e w.drew base ok v m := P_below h (below_drew (Below.refl _ _))
theorem P_drewN (h : Kd.P d e w base ok v m) (n : Nat) : Kd.P d e (w.drewN n) base ok v m := P_below h (pw_below_drewN (Below.refl _ _) n)
theorem P_far (h : Kd.P d e w base ok v m) {p : Addr} (hok : ∀ k, ok k → k ≠ p.block) (x : Value) : Kd.P d e (w.setCell p x) base ok v m := P_step h (fun b _ _ ho _ => Below.heap_setCell w p x b (hok b ho))
theorem P_types (h : Kd.P d e w base ok v m) {g t : Nat} {cells : Array Value} (hb : w.heap[g]? = some (.cells cells t (0, 0))) (_ht : ∀ q, q ∈ e :: d.E → q ≠ t) : Kd.P d e w base (fun k => ok k ∧ k ≠ g) v m := by
 obtain ⟨b, D, rfl, ho, h1, ⟨es, clock, hh, hf⟩, r⟩ := h
 refine ⟨b, D, rfl, ⟨ho, fun he => ?_⟩, h1, ⟨es, clock, hh, hf⟩, r⟩
 subst he
 rw [hb] at hh
 cases hh
theorem P_over' (h : Kd.P d e W base ok u m) (hty : ∀ k, v.ownBlock = some k → ∃ cells, W.heap[k]? = some (.cells cells e' (0, 0))) (_ht : ∀ q, q ∈ e :: d.E → q ≠ e') (hg : W.grownBy w1 v.ownBlock) : Kd.P d e w1 base ok u m :=
 P_step h (fun b es clock _ hh => hg.block b (blk_lt hh) (fun he => by
  obtain ⟨cells, hc⟩ := hty b he.symm
  rw [hc] at hh
  cases hh))
end

section
variable {ops : Array Oper} {rest : List Oper} {o : Oper} {a : Act} {Q : Exit → Act → World → Prop} {W : World}
theorem P_make (d : Kd S33) {N : Tmp} (hg : o.guard = none) (hop : o.op = Op.makeMap 105 none) (_hN : o.dst = some N)
 (h : ∀ v w1, Kd.P d 105 w1 W.heap.size (fun _ => True) v [] → Below W.heap.size W w1 → wpList Tryd.prog ops Q rest (a.put o.dst v) w1) : wpList Tryd.prog ops Q (o :: rest) a W := by
 refine wpList_plain hg fun K hK => ?_
 unfold Oper.wp
 simp only [execOp, hop, Sem.run_bind, Sem.run_pure, Result.andThen]
 refine hK _ _ (h _ _ ⟨W.heap.size, .map [], rfl, trivial, Nat.le_refl _, World.ownsMap_made _ _ _ _, isMap_empty, fun s => ⟨rfl, rfl⟩⟩ (below_alloc (Below.refl _ _) _))
theorem P_look {d : Kd S33} {e base : Nat} {ok : Nat → Prop} {v : Value} {m : List S33} {s : ByteArray} {x y : Operand} (hg : o.guard = none) (hop : o.op = Op.lookup 105 x y true) (hm : a.eval x = v) (hx : a.eval y = .string s)
 (hs : s.size ≤ 9223372036854775807) (h : Kd.P d e W base ok v m) (hK : wpList Tryd.prog ops Q rest (a.put o.dst (.tuple #[.int .i64 (mapAt m s), .bool (mapHas m s)])) W) : wpList Tryd.prog ops Q (o :: rest) a W := by
 obtain ⟨b, D, rfl, _, _, hown, hD, hsp⟩ := h
 have hml : maxLen = 9223372036854775807 := by decide
 have zr : (zeroValue 3).run Tryd.prog W = .ok (.int .i64 0) W := by kernel_rfl
 refine wpList_lookup_own_ok_int (H := Unit) W hg x y 105 hop 9 3 .i64 (string_keyed Tryd.underlying9) Tryd.underlying105 Tryd.underlying3 zr b _ D hm hown (.string s) _ hx (keyOf_string_mk Tryd.underlying9 (by rw [hml]; exact hs)) ?_
 intro c hc _
 rw [(hsp s).2] at hc
 rw [(hsp s).1]
 have hc' : mapAt m s = c := (Lit.int.inj (DataW.lit.inj hc)).2
 rw [← hc']
 exact hK
theorem P_put {d : Kd S33} {e base : Nat} {ok : Nat → Prop} {v : Value} {m : List S33} {s : ByteArray} {n : Int} {x y z : Operand} (hg : o.guard = none) (hop : o.op = Op.mapUpdate 105 x y z) (hm : a.eval x = v) (hx : a.eval y = .string s) (hz : a.eval z = .int .i64 n)
 (hl : m.length < 9223372036854775807 ∧ s.size ≤ 9223372036854775807 ∧ 0 ≤ n ∧ n ≤ 9223372036854775807) (h : Kd.P d e W base ok v m)
 (hK : ∀ w1, Kd.P d e w1 base ok v (mapPut m s n) → Mapped base W w1 → wpList Tryd.prog ops Q rest (a.put o.dst undef) w1) : wpList Tryd.prog ops Q (o :: rest) a W := by
 obtain ⟨b, D, rfl, ho, hb, hown, hD, hsp⟩ := h
 have hml : maxLen = 9223372036854775807 := by decide
 refine wpList_mapUpdate_own (H := Unit) W hg x y z 105 hop 9 3 (string_keyed Tryd.underlying9) Tryd.underlying105 _ b _ D hm hown (by rw [hml]; exact hl.1) (.string s) (.int .i64 n) (.string s.data.toList) hx hz (keyOf_string_mk Tryd.underlying9 (by rw [hml]; exact hl.2.1)) _ [] (plainElem_int Tryd.underlying3 (WalkArith.wf_i64 (by omega))) ?_
 intro w1 h1 hgw
 obtain ⟨es, clock, hh, _⟩ := hown
 refine hK w1 ⟨b, _, rfl, ho, hb, h1, hD.put _ _, fun t => ?_⟩ ⟨b, es, clock, hb, hh, hgw⟩
 by_cases ht : s.data.toList = t.data.toList
 ·
  rw [← ht]
  refine ⟨?_, ?_⟩
  ·
   rw [has_put_same (k := .string s.data.toList) hD trivial]
   simp only [mapHas, mapPut, List.any_cons, ht, beq_self_eq_true, Bool.true_or]
  ·
   rw [atKey_put_same (k := .string s.data.toList) hD trivial]
   simp only [mapAt, mapPut, List.find?_cons, ht, beq_self_eq_true]
 ·
  have hne : (Lit.string t.data.toList) ≠ .string s.data.toList := fun he => ht (by injection he with he; exact he.symm)
  have hb' : (s.data.toList == t.data.toList) = false := by simpa using ht
  refine ⟨?_, ?_⟩
  ·
   rw [has_put_other hne, (hsp t).1]
   simp only [mapHas, mapPut, List.any_cons, hb', Bool.false_or]
  ·
   rw [atKey_put_other hne, (hsp t).2]
   simp only [mapAt, mapPut, List.find?_cons, hb']
end
end Kd
end Go.Proofs.YtpnamhplhdaphaaDoor.P

-- ==== PF72
namespace Go.Proofs.YtpnamhplhdaphaaDoor.P
open Go.RowKit Go.Proofs.YtpnamhplhdaphaaDoorW.PrintWords Go.Proofs.YtpnamhplhdaphaaDoorW.PrintLast Go.Proofs.YtpnamhplhdaphaaDoorW.PrintMore
attribute [local go_sem] max2_int min2_int max_two min_two max_three min_three max_four min_four   -- for this text's walks alone
set_option linter.unusedVariables false
set_option linter.unusedSimpArgs false

/-! ### match_variable: function 72 -/
def match_variable.f (k : Nat) (a0_0 : ByteArray) (a0_1 : Int) : Option (Bool) := (name_Kind.f k a0_0).bind fun t102 => (some (t102 == 2))
theorem match_variable.mono : ∀ a0 a1 k, LeO (match_variable.f k a0 a1) (match_variable.f (k + 1) a0 a1) := by
 intro a0 a1 k
 unfold match_variable.f
 repeat' first
  | (with_reducible exact name_Kind.mono _ _)
  | (with_reducible exact LeO.refl _)
  | (with_reducible exact LeO.none _)
  | (with_reducible refine LeO.ite ?_ ?_)
  | (with_reducible refine LeO.bind ?_ (fun _ => ?_))
theorem match_variable.calls (k : Nat) (a0_0 : ByteArray) (a0_1 : Int) (r : Bool) (w : World) (h : match_variable.f k a0_0 a0_1 = some r) :
 Calls Tryd.prog 72 #[.agg #[.string a0_0, .int .i64 a0_1]] w fun e w' => e = .returned (.bool r) ∧ Below w.heap.size w w' := by
 have hu33 := Tryd.underlying33
 have HB := zM (Below.refl w.heap.size w)
 have H : ((name_Kind.f k a0_0).bind fun t102 => (some (t102 == 2))) = some r := h
 clear h
 replace H := zB H
 obtain ⟨t102, A20, H⟩ := H
 try dsimp only at H
 have A2 := zM A20
 clear A20
 obtain rfl := zS H
 go_enter Tryd.func72, Tryd.ntmps72
 go_wp2_with (first | ((with_reducible refine gate_dst (N := 1) rfl ?_); refine box_event ?hg (N := 1) ?hd (cs := #[.string a0_0, .int .i64 a0_1]) (t := 33) ?hr ?_; (case hd => rfl); (case hg => rfl); (case hr => first | (go_simp; done) | (go_simp; rfl)); intro gb101 hg w3 hbox hb; have BK101 := zM (hbox); have GW101 := zM (zh hg : w.heap.size ≤ gb101); have GE101 := zM (zh hg : w.heap.size ≤ gb101); replace HB := zM (below_step zb hb); clear hb hbox hg; have hcz4_0 : w3.cell? ⟨gb101, 0, none⟩ = some (.string a0_0) := (zX BK101.out 0).trans rfl; have hcz4_1 : w3.cell? ⟨gb101, 1, none⟩ = some (.int .i64 a0_1) := (zX BK101.out 1).trans rfl; have hfz4_0 := zY BK101.out 0; have hfz4_1 := zY BK101.out 1) | ((with_reducible refine gate_callee (f := 34) rfl ?_); refine goesL_ (some 5) rfl rfl Tryd.func34 (by kernel_rfl) rfl #[.string a0_0] rfl zl ?_; (with_reducible refine (name_Kind.calls k a0_0 t102 _ A2.out).mono ?_); rintro e w' ⟨rfl, ⟨nd, rfl⟩⟩; refine ⟨_, rfl, ?_⟩))
 go_ret
 exact ⟨zw, zb⟩


-- ==== PF73

/-! ### match_end: function 73 -/
def match_end.l0 : Nat → List (S33) → Int → Int → Option (Int)
 | 0, _, _, _ => none
 | k + 1, x0, x1, x5 => if x5 > 0 then (if 0 ≤ x1 then (if x1 < (x0.length : Int) then (match_end.l0 k x0 (wrap64 (x1 + 1)) (wrap64 (x5 + (wrap64 (((rd_T33 x0 x1).f1) - 1))))) else (none)) else (none)) else (some x1)
def match_end.f (k : Nat) (l0 : List (S33)) (a1 : Int) : Option (Int) := match_end.l0 k l0 a1 1
theorem match_end.mono_l : ∀ k, (∀ y0 y1 y2, LeO (match_end.l0 k y0 y1 y2) (match_end.l0 (k + 1) y0 y1 y2))
 | 0 => fun _ _ _ r h => by simp [match_end.l0] at h
 | k + 1 => by
  have ih0 := match_end.mono_l k
  ·
   intro y0 y1 y2
   unfold match_end.l0
   repeat' first
   | (with_reducible exact ih0 _ _ _)
   | (with_reducible exact LeO.refl _)
   | (with_reducible exact LeO.none _)
   | (with_reducible refine LeO.ite ?_ ?_)
   | (with_reducible refine LeO.bind ?_ (fun _ => ?_))
theorem match_end.mono : ∀ a0 a1 k, LeO (match_end.f k a0 a1) (match_end.f (k + 1) a0 a1) := by
 intro a0 a1 k
 have ih0 := match_end.mono_l k
 unfold match_end.f
 repeat' first
  | (with_reducible exact ih0 _ _ _)
  | (with_reducible exact LeO.refl _)
  | (with_reducible exact LeO.none _)
  | (with_reducible refine LeO.ite ?_ ?_)
  | (with_reducible refine LeO.bind ?_ (fun _ => ?_))
theorem match_end.calls (k : Nat) (A0 : Option Addr) (c0 : Nat) (l0 : List (S33)) (a1 : Int) (r : Int) (w : World) (hr0 : Kd.C k33 w A0 l0.length l0) (hc0 : l0.length ≤ c0) (h : match_end.f k l0 a1 = some r) :
 Calls Tryd.prog 73 #[.slice A0 l0.length c0, .int .i64 a1] w fun e w' => e = .returned (.int .i64 r) ∧ Drawn0 w w' := by
 have HR0 := zM hr0
 have HC0 := zM hc0
 clear hr0 hc0
 have H : (match_end.l0 k l0 a1 1) = some r := h
 clear h
 have H' := zM H
 clear H
 go_enter Tryd.func73, Tryd.ntmps73
 go_wp2
 go_loopg [1, 5] k (fun kq v1 v5 w' => ∃ (x1_1 : Int) (x5_1 : Int), v1 = .int .i64 x1_1 ∧ v5 = .int .i64 x5_1 ∧ Aside0 (match_end.l0 kq l0 x1_1 x5_1 = some r) ∧ Aside0 (kq ≤ k) ∧ Drawn0 w w')
 case atStart => exact ⟨(a1), (1), zy, zy, H', ⟨Nat.le_refl _⟩, zd⟩
 case round =>
  clear H'
  try clear p2
  obtain ⟨x1_1, x5_1, rfl, rfl, HA, HK1, ⟨m1, rfl⟩⟩ := hrel
  cases gk with
  | zero => exact absurd HA.out (by simp [match_end.l0])
  | succ k1 =>
   have H := HA.out
   clear HA
   simp only [match_end.l0] at H
   by_cases c3 : x5_1 > 0
   ·
    rw [if_pos c3] at H
    have c3b0 : decide (0 < x5_1) = true := zQ c3
    clear c3
    by_cases c4 : 0 ≤ x1_1
    ·
     rw [if_pos c4] at H
     have c4b0 : decide (0 ≤ x1_1) = true := zQ c4
     clear c4
     by_cases c5 : x1_1 < (l0.length : Int)
     ·
      rw [if_pos c5] at H
      have c5b0 : decide (x1_1 < (l0.length : Int)) = true := zQ c5
      clear c5
      have H' := zM H
      clear H
      have p101 : 0 ≤ (x1_1 : Int) := zT zv
      have q101 : x1_1 < (l0.length : Int) := zT zv
      obtain ⟨ad101, e101, hx101_0, hx101_1⟩ := at_T33 HR0.out x1_1 p101 q101
      cases e101
      replace p101 := eq_true p101
      replace q101 := eq_true q101
      go_wp2
      go_roundg k1
      case measure => have := HK1.out; omega
      case rel => exact ⟨(wrap64 (x1_1 + 1)), (wrap64 (x5_1 + (wrap64 (((rd_T33 l0 x1_1).f1) - 1)))), zy, zy, H', ⟨by have := HK1.out; omega⟩, zd⟩
     ·
      rw [if_neg c5] at H
      exact absurd H (by simp)
    ·
     rw [if_neg c4] at H
     exact absurd H (by simp)
   ·
    rw [if_neg c3] at H
    have c3b0 : decide (0 < x5_1) = false := zR c3
    clear c3
    obtain rfl := zS H
    go_wp2
    go_ret
    exact ⟨zy, zd⟩


-- ==== PF74

attribute [local go_sem high] eqA33
/-! ### api_Cell_74: function 74 -/
def api_Cell_74.l0 : Nat → List (S33) → List (S33) → Int → Int → Option (Bool)
 | 0, _, _, _, _ => none
 | k + 1, x0, x1, x12, x13 => if x13 < x12 then (if 0 ≤ x13 then (if x13 < (x0.length : Int) then (if x13 < (x1.length : Int) then (if (!((((rd_T33 x0 x13).f0).toList) == (((rd_T33 x1 x13).f0).toList)) || (!(((rd_T33 x0 x13).f1) == ((rd_T33 x1 x13).f1)))) = true then (some false) else (api_Cell_74.l0 k x0 x1 x12 (wrap64 (x13 + 1)))) else (none)) else (none)) else (none)) else (some true)
def api_Cell_74.f (k : Nat) (l0 : List (S33)) (l1 : List (S33)) : Option (Bool) := if (l0.length : Int) = (l1.length : Int) then (api_Cell_74.l0 k l0 l1 (l0.length : Int) 0) else (some false)
theorem api_Cell_74.mono_l : ∀ k, (∀ y0 y1 y2 y3, LeO (api_Cell_74.l0 k y0 y1 y2 y3) (api_Cell_74.l0 (k + 1) y0 y1 y2 y3))
 | 0 => fun _ _ _ _ r h => by simp [api_Cell_74.l0] at h
 | k + 1 => by
  have ih0 := api_Cell_74.mono_l k
  ·
   intro y0 y1 y2 y3
   unfold api_Cell_74.l0
   repeat' first
   | (with_reducible exact ih0 _ _ _ _)
   | (with_reducible exact LeO.refl _)
   | (with_reducible exact LeO.none _)
   | (with_reducible refine LeO.ite ?_ ?_)
   | (with_reducible refine LeO.bind ?_ (fun _ => ?_))
theorem api_Cell_74.mono : ∀ a0 a1 k, LeO (api_Cell_74.f k a0 a1) (api_Cell_74.f (k + 1) a0 a1) := by
 intro a0 a1 k
 have ih0 := api_Cell_74.mono_l k
 unfold api_Cell_74.f
 repeat' first
  | (with_reducible exact ih0 _ _ _ _)
  | (with_reducible exact LeO.refl _)
  | (with_reducible exact LeO.none _)
  | (with_reducible refine LeO.ite ?_ ?_)
  | (with_reducible refine LeO.bind ?_ (fun _ => ?_))
theorem api_Cell_74.calls (k : Nat) (A0 : Option Addr) (c0 : Nat) (l0 : List (S33)) (A1 : Option Addr) (c1 : Nat) (l1 : List (S33)) (r : Bool) (w : World) (hr0 : Kd.C k33 w A0 l0.length l0) (hc0 : l0.length ≤ c0) (hr1 : Kd.C k33 w A1 l1.length l1) (hc1 : l1.length ≤ c1) (h : api_Cell_74.f k l0 l1 = some r) :
 Calls Tryd.prog 74 #[.slice A0 l0.length c0, .slice A1 l1.length c1] w fun e w' => e = .returned (.bool r) ∧ Drawn0 w w' := by
 have hu33 := Tryd.underlying33
 have HR0 := zM hr0
 have HC0 := zM hc0
 clear hr0 hc0
 have HR1 := zM hr1
 have HC1 := zM hc1
 clear hr1 hc1
 have H : (if (l0.length : Int) = (l1.length : Int) then (api_Cell_74.l0 k l0 l1 (l0.length : Int) 0) else (some false)) = some r := h
 clear h
 by_cases c3 : (l0.length : Int) = (l1.length : Int)
 ·
  rw [if_pos c3] at H
  have c3b0 : ((l0.length : Int) == (l1.length : Int)) = true := zG c3
  have c3b1 : ((l0.length : Int) != (l1.length : Int)) = false := zH c3
  have c3b2 : (l0.length == l1.length) = true := by first | simpa using c3 | (simp at c3 ⊢; omega)
  clear c3
  have H' := zM H
  clear H
  go_enter Tryd.func74, Tryd.ntmps74
  go_wp2
  repeat (go_quiet (fail); try go_wp2)
  go_loopg [13] k (fun kq v13 w' => ∃ (x13_1 : Int), v13 = .int .i64 x13_1 ∧ Aside0 (api_Cell_74.l0 kq l0 l1 (l0.length : Int) x13_1 = some r) ∧ Aside0 (kq ≤ k) ∧ Drawn0 w w')
  case atStart => exact ⟨(0), zy, H', ⟨Nat.le_refl _⟩, zd⟩
  case round =>
   clear H'
   try clear c1
   try clear p2
   try clear c3
   try clear c3b0
   try clear c3b1
   try clear c3b2
   obtain ⟨x13_1, rfl, HA, HK1, ⟨m1, rfl⟩⟩ := hrel
   cases gk with
   | zero => exact absurd HA.out (by simp [api_Cell_74.l0])
   | succ k1 =>
    have H := HA.out
    clear HA
    simp only [api_Cell_74.l0] at H
    by_cases c4 : x13_1 < (l0.length : Int)
    ·
     rw [if_pos c4] at H
     have c4b0 : decide (x13_1 < (l0.length : Int)) = true := zQ c4
     clear c4
     by_cases c5 : 0 ≤ x13_1
     ·
      rw [if_pos c5] at H
      have c5b0 : decide (0 ≤ x13_1) = true := zQ c5
      clear c5
      by_cases c6 : x13_1 < (l0.length : Int)
      ·
       rw [if_pos c6] at H
       have c6b0 : decide (x13_1 < (l0.length : Int)) = true := zQ c6
       clear c6
       by_cases c7 : x13_1 < (l1.length : Int)
       ·
        rw [if_pos c7] at H
        have c7b0 : decide (x13_1 < (l1.length : Int)) = true := zQ c7
        clear c7
        by_cases c8 : (!((((rd_T33 l0 x13_1).f0).toList) == (((rd_T33 l1 x13_1).f0).toList)) || (!(((rd_T33 l0 x13_1).f1) == ((rd_T33 l1 x13_1).f1)))) = true
        ·
         rw [if_pos c8] at H
         have c8b0 : (!((((rd_T33 l0 x13_1).f0).toList) == (((rd_T33 l1 x13_1).f0).toList)) || (!(((rd_T33 l0 x13_1).f1) == ((rd_T33 l1 x13_1).f1)))) = true := c8
         clear c8
         obtain rfl := zS H
         have p101 : 0 ≤ (x13_1 : Int) := zT zv
         have q101 : x13_1 < (l0.length : Int) := zT zv
         obtain ⟨ad101, e101, hx101_0, hx101_1⟩ := at_T33 HR0.out x13_1 p101 q101
         cases e101
         replace p101 := eq_true p101
         replace q101 := eq_true q101
         have p102 : 0 ≤ (x13_1 : Int) := zT zv
         have q102 : x13_1 < (l1.length : Int) := zT zv
         obtain ⟨ad102, e102, hx102_0, hx102_1⟩ := at_T33 HR1.out x13_1 p102 q102
         cases e102
         replace p102 := eq_true p102
         replace q102 := eq_true q102
         go_wp2
         repeat (go_quiet (fail); try go_wp2)
         go_ret
         exact ⟨zy, zd⟩
        ·
         rw [if_neg c8] at H
         have c8b0 : (!((((rd_T33 l0 x13_1).f0).toList) == (((rd_T33 l1 x13_1).f0).toList)) || (!(((rd_T33 l0 x13_1).f1) == ((rd_T33 l1 x13_1).f1)))) = false := by simpa using c8
         clear c8
         have H' := zM H
         clear H
         have p101 : 0 ≤ (x13_1 : Int) := zT zv
         have q101 : x13_1 < (l0.length : Int) := zT zv
         obtain ⟨ad101, e101, hx101_0, hx101_1⟩ := at_T33 HR0.out x13_1 p101 q101
         cases e101
         replace p101 := eq_true p101
         replace q101 := eq_true q101
         have p102 : 0 ≤ (x13_1 : Int) := zT zv
         have q102 : x13_1 < (l1.length : Int) := zT zv
         obtain ⟨ad102, e102, hx102_0, hx102_1⟩ := at_T33 HR1.out x13_1 p102 q102
         cases e102
         replace p102 := eq_true p102
         replace q102 := eq_true q102
         go_wp2
         repeat (go_quiet (fail); try go_wp2)
         go_roundg k1
         case measure => have := HK1.out; omega
         case rel => exact ⟨(wrap64 (x13_1 + 1)), zy, H', ⟨by have := HK1.out; omega⟩, zd⟩
       ·
        rw [if_neg c7] at H
        exact absurd H (by simp)
      ·
       rw [if_neg c6] at H
       exact absurd H (by simp)
     ·
      rw [if_neg c5] at H
      exact absurd H (by simp)
    ·
     rw [if_neg c4] at H
     have c4b0 : decide (x13_1 < (l0.length : Int)) = false := zR c4
     clear c4
     obtain rfl := zS H
     go_wp2
     repeat (go_quiet (fail); try go_wp2)
     go_ret
     exact ⟨zy, zd⟩
 ·
  rw [if_neg c3] at H
  have c3b0 : ((l0.length : Int) == (l1.length : Int)) = false := zE c3
  have c3b1 : ((l0.length : Int) != (l1.length : Int)) = true := zF c3
  have c3b2 : (l0.length == l1.length) = false := by first | simpa using c3 | (simp at c3 ⊢; omega)
  obtain rfl := zS H
  go_enter Tryd.func74, Tryd.ntmps74
  go_wp2
  repeat (go_quiet (fail); try go_wp2)
  go_ret
  exact ⟨zy, zd⟩


-- ==== PF51

attribute [local go_sem high] eqA33
/-! ### match_Match: function 51 -/
def match_Match.l0 : Nat → List (S33) → List (S109) → List (S33) → Int → List (S33) → Int → Int → Option ((List (S109)) × Bool × Int)
 | 0, _, _, _, _, _, _, _ => none
 | k + 1, x1, x10, x11, x12, x33, x34, x35 => if x35 < x34 then (if 0 ≤ x35 then (if x35 < (x33.length : Int) then ((match_variable.f k ((rd_T33 x33 x35).f0) ((rd_T33 x33 x35).f1)).bind fun t106 => (if t106 = true then ((match_end.f k x1 x12).bind fun t108 => (if 0 ≤ x12 then (if x12 ≤ t108 then (if t108 ≤ (x1.length : Int) then ((some ((x1.take (t108 : Int).toNat).drop (x12 : Int).toNat : List (S33))).bind fun y109 => (if ((rd_T33 x33 x35).f0).size ≤ 9223372036854775807 then (if (mapHas x11 ((rd_T33 x33 x35).f0) = true) then (if 0 ≤ (mapAt x11 ((rd_T33 x33 x35).f0)) then (if (mapAt x11 ((rd_T33 x33 x35).f0)) < (x10.length : Int) then ((api_Cell_74.f k ((rd_T109 x10 (mapAt x11 ((rd_T33 x33 x35).f0))).f1) y109).bind fun t114 => (if t114 = true then (match_Match.l0 k x1 x10 x11 (wrap64 (x12 + (y109.length : Int))) x33 x34 (wrap64 (x35 + 1))) else (some (([] : List (S109)), false, 0)))) else (none)) else (none)) else (if x11.length < 9223372036854775807 ∧ ((rd_T33 x33 x35).f0).size ≤ 9223372036854775807 ∧ 0 ≤ (x10.length : Int) ∧ (x10.length : Int) ≤ 9223372036854775807 then ((api_Cell_46.f y109).bind fun t118 => (if x10.length < 3518437208883 then (match_Match.l0 k x1 (x10 ++ [(⟨(rd_T33 x33 x35).f0, t118⟩ : S109)]) (mapPut x11 ((rd_T33 x33 x35).f0) (x10.length : Int)) (wrap64 (x12 + (y109.length : Int))) x33 x34 (wrap64 (x35 + 1))) else (none))) else (none))) else (none))) else (none)) else (none)) else (none))) else (if 0 ≤ x12 then (if x12 < (x1.length : Int) then (if (!((((rd_T33 x1 x12).f0).toList) == (((rd_T33 x33 x35).f0).toList)) || (!(((rd_T33 x1 x12).f1) == ((rd_T33 x33 x35).f1)))) = true then (some (([] : List (S109)), false, 0)) else (match_Match.l0 k x1 x10 x11 (wrap64 (x12 + 1)) x33 x34 (wrap64 (x35 + 1)))) else (none)) else (none)))) else (none)) else (none)) else (some (x10, true, 0))
def match_Match.g (k : Nat) (l0 : List (S33)) (l1 : List (S33)) : Option ((List (S109)) × Bool × Int) := match_Match.l0 k l1 ([] : List (S109)) (([] : List (S33))) 0 l0 (l0.length : Int) 0
def match_Match.f (k : Nat) (l0 : List (S33)) (l1 : List (S33)) : Option ((List (S109)) × Bool × Int) := (term_Check.f k l0).bind fun ta => (if ta = 0 then ((term_Check.f k l1).bind fun tb => (if tb = 0 then (match_Match.g k l0 l1) else (some (([] : List (S109)), false, tb)))) else (some (([] : List (S109)), false, ta)))
theorem match_Match.mono_l : ∀ k, (∀ y0 y1 y2 y3 y4 y5 y6, LeO (match_Match.l0 k y0 y1 y2 y3 y4 y5 y6) (match_Match.l0 (k + 1) y0 y1 y2 y3 y4 y5 y6))
 | 0 => fun _ _ _ _ _ _ _ r h => by simp [match_Match.l0] at h
 | k + 1 => by
  have ih0 := match_Match.mono_l k
  ·
   intro y0 y1 y2 y3 y4 y5 y6
   unfold match_Match.l0
   repeat' first
   | (with_reducible exact ih0 _ _ _ _ _ _ _)
   | (with_reducible exact api_Cell_74.mono _ _ _)
   | (with_reducible exact match_end.mono _ _ _)
   | (with_reducible exact match_variable.mono _ _ _)
   | (with_reducible exact LeO.refl _)
   | (with_reducible exact LeO.none _)
   | (with_reducible refine LeO.ite ?_ ?_)
   | (with_reducible refine LeO.bind ?_ (fun _ => ?_))
theorem match_Match.mono_g : ∀ a0 a1 k, LeO (match_Match.g k a0 a1) (match_Match.g (k + 1) a0 a1) := by
 intro a0 a1 k
 have ih0 := match_Match.mono_l k
 unfold match_Match.g
 repeat' first
  | (with_reducible exact ih0 _ _ _ _ _ _ _)
  | (with_reducible exact api_Cell_74.mono _ _ _)
  | (with_reducible exact match_end.mono _ _ _)
  | (with_reducible exact match_variable.mono _ _ _)
  | (with_reducible exact LeO.refl _)
  | (with_reducible exact LeO.none _)
  | (with_reducible refine LeO.ite ?_ ?_)
  | (with_reducible refine LeO.bind ?_ (fun _ => ?_))
theorem match_Match.mono : ∀ a0 a1 k, LeO (match_Match.f k a0 a1) (match_Match.f (k + 1) a0 a1) := by
 intro a0 a1 k
 unfold match_Match.f
 refine LeO.bind (term_Check.mono _ _) (fun _ => LeO.ite (LeO.bind (term_Check.mono _ _) (fun _ => LeO.ite (match_Match.mono_g _ _ _) (LeO.refl _))) (LeO.refl _))
def match_Match.T23 : Bool × List (List Nat × List Nat) := (true, [([], []), ([], []), ([1], [1]), ([], []), ([3], [3]), ([2, 4], [2, 4]), ([5], [5]), ([0, 6, 4], [0, 6]), ([7, 7, 0, 1, 2, 3, 4, 5, 6, 7], [0, 7])])
def match_Match.B23 : List Nat := [0, 0, 2, 0, 8, 30, 62, 127, 255]
theorem match_Match.tab23 : rtab .any (opsOf Tryd.f51 23) = match_Match.T23 := by kernel_rfl
theorem match_Match.bits23 : waitsOk match_Match.T23.2 match_Match.B23 = true := by kernel_rfl
theorem match_Match.calls (k : Nat) (A0 : Option Addr) (c0 : Nat) (l0 : List (S33)) (A1 : Option Addr) (c1 : Nat) (l1 : List (S33)) (r1 : List (S109)) (r2 : Bool) (r3 : Int) (w : World) (hr0 : Kd.C k33 w A0 l0.length l0) (hc0 : l0.length ≤ c0) (hr1 : Kd.C k33 w A1 l1.length l1) (hc1 : l1.length ≤ c1) (h : match_Match.f k l0 l1 = some (r1, r2, r3)) :
 Calls Tryd.prog 51 #[.slice A0 l0.length c0, .slice A1 l1.length c1] w fun e w' => ∃ v0_ : Value, e = .returned (.tuple #[v0_, .bool r2, .int .i64 r3]) ∧ Kd.S k109 109 w' w.heap.size (fun _ => True) v0_ r1 ∧ Below w.heap.size w w' := by
 have hu33 := Tryd.underlying33
 have hu109 := Tryd.underlying109
 have HR0 := zM hr0
 have HC0 := zM hc0
 clear hr0 hc0
 have HR1 := zM hr1
 have HC1 := zM hc1
 clear hr1 hc1
 have HB := zM (Below.refl w.heap.size w)
 have h0 : ((term_Check.f k l0).bind fun ta => (if ta = 0 then ((term_Check.f k l1).bind fun tb => (if tb = 0 then (match_Match.g k l0 l1) else (some (([] : List (S109)), false, tb)))) else (some (([] : List (S109)), false, ta)))) = some (r1, r2, r3) := h
 clear h
 replace h0 := zB h0
 obtain ⟨ta, Aa0, h0⟩ := h0
 have Aa := zM Aa0
 clear Aa0
 by_cases cta : ta = 0
 case neg =>
  have h1 : (some (([] : List (S109)), false, ta)) = some (r1, r2, r3) := by first | (rw [if_neg cta] at h0; exact h0) | exact (if_neg cta).symm.trans h0
  clear h0
  simp only [Option.some.injEq, Prod.mk.injEq] at h1
  obtain ⟨rfl, rfl, rfl⟩ := h1
  have ctab0 : (ta == 0) = false := zE cta
  have ctab1 : (ta != 0) = true := zF cta
  clear cta
  go_enter Tryd.func51, Tryd.ntmps51
  go_wp2
  refine wp_loop_rounds 1 ?_
  rw [rounds_succ]
  go_wp2_with (first | ((with_reducible refine gate_callee (f := 30) rfl ?_); refine goesL_ (some 27) rfl rfl Tryd.func30 (by kernel_rfl) rfl #[.slice A0 l0.length c0] rfl zl ?_; (with_reducible refine (term_Check.calls k _ _ l0 ta _ ?side1 ?side2 Aa.out).mono ?_); (case side1 => exact Kd.C_below HR0.out zg); (case side2 => exact HC0.out); rintro e w5 ⟨rfl, hb⟩; have hz1 : w5.cell? ⟨w.heap.size, 1, none⟩ = some (.slice A1 l1.length c1) := (hb.cell (p := ⟨w.heap.size, 1, none⟩) (by simp)).trans ((cell_of_row _ _ 1 _ _ (0, 0) (heap_alloc_new w _)).trans rfl); replace HB := zM (below_step (zA HB.out _) hb); refine ⟨_, rfl, ?_⟩))
  go_ret3
  exact ⟨_, zw, Kd.S_nil _ _ _ _ _, zb⟩
 case pos =>
 replace h0 : ((term_Check.f k l1).bind fun tb => (if tb = 0 then (match_Match.g k l0 l1) else (some (([] : List (S109)), false, tb)))) = some (r1, r2, r3) := (if_pos cta).symm.trans h0
 replace h0 := zB h0
 obtain ⟨tb, Ab0, h0⟩ := h0
 have Ab := zM Ab0
 clear Ab0
 have ctab0 : (ta == 0) = true := zG cta
 have ctab1 : (ta != 0) = false := zH cta
 clear cta
 by_cases ctb : tb = 0
 case neg =>
  have h1 : (some (([] : List (S109)), false, tb)) = some (r1, r2, r3) := by first | (rw [if_neg ctb] at h0; exact h0) | exact (if_neg ctb).symm.trans h0
  clear h0
  simp only [Option.some.injEq, Prod.mk.injEq] at h1
  obtain ⟨rfl, rfl, rfl⟩ := h1
  have ctbb0 : (tb == 0) = false := zE ctb
  have ctbb1 : (tb != 0) = true := zF ctb
  clear ctb
  go_enter Tryd.func51, Tryd.ntmps51
  go_wp2
  refine wp_loop_rounds 2 ?_
  rw [rounds_succ]
  go_wp2_with (first | ((with_reducible refine gate_callee (f := 30) rfl ?_); refine goesL_ (some 27) rfl rfl Tryd.func30 (by kernel_rfl) rfl #[.slice A0 l0.length c0] rfl zl ?_; (with_reducible refine (term_Check.calls k _ _ l0 ta _ ?side1 ?side2 Aa.out).mono ?_); (case side1 => exact Kd.C_below HR0.out zg); (case side2 => exact HC0.out); rintro e w5 ⟨rfl, hb⟩; have hz1 : w5.cell? ⟨w.heap.size, 1, none⟩ = some (.slice A1 l1.length c1) := (hb.cell (p := ⟨w.heap.size, 1, none⟩) (by simp)).trans ((cell_of_row _ _ 1 _ _ (0, 0) (heap_alloc_new w _)).trans rfl); replace HB := zM (below_step (zA HB.out _) hb); refine ⟨_, rfl, ?_⟩))
  rw [rounds_succ]
  go_wp2_with (first | ((with_reducible refine gate_callee (f := 30) rfl ?_); refine goesL_ (some 27) rfl rfl Tryd.func30 (by kernel_rfl) rfl #[.slice A1 l1.length c1] rfl zl ?_; (with_reducible refine (term_Check.calls k _ _ l1 tb _ ?side1 ?side2 Ab.out).mono ?_); (case side1 => exact Kd.C_below HR1.out HB.out); (case side2 => exact HC1.out); rintro e w6 ⟨rfl, hb⟩; replace HB := zM (below_step HB.out hb); refine ⟨_, rfl, ?_⟩))
  go_ret3
  exact ⟨_, zw, Kd.S_nil _ _ _ _ _, zb⟩
 case pos =>
 have h : match_Match.g k l0 l1 = some (r1, r2, r3) := (if_pos ctb).symm.trans h0
 clear h0
 have ctbb0 : (tb == 0) = true := zG ctb
 have ctbb1 : (tb != 0) = false := zH ctb
 clear ctb
 have H : (match_Match.l0 k l1 ([] : List (S109)) (([] : List (S33))) 0 l0 (l0.length : Int) 0) = some (r1, r2, r3) := h
 clear h
 obtain ⟨y101, hy101⟩ : ∃ y_ : List (S33), y_ = (([] : List (S33))) := ⟨_, rfl⟩
 replace H : (match_Match.l0 k l1 ([] : List (S109)) y101 0 l0 (l0.length : Int) 0) = some (r1, r2, r3) := by first | (rw [hy101]; with_reducible exact H) | (have H2_ := (Option.bind_some _ _).symm.trans H; rw [hy101]; with_reducible exact H2_) | (have H2_ := (Option.bind_some _ _).symm.trans H; with_reducible exact H2_) | with_reducible exact H | (rw [hy101]; exact H) | exact H
 have Ny101 := zM hy101
 clear hy101
 have H' := zM H
 clear H
 go_enter Tryd.func51, Tryd.ntmps51
 go_wp2
 refine wp_loop_rounds 3 ?_
 rw [rounds_succ]
 go_wp2_with (first | ((with_reducible refine gate_callee (f := 30) rfl ?_); refine goesL_ (some 27) rfl rfl Tryd.func30 (by kernel_rfl) rfl #[.slice A0 l0.length c0] rfl zl ?_; (with_reducible refine (term_Check.calls k _ _ l0 ta _ ?side1 ?side2 Aa.out).mono ?_); (case side1 => exact Kd.C_below HR0.out zg); (case side2 => exact HC0.out); rintro e w5 ⟨rfl, hb⟩; have hz1 : w5.cell? ⟨w.heap.size, 1, none⟩ = some (.slice A1 l1.length c1) := (hb.cell (p := ⟨w.heap.size, 1, none⟩) (by simp)).trans ((cell_of_row _ _ 1 _ _ (0, 0) (heap_alloc_new w _)).trans rfl); replace HB := zM (below_step (zA HB.out _) hb); refine ⟨_, rfl, ?_⟩))
 rw [rounds_succ]
 go_wp2_with (first | ((with_reducible refine gate_callee (f := 30) rfl ?_); refine goesL_ (some 27) rfl rfl Tryd.func30 (by kernel_rfl) rfl #[.slice A1 l1.length c1] rfl zl ?_; (with_reducible refine (term_Check.calls k _ _ l1 tb _ ?side1 ?side2 Ab.out).mono ?_); (case side1 => exact Kd.C_below HR1.out HB.out); (case side2 => exact HC1.out); rintro e w6 ⟨rfl, hb⟩; replace HB := zM (below_step HB.out hb); refine ⟨_, rfl, ?_⟩))
 rw [rounds_succ]
 go_wp2_with (first | ((with_reducible refine gate_dst (N := 32) rfl ?_); refine Kd.P_make k33 (N := 32) rfl rfl rfl ?_; intro v102 w3 ho4 hb; rw [← Ny101.out] at ho4; have HO103 := zM (Kd.P_lower ho4 (below_size zb)); replace HB := zM (below_step zb hb); clear hb ho4))
 go_loopg [10, 12, 35] k (fun kq v10 v12 v35 w' => ∃ (x10_1 : List (S109)) (x11_1 : List (S33)) (x12_1 : Int) (x35_1 : Int), v12 = .int .i64 x12_1 ∧ v35 = .int .i64 x35_1 ∧ Aside0 (match_Match.l0 kq l1 x10_1 x11_1 x12_1 l0 (l0.length : Int) x35_1 = some (r1, r2, r3)) ∧ Aside0 (kq ≤ k) ∧ Aside0 (Kd.S k109 109 w' w.heap.size (fun _ => True) v10 x10_1) ∧ Aside0 (Kd.P k33 105 w' w.heap.size (fun _ => True) v102 x11_1) ∧ Aside0 (Below w.heap.size w w'))
 case atStart => exact ⟨(([] : List (S109))), (y101), (0), (0), zy, zy, H', ⟨Nat.le_refl _⟩, ⟨by first | exact Kd.S_nil _ _ _ _ _ | exact Kd.N_nil _ _ _ _ _ | exact Kd.V_nil _ _ _ _ _ | exact Kd.Q_nil _ _ _ _ _ | exact Kd.R_nil _ _ _ _ _⟩, ⟨Kd.P_below HO103.out zg⟩, ⟨zb⟩⟩
 case round =>
  clear H'
  try clear c1
  try clear p2
  obtain ⟨x10_1, x11_1, x12_1, x35_1, rfl, rfl, HA, HK1, HO_10, HO_11, HB⟩ := hrel
  cases gk with
  | zero => exact absurd HA.out (by simp [match_Match.l0])
  | succ k1 =>
   have H := HA.out
   clear HA
   simp only [match_Match.l0] at H
   by_cases c5 : x35_1 < (l0.length : Int)
   ·
    rw [if_pos c5] at H
    have c5b0 : decide (x35_1 < (l0.length : Int)) = true := zQ c5
    clear c5
    by_cases c6 : 0 ≤ x35_1
    ·
     rw [if_pos c6] at H
     have c6b0 : decide (0 ≤ x35_1) = true := zQ c6
     clear c6
     by_cases c7 : x35_1 < (l0.length : Int)
     ·
      rw [if_pos c7] at H
      have c7b0 : decide (x35_1 < (l0.length : Int)) = true := zQ c7
      clear c7
      replace H := zB H
      obtain ⟨t106, A80, H⟩ := H
      try dsimp only at H
      have A8 := zM A80
      clear A80
      by_cases c9 : t106 = true
      ·
       subst c9
       rw [if_pos rfl] at H
       replace H := zB H
       obtain ⟨t108, A100, H⟩ := H
       try dsimp only at H
       have A10 := zM A100
       clear A100
       by_cases c11 : 0 ≤ x12_1
       ·
        rw [if_pos c11] at H
        have c11b0 := eq_true c11
        have c11b1 : decide (0 ≤ x12_1) = true := zQ c11
        clear c11
        by_cases c12 : x12_1 ≤ t108
        ·
         rw [if_pos c12] at H
         have c12b0 := eq_true c12
         have c12b1 : decide (x12_1 ≤ t108) = true := zQ c12
         clear c12
         by_cases c13 : t108 ≤ (l1.length : Int)
         ·
          rw [if_pos c13] at H
          have c13b0 := eq_true c13
          have c13b1 : decide (t108 ≤ (l1.length : Int)) = true := zQ c13
          clear c13
          obtain ⟨y109, hy109⟩ : ∃ y_ : List (S33), y_ = ((l1.take (t108 : Int).toNat).drop (x12_1 : Int).toNat) := ⟨_, rfl⟩
          replace H : (if ((rd_T33 l0 x35_1).f0).size ≤ 9223372036854775807 then (if (mapHas x11_1 ((rd_T33 l0 x35_1).f0) = true) then (if 0 ≤ (mapAt x11_1 ((rd_T33 l0 x35_1).f0)) then (if (mapAt x11_1 ((rd_T33 l0 x35_1).f0)) < (x10_1.length : Int) then ((api_Cell_74.f k1 ((rd_T109 x10_1 (mapAt x11_1 ((rd_T33 l0 x35_1).f0))).f1) y109).bind fun t114 => (if t114 = true then (match_Match.l0 k1 l1 x10_1 x11_1 (wrap64 (x12_1 + (y109.length : Int))) l0 (l0.length : Int) (wrap64 (x35_1 + 1))) else (some (([] : List (S109)), false, 0)))) else (none)) else (none)) else (if x11_1.length < 9223372036854775807 ∧ ((rd_T33 l0 x35_1).f0).size ≤ 9223372036854775807 ∧ 0 ≤ (x10_1.length : Int) ∧ (x10_1.length : Int) ≤ 9223372036854775807 then ((api_Cell_46.f y109).bind fun t118 => (if x10_1.length < 3518437208883 then (match_Match.l0 k1 l1 (x10_1 ++ [(⟨(rd_T33 l0 x35_1).f0, t118⟩ : S109)]) (mapPut x11_1 ((rd_T33 l0 x35_1).f0) (x10_1.length : Int)) (wrap64 (x12_1 + (y109.length : Int))) l0 (l0.length : Int) (wrap64 (x35_1 + 1))) else (none))) else (none))) else (none)) = some (r1, r2, r3) := by first | (rw [hy109]; with_reducible exact H) | (have H2_ := (Option.bind_some _ _).symm.trans H; rw [hy109]; with_reducible exact H2_) | (have H2_ := (Option.bind_some _ _).symm.trans H; with_reducible exact H2_) | with_reducible exact H | (rw [hy109]; exact H) | exact H
          have Ny109 := zM hy109
          clear hy109
          by_cases c14 : ((rd_T33 l0 x35_1).f0).size ≤ 9223372036854775807
          ·
           rw [if_pos c14] at H
           have LMc14 := zM c14
           clear c14
           by_cases c15 : (mapHas x11_1 ((rd_T33 l0 x35_1).f0) = true)
           ·
            rw [if_pos c15] at H
            have c15b0 : mapHas x11_1 ((rd_T33 l0 x35_1).f0) = true := c15
            clear c15
            by_cases c16 : 0 ≤ (mapAt x11_1 ((rd_T33 l0 x35_1).f0))
            ·
             rw [if_pos c16] at H
             have c16b0 : decide (0 ≤ (mapAt x11_1 ((rd_T33 l0 x35_1).f0))) = true := zQ c16
             clear c16
             by_cases c17 : (mapAt x11_1 ((rd_T33 l0 x35_1).f0)) < (x10_1.length : Int)
             ·
              rw [if_pos c17] at H
              have c17b0 : decide ((mapAt x11_1 ((rd_T33 l0 x35_1).f0)) < (x10_1.length : Int)) = true := zQ c17
              clear c17
              replace H := zB H
              obtain ⟨t114, A180, H⟩ := H
              try dsimp only at H
              have A18 := zM A180
              clear A180
              by_cases c19 : t114 = true
              ·
               subst c19
               rw [if_pos rfl] at H
               have H' := zM H
               clear H
               have p104 : 0 ≤ (x35_1 : Int) := zT zv
               have q104 : x35_1 < (l0.length : Int) := zT zv
               obtain ⟨ad104, e104, hx104_0, hx104_1⟩ := at_T33 HR0.out x35_1 p104 q104
               cases e104
               replace hx104_0 := (HB.out.cell (World.block_lt_of_cell? w _ hx104_0)).trans hx104_0
               replace hx104_1 := (HB.out.cell (World.block_lt_of_cell? w _ hx104_1)).trans hx104_1
               replace p104 := eq_true p104
               replace q104 := eq_true q104
               go_wp2_with (first | ((with_reducible refine gate_dst (N := 14) rfl ?_); refine box_event ?hg (N := 14) ?hd (cs := #[.string (⟨#[]⟩ : ByteArray), .int .i64 0]) (t := 33) ?hr ?_; (case hd => rfl); (case hg => rfl); (case hr => first | (go_simp; done) | (go_simp; rfl)); intro gb105 hg w20 hbox hb; replace HO_10 := zM (Kd.S_below (Kd.S_elderB (Kd.S_below HO_10.out zg) gb105 (Nat.le_of_eq hg.symm)) hb); replace HO_11 := zM (Kd.P_below (Kd.P_below HO_11.out zg) hb); have BK105 := zM (hbox); have GW105 := zM (zh hg : w.heap.size ≤ gb105); have GE105 := zM (zh hg : w.heap.size ≤ gb105); replace HB := zM (below_step zb hb); clear hb hbox hg; have hcz21_0 : w20.cell? ⟨gb105, 0, none⟩ = some (.string (⟨#[]⟩ : ByteArray)) := (zX BK105.out 0).trans rfl; have hcz21_1 : w20.cell? ⟨gb105, 1, none⟩ = some (.int .i64 0) := (zX BK105.out 1).trans rfl; have hfz21_0 := zY BK105.out 0; have hfz21_1 := zY BK105.out 1) | ((with_reducible refine gate_callee (f := 72) rfl ?_); refine goesL_ (some 40) rfl rfl Tryd.func72 (by kernel_rfl) rfl #[.agg #[.string ((rd_T33 l0 x35_1).f0), .int .i64 ((rd_T33 l0 x35_1).f1)]] rfl zl ?_; (with_reducible refine (match_variable.calls k1 ((rd_T33 l0 x35_1).f0) ((rd_T33 l0 x35_1).f1) true _ A8.out).mono ?_); rintro e w22 ⟨rfl, hb⟩; refine ⟨_, rfl, ?_⟩; replace HO_10 := zM (Kd.S_below (by (with_reducible repeat (first | apply Kd.S_alloc | apply Kd.S_drewN | apply Kd.S_drew)); exact (Kd.S_mono (Kd.S_far (p := ⟨gb105, 1, none⟩) (Kd.S_far (p := ⟨gb105, 0, none⟩) (Kd.S_mono HO_10.out (fun k_ hk => (⟨hk, hk.2⟩ : _ ∧ k_ ≠ gb105))) (fun _ hk => hk.2) (.string ((rd_T33 l0 x35_1).f0))) (fun _ hk => hk.2) (.int .i64 ((rd_T33 l0 x35_1).f1))) (fun _ h_ => h_.1))) hb); replace HO_11 := zM (Kd.P_below (by (with_reducible repeat (first | apply Kd.P_alloc | apply Kd.P_drewN | apply Kd.P_drew)); exact (Kd.P_mono (Kd.P_far (p := ⟨gb105, 1, none⟩) (Kd.P_far (p := ⟨gb105, 0, none⟩) (Kd.P_types HO_11.out BK105.out (by decide)) (fun _ hk => hk.2) (.string ((rd_T33 l0 x35_1).f0))) (fun _ hk => hk.2) (.int .i64 ((rd_T33 l0 x35_1).f1))) (fun _ h_ => h_.1))) hb); replace BK105 := zM (blk_below (g := gb105) (o := .cells #[.string ((rd_T33 l0 x35_1).f0), .int .i64 ((rd_T33 l0 x35_1).f1)] 33 (0, 0)) (by refine zk ?_; refine blk_put (cs := #[.string ((rd_T33 l0 x35_1).f0), .int .i64 0]) ?_ 1 _ rfl; refine zk ?_; refine blk_put (cs := #[.string (⟨#[]⟩ : ByteArray), .int .i64 0]) ?_ 0 _ rfl; refine zk ?_; exact BK105.out) hb); replace HB := zM (below_step zb hb); (try clear hb)) | ((with_reducible refine gate_callee (f := 73) rfl ?_); refine goesL_ (some 54) rfl rfl Tryd.func73 (by kernel_rfl) rfl #[.slice A1 l1.length c1, .int .i64 x12_1] rfl zl ?_; (with_reducible refine (match_end.calls k1 _ _ l1 x12_1 t108 _ ?side1 ?side2 A10.out).mono ?_); (case side1 => exact Kd.C_below HR1.out zb); (case side2 => exact HC1.out); rintro e w' ⟨rfl, ⟨nd, rfl⟩⟩; refine ⟨_, rfl, ?_⟩; have q23 : (t108 : Int) ≤ ((l1.length : Int) : Int) := zT zv; obtain ⟨i023, hi023, _, hsz23, _⟩ := info_parts info33; have hroom23 : l1.length ≤ c1 := HC1.out; have hC23 : Kd.C k33 _ A1 l1.length l1 := HR1.out; have ql23 : (x12_1 : Int) ≤ (t108 : Int) := zT zv; have q023 : (0 : Int) ≤ (x12_1 : Int) := zT zv; have hcut23 := cut_mid (P := Tryd.prog) 23 33 .i64 .i64 Tryd.underlying23 hi023 2 hsz23 A1 l1.length c1 x12_1 t108 q023 ql23 q23 hroom23; have hr23 := Kd.C_mid (lo := (x12_1 : Int).toNat) (hi := (t108 : Int).toNat) (c := c1) hC23 (by omega) (by omega) hroom23; obtain ⟨A23, hA23⟩ : ∃ Aq_, Aq_ = (if c1 = (x12_1 : Int).toNat then A1 else (A1 : Option Addr).map (·.add ((x12_1 : Int).toNat * 2))) := ⟨_, rfl⟩; obtain ⟨c23, hc23⟩ : ∃ cq_, cq_ = c1 - (x12_1 : Int).toNat := ⟨_, rfl⟩; have hy23 : y109.length = (t108 : Int).toNat - (x12_1 : Int).toNat := (by rw [Ny109.out, List.length_drop, List.length_take] <;> omega); rw [show ((l1).take (t108 : Int).toNat).drop (x12_1 : Int).toNat = y109 from Ny109.out.symm] at hr23; replace hr23 : Kd.C k33 _ A23 y109.length y109 := (by rw [hA23]; exact hr23); rw [← hy23, ← hA23, ← hc23] at hcut23; have HR112 := zM hr23; have HC112 := zM (show y109.length ≤ c23 from by rw [hy23, hc23]; exact Nat.sub_le_sub_right (Nat.le_trans (by omega) hroom23) _); clear hr23 hC23 hroom23 hi023 hsz23 hc23; have KY23 := zM hy23; have KA23 := zM hA23; clear hy23 hA23; replace q23 := eq_true q23; have hcz24_0 : w22.cell? ⟨gb105, 0, none⟩ = some (.string ((rd_T33 l0 x35_1).f0)) := (zX BK105.out 0).trans rfl; have hcz24_1 : w22.cell? ⟨gb105, 1, none⟩ = some (.int .i64 ((rd_T33 l0 x35_1).f1)) := (zX BK105.out 1).trans rfl; have hfz24_0 := zY BK105.out 0; have hfz24_1 := zY BK105.out 1; obtain ⟨Ao25, co25, eo25⟩ := Kd.S_slice HO_10.out; subst eo25; have p113 : 0 ≤ ((mapAt x11_1 ((rd_T33 l0 x35_1).f0)) : Int) := zT zv; have q113 : (mapAt x11_1 ((rd_T33 l0 x35_1).f0)) < (x10_1.length : Int) := zT zv; obtain ⟨ad113, A113_1, c113_1, e113, hx113_0, hx113_1, hl113_1, hi113_1⟩ := at_T109 (Kd.S_reads' HO_10.out).2.2 (mapAt x11_1 ((rd_T33 l0 x35_1).f0)) p113 q113; cases e113; obtain ⟨ce113, hce113, hMe113, hcc113⟩ := Kd.S_get HO_10.out z109 (mapAt x11_1 ((rd_T33 l0 x35_1).f0)) p113 (by first | exact q113 | exact zT zv | (have e_ := (Kd.S_reads' HO_10.out).1; omega)); obtain ⟨ve113_1, rfl, ge113_1⟩ := k109_openM hMe113; have hv113_1 := hcc113 1 _ rfl; rw [add_field _ _ 1 (by omega)] at hv113_1; replace hv113_1 := zS (hv113_1.symm.trans hx113_1); rw [hv113_1] at ge113_1; have HL113_1 := zM (show Kd.R k33 33 _ _ _ _ ((rd_T109 x10_1 (mapAt x11_1 ((rd_T33 l0 x35_1).f0))).f1) from ge113_1); clear hv113_1 ge113_1; clear hcc113 hce113; have HR113_1 := zM hi113_1; have HC113_1 := zM hl113_1; clear hi113_1 hl113_1; replace p113 := eq_true p113; replace q113 := eq_true q113) | ((with_reducible refine gate_dst (N := 64) rfl ?_); refine Kd.P_look (v := v102) (m := x11_1) (s := ((rd_T33 l0 x35_1).f0)) rfl rfl rfl rfl LMc14.out (Kd.P_below HO_11.out zg) ?_) | ((with_reducible refine gate_callee (f := 74) rfl ?_); refine goesL_ (some 90) rfl rfl Tryd.func74 (by kernel_rfl) rfl #[.slice A113_1 ((rd_T109 x10_1 (mapAt x11_1 ((rd_T33 l0 x35_1).f0))).f1).length c113_1, .slice A23 y109.length c23] rfl zl ?_; (with_reducible refine (api_Cell_74.calls k1 _ _ ((rd_T109 x10_1 (mapAt x11_1 ((rd_T33 l0 x35_1).f0))).f1) _ _ y109 true _ ?side1 ?side2 ?side3 ?side4 A18.out).mono ?_); (case side1 => repeat (first | exact (by repeat (first | (with_reducible exact HR113_1.out) | (with_reducible first | refine Kd.C_alloc ?_ _ | refine Kd.C_drewN ?_ _ | refine Kd.C_drew ?_) | exact HR113_1.out)) | (with_reducible first | refine Kd.C_alloc ?_ _ | refine Kd.C_drewN ?_ _ | refine Kd.C_drew ?_))); (case side2 => exact HC113_1.out); (case side3 => exact Kd.C_below (Kd.C_below HR112.out zb) zg); (case side4 => exact HC112.out); rintro e w' ⟨rfl, ⟨nd, rfl⟩⟩; refine ⟨_, rfl, ?_⟩))
               go_roundg k1
               case measure => have := HK1.out; omega
               case rel => exact ⟨(x10_1), (x11_1), (wrap64 (x12_1 + (y109.length : Int))), (wrap64 (x35_1 + 1)), zy, zy, H', ⟨by have := HK1.out; omega⟩, ⟨by (with_reducible repeat (first | apply Kd.S_alloc | apply Kd.S_drewN | apply Kd.S_drew)); exact Kd.S_mono HO_10.out (fun _ hk => trivial)⟩, ⟨Kd.P_below HO_11.out zg⟩, ⟨zb⟩⟩
              ·
               replace c19 := zI c19
               subst c19
               rw [if_neg (show ¬ (false = true) by decide)] at H
               simp only [Option.some.injEq, Prod.mk.injEq] at H
               obtain ⟨rfl, rfl, rfl⟩ := H
               have p104 : 0 ≤ (x35_1 : Int) := zT zv
               have q104 : x35_1 < (l0.length : Int) := zT zv
               obtain ⟨ad104, e104, hx104_0, hx104_1⟩ := at_T33 HR0.out x35_1 p104 q104
               cases e104
               replace hx104_0 := (HB.out.cell (World.block_lt_of_cell? w _ hx104_0)).trans hx104_0
               replace hx104_1 := (HB.out.cell (World.block_lt_of_cell? w _ hx104_1)).trans hx104_1
               replace p104 := eq_true p104
               replace q104 := eq_true q104
               go_wp2_with (first | ((with_reducible refine gate_dst (N := 14) rfl ?_); refine box_event ?hg (N := 14) ?hd (cs := #[.string (⟨#[]⟩ : ByteArray), .int .i64 0]) (t := 33) ?hr ?_; (case hd => rfl); (case hg => rfl); (case hr => first | (go_simp; done) | (go_simp; rfl)); intro gb105 hg w26 hbox hb; replace HO_10 := zM (Kd.S_below (Kd.S_elderB (Kd.S_below HO_10.out zg) gb105 (Nat.le_of_eq hg.symm)) hb); replace HO_11 := zM (Kd.P_below (Kd.P_below HO_11.out zg) hb); have BK105 := zM (hbox); have GW105 := zM (zh hg : w.heap.size ≤ gb105); have GE105 := zM (zh hg : w.heap.size ≤ gb105); replace HB := zM (below_step zb hb); clear hb hbox hg; have hcz27_0 : w26.cell? ⟨gb105, 0, none⟩ = some (.string (⟨#[]⟩ : ByteArray)) := (zX BK105.out 0).trans rfl; have hcz27_1 : w26.cell? ⟨gb105, 1, none⟩ = some (.int .i64 0) := (zX BK105.out 1).trans rfl; have hfz27_0 := zY BK105.out 0; have hfz27_1 := zY BK105.out 1) | ((with_reducible refine gate_callee (f := 72) rfl ?_); refine goesL_ (some 40) rfl rfl Tryd.func72 (by kernel_rfl) rfl #[.agg #[.string ((rd_T33 l0 x35_1).f0), .int .i64 ((rd_T33 l0 x35_1).f1)]] rfl zl ?_; (with_reducible refine (match_variable.calls k1 ((rd_T33 l0 x35_1).f0) ((rd_T33 l0 x35_1).f1) true _ A8.out).mono ?_); rintro e w28 ⟨rfl, hb⟩; refine ⟨_, rfl, ?_⟩; replace HO_10 := zM (Kd.S_below (by (with_reducible repeat (first | apply Kd.S_alloc | apply Kd.S_drewN | apply Kd.S_drew)); exact (Kd.S_mono (Kd.S_far (p := ⟨gb105, 1, none⟩) (Kd.S_far (p := ⟨gb105, 0, none⟩) (Kd.S_mono HO_10.out (fun k_ hk => (⟨hk, hk.2⟩ : _ ∧ k_ ≠ gb105))) (fun _ hk => hk.2) (.string ((rd_T33 l0 x35_1).f0))) (fun _ hk => hk.2) (.int .i64 ((rd_T33 l0 x35_1).f1))) (fun _ h_ => h_.1))) hb); replace HO_11 := zM (Kd.P_below (by (with_reducible repeat (first | apply Kd.P_alloc | apply Kd.P_drewN | apply Kd.P_drew)); exact (Kd.P_mono (Kd.P_far (p := ⟨gb105, 1, none⟩) (Kd.P_far (p := ⟨gb105, 0, none⟩) (Kd.P_types HO_11.out BK105.out (by decide)) (fun _ hk => hk.2) (.string ((rd_T33 l0 x35_1).f0))) (fun _ hk => hk.2) (.int .i64 ((rd_T33 l0 x35_1).f1))) (fun _ h_ => h_.1))) hb); replace BK105 := zM (blk_below (g := gb105) (o := .cells #[.string ((rd_T33 l0 x35_1).f0), .int .i64 ((rd_T33 l0 x35_1).f1)] 33 (0, 0)) (by refine zk ?_; refine blk_put (cs := #[.string ((rd_T33 l0 x35_1).f0), .int .i64 0]) ?_ 1 _ rfl; refine zk ?_; refine blk_put (cs := #[.string (⟨#[]⟩ : ByteArray), .int .i64 0]) ?_ 0 _ rfl; refine zk ?_; exact BK105.out) hb); replace HB := zM (below_step zb hb); (try clear hb)) | ((with_reducible refine gate_callee (f := 73) rfl ?_); refine goesL_ (some 54) rfl rfl Tryd.func73 (by kernel_rfl) rfl #[.slice A1 l1.length c1, .int .i64 x12_1] rfl zl ?_; (with_reducible refine (match_end.calls k1 _ _ l1 x12_1 t108 _ ?side1 ?side2 A10.out).mono ?_); (case side1 => exact Kd.C_below HR1.out zb); (case side2 => exact HC1.out); rintro e w' ⟨rfl, ⟨nd, rfl⟩⟩; refine ⟨_, rfl, ?_⟩; have q29 : (t108 : Int) ≤ ((l1.length : Int) : Int) := zT zv; obtain ⟨i029, hi029, _, hsz29, _⟩ := info_parts info33; have hroom29 : l1.length ≤ c1 := HC1.out; have hC29 : Kd.C k33 _ A1 l1.length l1 := HR1.out; have ql29 : (x12_1 : Int) ≤ (t108 : Int) := zT zv; have q029 : (0 : Int) ≤ (x12_1 : Int) := zT zv; have hcut29 := cut_mid (P := Tryd.prog) 23 33 .i64 .i64 Tryd.underlying23 hi029 2 hsz29 A1 l1.length c1 x12_1 t108 q029 ql29 q29 hroom29; have hr29 := Kd.C_mid (lo := (x12_1 : Int).toNat) (hi := (t108 : Int).toNat) (c := c1) hC29 (by omega) (by omega) hroom29; obtain ⟨A29, hA29⟩ : ∃ Aq_, Aq_ = (if c1 = (x12_1 : Int).toNat then A1 else (A1 : Option Addr).map (·.add ((x12_1 : Int).toNat * 2))) := ⟨_, rfl⟩; obtain ⟨c29, hc29⟩ : ∃ cq_, cq_ = c1 - (x12_1 : Int).toNat := ⟨_, rfl⟩; have hy29 : y109.length = (t108 : Int).toNat - (x12_1 : Int).toNat := (by rw [Ny109.out, List.length_drop, List.length_take] <;> omega); rw [show ((l1).take (t108 : Int).toNat).drop (x12_1 : Int).toNat = y109 from Ny109.out.symm] at hr29; replace hr29 : Kd.C k33 _ A29 y109.length y109 := (by rw [hA29]; exact hr29); rw [← hy29, ← hA29, ← hc29] at hcut29; have HR112 := zM hr29; have HC112 := zM (show y109.length ≤ c29 from by rw [hy29, hc29]; exact Nat.sub_le_sub_right (Nat.le_trans (by omega) hroom29) _); clear hr29 hC29 hroom29 hi029 hsz29 hc29; have KY29 := zM hy29; have KA29 := zM hA29; clear hy29 hA29; replace q29 := eq_true q29; have hcz30_0 : w28.cell? ⟨gb105, 0, none⟩ = some (.string ((rd_T33 l0 x35_1).f0)) := (zX BK105.out 0).trans rfl; have hcz30_1 : w28.cell? ⟨gb105, 1, none⟩ = some (.int .i64 ((rd_T33 l0 x35_1).f1)) := (zX BK105.out 1).trans rfl; have hfz30_0 := zY BK105.out 0; have hfz30_1 := zY BK105.out 1; obtain ⟨Ao31, co31, eo31⟩ := Kd.S_slice HO_10.out; subst eo31; have p113 : 0 ≤ ((mapAt x11_1 ((rd_T33 l0 x35_1).f0)) : Int) := zT zv; have q113 : (mapAt x11_1 ((rd_T33 l0 x35_1).f0)) < (x10_1.length : Int) := zT zv; obtain ⟨ad113, A113_1, c113_1, e113, hx113_0, hx113_1, hl113_1, hi113_1⟩ := at_T109 (Kd.S_reads' HO_10.out).2.2 (mapAt x11_1 ((rd_T33 l0 x35_1).f0)) p113 q113; cases e113; obtain ⟨ce113, hce113, hMe113, hcc113⟩ := Kd.S_get HO_10.out z109 (mapAt x11_1 ((rd_T33 l0 x35_1).f0)) p113 (by first | exact q113 | exact zT zv | (have e_ := (Kd.S_reads' HO_10.out).1; omega)); obtain ⟨ve113_1, rfl, ge113_1⟩ := k109_openM hMe113; have hv113_1 := hcc113 1 _ rfl; rw [add_field _ _ 1 (by omega)] at hv113_1; replace hv113_1 := zS (hv113_1.symm.trans hx113_1); rw [hv113_1] at ge113_1; have HL113_1 := zM (show Kd.R k33 33 _ _ _ _ ((rd_T109 x10_1 (mapAt x11_1 ((rd_T33 l0 x35_1).f0))).f1) from ge113_1); clear hv113_1 ge113_1; clear hcc113 hce113; have HR113_1 := zM hi113_1; have HC113_1 := zM hl113_1; clear hi113_1 hl113_1; replace p113 := eq_true p113; replace q113 := eq_true q113) | ((with_reducible refine gate_dst (N := 64) rfl ?_); refine Kd.P_look (v := v102) (m := x11_1) (s := ((rd_T33 l0 x35_1).f0)) rfl rfl rfl rfl LMc14.out (Kd.P_below HO_11.out zg) ?_) | ((with_reducible refine gate_callee (f := 74) rfl ?_); refine goesL_ (some 90) rfl rfl Tryd.func74 (by kernel_rfl) rfl #[.slice A113_1 ((rd_T109 x10_1 (mapAt x11_1 ((rd_T33 l0 x35_1).f0))).f1).length c113_1, .slice A29 y109.length c29] rfl zl ?_; (with_reducible refine (api_Cell_74.calls k1 _ _ ((rd_T109 x10_1 (mapAt x11_1 ((rd_T33 l0 x35_1).f0))).f1) _ _ y109 false _ ?side1 ?side2 ?side3 ?side4 A18.out).mono ?_); (case side1 => repeat (first | exact (by repeat (first | (with_reducible exact HR113_1.out) | (with_reducible first | refine Kd.C_alloc ?_ _ | refine Kd.C_drewN ?_ _ | refine Kd.C_drew ?_) | exact HR113_1.out)) | (with_reducible first | refine Kd.C_alloc ?_ _ | refine Kd.C_drewN ?_ _ | refine Kd.C_drew ?_))); (case side2 => exact HC113_1.out); (case side3 => exact Kd.C_below (Kd.C_below HR112.out zb) zg); (case side4 => exact HC112.out); rintro e w' ⟨rfl, ⟨nd, rfl⟩⟩; refine ⟨_, rfl, ?_⟩))
               go_ret3
               exact ⟨_, zw, by first | exact Kd.S_nil _ _ _ _ _ | exact Kd.N_nil _ _ _ _ _ | exact Kd.V_nil _ _ _ _ _ | exact Kd.Q_nil _ _ _ _ _ | exact Kd.R_nil _ _ _ _ _, zb⟩
             ·
              rw [if_neg c17] at H
              exact absurd H (by simp)
            ·
             rw [if_neg c16] at H
             exact absurd H (by simp)
           ·
            rw [if_neg c15] at H
            have c15b0 : mapHas x11_1 ((rd_T33 l0 x35_1).f0) = false := by simpa using c15
            clear c15
            by_cases c32 : x11_1.length < 9223372036854775807 ∧ ((rd_T33 l0 x35_1).f0).size ≤ 9223372036854775807 ∧ 0 ≤ (x10_1.length : Int) ∧ (x10_1.length : Int) ≤ 9223372036854775807
            ·
             rw [if_pos c32] at H
             have LMc32 := zM c32
             clear c32
             obtain ⟨y115, hy115⟩ : ∃ y_ : List (S33), y_ = (mapPut x11_1 ((rd_T33 l0 x35_1).f0) (x10_1.length : Int)) := ⟨_, rfl⟩
             replace H : ((api_Cell_46.f y109).bind fun t118 => (if x10_1.length < 3518437208883 then (match_Match.l0 k1 l1 (x10_1 ++ [(⟨(rd_T33 l0 x35_1).f0, t118⟩ : S109)]) y115 (wrap64 (x12_1 + (y109.length : Int))) l0 (l0.length : Int) (wrap64 (x35_1 + 1))) else (none))) = some (r1, r2, r3) := by first | (rw [hy115]; with_reducible exact H) | (have H2_ := (Option.bind_some _ _).symm.trans H; rw [hy115]; with_reducible exact H2_) | (have H2_ := (Option.bind_some _ _).symm.trans H; with_reducible exact H2_) | with_reducible exact H | (rw [hy115]; exact H) | exact H
             have Ny115 := zM hy115
             clear hy115
             replace H := zB H
             obtain ⟨t118, A330, H⟩ := H
             try dsimp only at H
             have A33 := zM A330
             clear A330
             by_cases c34 : x10_1.length < 3518437208883
             ·
              rw [if_pos c34] at H
              have LMc34 := zM c34
              clear c34
              obtain ⟨y121, hy121⟩ : ∃ y_ : List (S109), y_ = (x10_1 ++ [(⟨(rd_T33 l0 x35_1).f0, t118⟩ : S109)]) := ⟨_, rfl⟩
              replace H : (match_Match.l0 k1 l1 y121 y115 (wrap64 (x12_1 + (y109.length : Int))) l0 (l0.length : Int) (wrap64 (x35_1 + 1))) = some (r1, r2, r3) := by first | (rw [hy121]; with_reducible exact H) | (have H2_ := (Option.bind_some _ _).symm.trans H; rw [hy121]; with_reducible exact H2_) | (have H2_ := (Option.bind_some _ _).symm.trans H; with_reducible exact H2_) | with_reducible exact H | (rw [hy121]; exact H) | exact H
              have Ny121 := zM hy121
              clear hy121
              have H' := zM H
              clear H
              have p104 : 0 ≤ (x35_1 : Int) := zT zv
              have q104 : x35_1 < (l0.length : Int) := zT zv
              obtain ⟨ad104, e104, hx104_0, hx104_1⟩ := at_T33 HR0.out x35_1 p104 q104
              cases e104
              replace hx104_0 := (HB.out.cell (World.block_lt_of_cell? w _ hx104_0)).trans hx104_0
              replace hx104_1 := (HB.out.cell (World.block_lt_of_cell? w _ hx104_1)).trans hx104_1
              replace p104 := eq_true p104
              replace q104 := eq_true q104
              try go_wp2_with (first | ((with_reducible refine gate_dst (N := 14) rfl ?_); refine box_event ?hg (N := 14) ?hd (cs := #[.string (⟨#[]⟩ : ByteArray), .int .i64 0]) (t := 33) ?hr ?_; (case hd => rfl); (case hg => rfl); (case hr => first | (go_simp; done) | (go_simp; rfl)); intro gb105 hg w35 hbox hb; replace HO_10 := zM (Kd.S_below (Kd.S_elderB (Kd.S_below HO_10.out zg) gb105 (Nat.le_of_eq hg.symm)) hb); replace HO_11 := zM (Kd.P_below (Kd.P_below HO_11.out zg) hb); have BK105 := zM (hbox); have GW105 := zM (zh hg : w.heap.size ≤ gb105); have GE105 := zM (zh hg : w.heap.size ≤ gb105); replace HB := zM (below_step zb hb); clear hb hbox hg; have hcz36_0 : w35.cell? ⟨gb105, 0, none⟩ = some (.string (⟨#[]⟩ : ByteArray)) := (zX BK105.out 0).trans rfl; have hcz36_1 : w35.cell? ⟨gb105, 1, none⟩ = some (.int .i64 0) := (zX BK105.out 1).trans rfl; have hfz36_0 := zY BK105.out 0; have hfz36_1 := zY BK105.out 1) | ((with_reducible refine gate_callee (f := 72) rfl ?_); refine goesL_ (some 40) rfl rfl Tryd.func72 (by kernel_rfl) rfl #[.agg #[.string ((rd_T33 l0 x35_1).f0), .int .i64 ((rd_T33 l0 x35_1).f1)]] rfl zl ?_; (with_reducible refine (match_variable.calls k1 ((rd_T33 l0 x35_1).f0) ((rd_T33 l0 x35_1).f1) true _ A8.out).mono ?_); rintro e w37 ⟨rfl, hb⟩; refine ⟨_, rfl, ?_⟩; replace HO_10 := zM (Kd.S_below (by (with_reducible repeat (first | apply Kd.S_alloc | apply Kd.S_drewN | apply Kd.S_drew)); exact (Kd.S_mono (Kd.S_far (p := ⟨gb105, 1, none⟩) (Kd.S_far (p := ⟨gb105, 0, none⟩) (Kd.S_mono HO_10.out (fun k_ hk => (⟨hk, hk.2⟩ : _ ∧ k_ ≠ gb105))) (fun _ hk => hk.2) (.string ((rd_T33 l0 x35_1).f0))) (fun _ hk => hk.2) (.int .i64 ((rd_T33 l0 x35_1).f1))) (fun _ h_ => h_.1))) hb); replace HO_11 := zM (Kd.P_below (by (with_reducible repeat (first | apply Kd.P_alloc | apply Kd.P_drewN | apply Kd.P_drew)); exact (Kd.P_mono (Kd.P_far (p := ⟨gb105, 1, none⟩) (Kd.P_far (p := ⟨gb105, 0, none⟩) (Kd.P_types HO_11.out BK105.out (by decide)) (fun _ hk => hk.2) (.string ((rd_T33 l0 x35_1).f0))) (fun _ hk => hk.2) (.int .i64 ((rd_T33 l0 x35_1).f1))) (fun _ h_ => h_.1))) hb); replace BK105 := zM (blk_below (g := gb105) (o := .cells #[.string ((rd_T33 l0 x35_1).f0), .int .i64 ((rd_T33 l0 x35_1).f1)] 33 (0, 0)) (by refine zk ?_; refine blk_put (cs := #[.string ((rd_T33 l0 x35_1).f0), .int .i64 0]) ?_ 1 _ rfl; refine zk ?_; refine blk_put (cs := #[.string (⟨#[]⟩ : ByteArray), .int .i64 0]) ?_ 0 _ rfl; refine zk ?_; exact BK105.out) hb); replace HB := zM (below_step zb hb); (try clear hb)) | ((with_reducible refine gate_callee (f := 73) rfl ?_); refine goesL_ (some 54) rfl rfl Tryd.func73 (by kernel_rfl) rfl #[.slice A1 l1.length c1, .int .i64 x12_1] rfl zl ?_; (with_reducible refine (match_end.calls k1 _ _ l1 x12_1 t108 _ ?side1 ?side2 A10.out).mono ?_); (case side1 => exact Kd.C_below HR1.out zb); (case side2 => exact HC1.out); rintro e w' ⟨rfl, ⟨nd, rfl⟩⟩; refine ⟨_, rfl, ?_⟩; have q38 : (t108 : Int) ≤ ((l1.length : Int) : Int) := zT zv; obtain ⟨i038, hi038, _, hsz38, _⟩ := info_parts info33; have hroom38 : l1.length ≤ c1 := HC1.out; have hC38 : Kd.C k33 _ A1 l1.length l1 := HR1.out; have ql38 : (x12_1 : Int) ≤ (t108 : Int) := zT zv; have q038 : (0 : Int) ≤ (x12_1 : Int) := zT zv; have hcut38 := cut_mid (P := Tryd.prog) 23 33 .i64 .i64 Tryd.underlying23 hi038 2 hsz38 A1 l1.length c1 x12_1 t108 q038 ql38 q38 hroom38; have hr38 := Kd.C_mid (lo := (x12_1 : Int).toNat) (hi := (t108 : Int).toNat) (c := c1) hC38 (by omega) (by omega) hroom38; obtain ⟨A38, hA38⟩ : ∃ Aq_, Aq_ = (if c1 = (x12_1 : Int).toNat then A1 else (A1 : Option Addr).map (·.add ((x12_1 : Int).toNat * 2))) := ⟨_, rfl⟩; obtain ⟨c38, hc38⟩ : ∃ cq_, cq_ = c1 - (x12_1 : Int).toNat := ⟨_, rfl⟩; have hy38 : y109.length = (t108 : Int).toNat - (x12_1 : Int).toNat := (by rw [Ny109.out, List.length_drop, List.length_take] <;> omega); rw [show ((l1).take (t108 : Int).toNat).drop (x12_1 : Int).toNat = y109 from Ny109.out.symm] at hr38; replace hr38 : Kd.C k33 _ A38 y109.length y109 := (by rw [hA38]; exact hr38); rw [← hy38, ← hA38, ← hc38] at hcut38; have HR112 := zM hr38; have HC112 := zM (show y109.length ≤ c38 from by rw [hy38, hc38]; exact Nat.sub_le_sub_right (Nat.le_trans (by omega) hroom38) _); clear hr38 hC38 hroom38 hi038 hsz38 hc38; have KY38 := zM hy38; have KA38 := zM hA38; clear hy38 hA38; replace q38 := eq_true q38; have hcz39_0 : w37.cell? ⟨gb105, 0, none⟩ = some (.string ((rd_T33 l0 x35_1).f0)) := (zX BK105.out 0).trans rfl; have hcz39_1 : w37.cell? ⟨gb105, 1, none⟩ = some (.int .i64 ((rd_T33 l0 x35_1).f1)) := (zX BK105.out 1).trans rfl; have hfz39_0 := zY BK105.out 0; have hfz39_1 := zY BK105.out 1; obtain ⟨Ao40, co40, eo40⟩ := Kd.S_slice HO_10.out; subst eo40) | ((with_reducible refine gate_dst (N := 64) rfl ?_); refine Kd.P_look (v := v102) (m := x11_1) (s := ((rd_T33 l0 x35_1).f0)) rfl rfl rfl rfl LMc14.out (Kd.P_below HO_11.out zg) ?_) | (at_mapUpdate; refine Kd.P_put (v := v102) (m := x11_1) (s := ((rd_T33 l0 x35_1).f0)) (n := (x10_1.length : Int)) rfl rfl rfl rfl rfl LMc32.out (Kd.P_below HO_11.out zg) ?_; intro w41 ho hm; rw [← Ny115.out] at ho; replace HO_10 := zM (Kd.S_mapped (Kd.S_below HO_10.out zg) hm); replace BK105 := zM (blk_mapped (g := gb105) (o := .cells #[.string ((rd_T33 l0 x35_1).f0), .int .i64 ((rd_T33 l0 x35_1).f1)] 33 (0, 0)) (zk BK105.out) hm); replace HB := zM (below_mapped zb hm); replace HO_11 := zM (ho); clear ho hm))
              have n0_ := zM (Kd.S_drew HO_10.out)
              have n1_ := zM (Kd.P_drew HO_11.out)
              have n2_ := zM (blk_drew BK105.out)
              have n3_ := zM (zD HB.out)
              clear HO_10
              clear HO_11
              clear BK105
              clear HB
              have HO_10 := n0_
              have HO_11 := n1_
              have BK105 := n2_
              have HB := n3_
              clear n0_ n1_ n2_ n3_
              refine start_ (n := 9) (S := fun w' => w'.cell? ⟨gb105, 0, none⟩ = some (.string ((rd_T33 l0 x35_1).f0)) ∧ w'.cell? ⟨gb105, 1, none⟩ = some (.int .i64 ((rd_T33 l0 x35_1).f1))) (ds := []) #[false, false, false, false, false, false, false, false, false] (by kernel_rfl) rfl rfl ⟨(zX BK105.out 0).trans rfl, (zX BK105.out 1).trans rfl⟩ (fun hHeld => ?_); refine with_tabW match_Match.tab23 match_Match.bits23 (fun HT_ HW_ => ?_)
              generalize w41.drew = w42 at HO_10 HO_11 BK105 HB hHeld ⊢
              refine pure_ (i := 0) (N := some 75) (v := ?_) (a' := ?_) #[true, false, false, false, false, false, false, false, false] rfl rfl (any_of HT_.out (by kernel_rfl)) (fun _ _ _ h => h) (Or.inl ⟨by rfl, ?_⟩) ?_ ?_
              rotate_left
              ·
               intro w'
               go_simp
               with_reducible rfl
              rotate_left
              ·
               simp only [Act.put, List.setIfInBounds_toArray, List.set_cons_zero, List.set_cons_succ, i64_w, i32_w]
               rfl
              refine pure_ (i := 1) (N := some 76) (v := ?_) (a' := ?_) #[true, true, false, false, false, false, false, false, false] rfl rfl (any_of HT_.out (by kernel_rfl)) (fun _ _ _ h => h) (Or.inl ⟨by rfl, ?_⟩) ?_ ?_
              rotate_left
              ·
               intro w'
               go_simp
               with_reducible rfl
              rotate_left
              ·
               simp only [Act.put, List.setIfInBounds_toArray, List.set_cons_zero, List.set_cons_succ, i64_w, i32_w]
               rfl
              refine pure_ (i := 3) (N := some 78) (v := ?_) (a' := ?_) #[true, true, false, true, false, false, false, false, false] rfl rfl (any_of HT_.out (by kernel_rfl)) (fun _ _ _ h => h) (Or.inl ⟨by rfl, ?_⟩) ?_ ?_
              rotate_left
              ·
               intro w'
               go_simp
               with_reducible rfl
              rotate_left
              ·
               simp only [Act.put, List.setIfInBounds_toArray, List.set_cons_zero, List.set_cons_succ, i64_w, i32_w]
               rfl
              refine take_ (i := 2) (N := some 77) (v := ?_) (a' := ?_) #[true, true, true, true, false, false, false, false, false] rfl rfl (take_ofW HT_.out HW_.out (by kernel_rfl)) (fun _ _ _ h => h) (Or.inl ⟨by rfl, ?_⟩) hHeld ?_ ?_
              rotate_left
              ·
               rintro w' ⟨s0, s1⟩
               go_simp
               with_reducible rfl
              rotate_left
              ·
               simp only [Act.put, List.setIfInBounds_toArray, List.set_cons_zero, List.set_cons_succ, i64_w, i32_w]
               rfl
              refine one_ (i := 4) (N := some 79) #[true, true, true, true, true, false, false, false, false] rfl rfl (one_of HT_.out (by kernel_rfl)) (by decide) (fun K hK => ?_)
              refine goes_ Tryd.func46 (by kernel_rfl) rfl #[.slice A38 y109.length c38] (by rfl) rfl rfl zl ?_
              with_reducible refine (api_Cell_46.calls _ _ y109 t118 _ ?side1 ?side2 A33.out).mono ?_
              (case side1 => exact Kd.C_below HR112.out zb)
              (case side2 => exact HC112.out)
              rintro e w43 ⟨v119, rfl, ho0, hb⟩
              refine ⟨_, rfl, ?_⟩
              have n0_ := zM (Kd.S_elder' (Kd.S_below HO_10.out zg) (Kd.R_base ho0) hb)
              have n1_ := zM (Kd.P_below (Kd.P_below HO_11.out zg) hb)
              have n2_ := zM (Kd.R_lower (Kd.R_newB ho0 (g := gb105) (o := .cells #[.string ((rd_T33 l0 x35_1).f0), .int .i64 ((rd_T33 l0 x35_1).f1)] 33 (0, 0)) (zk BK105.out)) (below_size zb))
              have n3_ := zM (blk_below (g := gb105) (o := .cells #[.string ((rd_T33 l0 x35_1).f0), .int .i64 ((rd_T33 l0 x35_1).f1)] 33 (0, 0)) (zk BK105.out) hb)
              have n4_ := zM (below_step zb hb)
              clear HO_10
              clear HO_11
              clear BK105
              clear HB
              have HO_10 := n0_
              have HO_11 := n1_
              have HO120 := n2_
              have BK105 := n3_
              have HB := n4_
              clear n0_ n1_ n2_ n3_ n4_
              (try clear hb)
              (try clear hb2)
              (try clear hk)
              (try clear hi)
              (try clear ho0)
              obtain ⟨Ao44, co44, eo44⟩ := Kd.R_slice HO120.out
              (first | subst eo44 | (injection eo44 with f1_ f2_ f3_; have f4_ := f1_.symm; have f5_ := f3_.symm; clear f1_ f2_ f3_; subst f4_; subst f5_))
              refine hK.out _ _ ⟨(zX BK105.out 0).trans rfl, (zX BK105.out 1).trans rfl⟩ (fun hHeld => ?_)
              clear hK K
              refine norm_ (a' := ?_) ?_ ?_
              rotate_left
              ·
               show Act.put _ (some 79) _ = _
               simp only [Act.put, List.setIfInBounds_toArray, List.set_cons_zero, List.set_cons_succ, i64_w, i32_w]
               rfl
              refine pure_ (i := 5) (N := some 80) (v := ?_) (a' := ?_) #[true, true, true, true, true, true, false, false, false] rfl rfl (any_of HT_.out (by kernel_rfl)) (fun _ _ _ h => h) (Or.inl ⟨by rfl, ?_⟩) ?_ ?_
              rotate_left
              ·
               intro w'
               go_simp
               with_reducible rfl
              rotate_left
              ·
               simp only [Act.put, List.setIfInBounds_toArray, List.set_cons_zero, List.set_cons_succ, i64_w, i32_w]
               rfl
              refine one_ (i := 6) (N := some 81) #[true, true, true, true, true, true, true, false, false] rfl rfl (one_of HT_.out (by kernel_rfl)) (by decide) (fun K hK => ?_)
              refine value_ (w1 := ?_) (v := ?_) (by rfl) rfl ?_ ?_
              rotate_left 2
              ·
               go_simp
               constructor
               ·
                rfl
               ·
                rfl
              refine hK.out _ _ ⟨(zX (blk_alloc BK105.out _) 0).trans rfl, (zX (blk_alloc BK105.out _) 1).trans rfl⟩ (fun hHeld => ?_)
              clear hK K
              refine norm_ (a' := ?_) ?_ ?_
              rotate_left
              ·
               show Act.put _ (some 81) _ = _
               simp only [Act.put, List.setIfInBounds_toArray, List.set_cons_zero, List.set_cons_succ, i64_w, i32_w]
               rfl
              refine one_ (i := 7) (N := some 82) #[true, true, true, true, true, true, true, true, false] rfl rfl (one_of HT_.out (by kernel_rfl)) (by decide) (fun K hK => ?_)
              refine Kd.S_append_step k109 (w0 := w) w.heap.size (by rfl) (.tmp 75) (.tmp 81) 72 109 (.agg #[(.string ⟨#[]⟩), (.slice none 0 0)]) 40 rfl Tryd.underlying72 info109 rfl (by decide) (by omega) (.slice Ao40 x10_1.length co40) x10_1 (⟨(rd_T33 l0 x35_1).f0, t118⟩ : S109) [.string ((rd_T33 l0 x35_1).f0), .slice Ao44 t118.length co44] (fun k_ => k_ ≠ gb105) (fun k_ => some k_ = (.slice Ao44 t118.length co44 : Value).ownBlock) rfl rfl ?aP (fun k_ hk_ => ((Kd.R_mono (ok' := fun k_ => ((fun k_ => k_ ≠ gb105)) k_ ∧ some k_ ≠ (.slice Ao40 x10_1.length co40 : Value).ownBlock) (Kd.R_apart' (HO120.out) (Kd.S_typed HO_10.out) (by decide)) (fun k_ hk => ⟨hk.1.2, hk.2⟩))).1 k_ hk_.symm) ?aF ?aO ?aB ?aS ?aL ?_
              (case aP => exact k109_mkM _ _ _ (⟨(rd_T33 l0 x35_1).f0, t118⟩ : S109) (Kd.R_mono (Kd.R_tight rfl (Kd.R_mono (ok' := fun k_ => ((fun k_ => k_ ≠ gb105)) k_ ∧ some k_ ≠ (.slice Ao40 x10_1.length co40 : Value).ownBlock) (Kd.R_apart' (HO120.out) (Kd.S_typed HO_10.out) (by decide)) (fun k_ hk => ⟨hk.1.2, hk.2⟩))) (fun _ h_ => h_)))
              (case aB => exact zb)
              (case aF => exact (fun k_ hk => Kd.freshB (g := gb105) (o := .cells #[.string ((rd_T33 l0 x35_1).f0), .int .i64 ((rd_T33 l0 x35_1).f1)] 33 (0, 0)) (zk BK105.out) k_ hk))
              (case aO => exact (by (with_reducible repeat (first | apply Kd.S_alloc | apply Kd.S_drewN | apply Kd.S_drew)); exact Kd.S_mono HO_10.out (fun k_ hk => ⟨hk.1.2, fun e_ => hk.2 e_⟩)))
              (case aS => exact (below_size zb))
              (case aL => have := LMc34.out; omega)
              intro v122 w45 ho hb hg hat
              rw [← Ny121.out] at ho
              have n0_ := zM (blk_grown (g := gb105) (o := .cells #[.string ((rd_T33 l0 x35_1).f0), .int .i64 ((rd_T33 l0 x35_1).f1)] 33 (0, 0)) (zk BK105.out) hg (Kd.S_ne HO_10.out BK105.out (by decide)))
              have n1_ := zM (Kd.P_over' (Kd.P_below HO_11.out zg) (Kd.S_typed (Kd.S_below HO_10.out zg)) (by decide) hg)
              have n2_ := zM (hb)
              have n3_ := zM (ho)
              clear BK105
              clear HO_11
              clear HB
              clear HO_10
              clear HO120
              have BK105 := n0_
              have HO_11 := n1_
              have HB := n2_
              have HO123 := n3_
              clear n0_ n1_ n2_ n3_
              clear ho hb hg hat
              refine hK.out _ _ ⟨(zX BK105.out 0).trans rfl, (zX BK105.out 1).trans rfl⟩ (fun hHeld => ?_)
              clear hK K
              refine norm_ (a' := ?_) ?_ ?_
              rotate_left
              ·
               show Act.put _ (some 82) _ = _
               simp only [Act.put, List.setIfInBounds_toArray, List.set_cons_zero, List.set_cons_succ, i64_w, i32_w]
               rfl
              refine pure_ (i := 8) (N := some 10) (v := ?_) (a' := ?_) #[true, true, true, true, true, true, true, true, true] rfl rfl (any_of HT_.out (by kernel_rfl)) (fun _ _ _ h => h) (Or.inl ⟨by rfl, ?_⟩) ?_ ?_
              rotate_left
              ·
               intro w'
               go_simp
               with_reducible rfl
              rotate_left
              ·
               simp only [Act.put, List.setIfInBounds_toArray, List.set_cons_zero, List.set_cons_succ, i64_w, i32_w]
               rfl
              refine done_ (done_of HT_.out (by kernel_rfl)) ?_
              try go_wp2
              go_roundg k1
              case measure => have := HK1.out; omega
              case rel => exact ⟨(y121), (y115), (wrap64 (x12_1 + (y109.length : Int))), (wrap64 (x35_1 + 1)), zy, zy, H', ⟨by have := HK1.out; omega⟩, ⟨by (with_reducible repeat (first | apply Kd.S_alloc | apply Kd.S_drewN | apply Kd.S_drew)); exact Kd.S_mono HO123.out (fun _ hk => trivial)⟩, ⟨Kd.P_below HO_11.out zg⟩, ⟨zb⟩⟩
             ·
              rw [if_neg c34] at H
              exact absurd H (by simp)
            ·
             rw [if_neg c32] at H
             exact absurd H (by simp)
          ·
           rw [if_neg c14] at H
           exact absurd H (by simp)
         ·
          rw [if_neg c13] at H
          exact absurd H (by simp)
        ·
         rw [if_neg c12] at H
         exact absurd H (by simp)
       ·
        rw [if_neg c11] at H
        exact absurd H (by simp)
      ·
       replace c9 := zI c9
       subst c9
       rw [if_neg (show ¬ (false = true) by decide)] at H
       by_cases c46 : 0 ≤ x12_1
       ·
        rw [if_pos c46] at H
        have c46b0 : decide (0 ≤ x12_1) = true := zQ c46
        clear c46
        by_cases c47 : x12_1 < (l1.length : Int)
        ·
         rw [if_pos c47] at H
         have c47b0 : decide (x12_1 < (l1.length : Int)) = true := zQ c47
         clear c47
         by_cases c48 : (!((((rd_T33 l1 x12_1).f0).toList) == (((rd_T33 l0 x35_1).f0).toList)) || (!(((rd_T33 l1 x12_1).f1) == ((rd_T33 l0 x35_1).f1)))) = true
         ·
          rw [if_pos c48] at H
          have c48b0 : (!((((rd_T33 l1 x12_1).f0).toList) == (((rd_T33 l0 x35_1).f0).toList)) || (!(((rd_T33 l1 x12_1).f1) == ((rd_T33 l0 x35_1).f1)))) = true := c48
          clear c48
          simp only [Option.some.injEq, Prod.mk.injEq] at H
          obtain ⟨rfl, rfl, rfl⟩ := H
          have p104 : 0 ≤ (x35_1 : Int) := zT zv
          have q104 : x35_1 < (l0.length : Int) := zT zv
          obtain ⟨ad104, e104, hx104_0, hx104_1⟩ := at_T33 HR0.out x35_1 p104 q104
          cases e104
          replace hx104_0 := (HB.out.cell (World.block_lt_of_cell? w _ hx104_0)).trans hx104_0
          replace hx104_1 := (HB.out.cell (World.block_lt_of_cell? w _ hx104_1)).trans hx104_1
          replace p104 := eq_true p104
          replace q104 := eq_true q104
          try go_wp2_with (first | ((with_reducible refine gate_dst (N := 14) rfl ?_); refine box_event ?hg (N := 14) ?hd (cs := #[.string (⟨#[]⟩ : ByteArray), .int .i64 0]) (t := 33) ?hr ?_; (case hd => rfl); (case hg => rfl); (case hr => first | (go_simp; done) | (go_simp; rfl)); intro gb105 hg w49 hbox hb; replace HO_10 := zM (Kd.S_below (Kd.S_elderB (Kd.S_below HO_10.out zg) gb105 (Nat.le_of_eq hg.symm)) hb); replace HO_11 := zM (Kd.P_below (Kd.P_below HO_11.out zg) hb); have BK105 := zM (hbox); have GW105 := zM (zh hg : w.heap.size ≤ gb105); have GE105 := zM (zh hg : w.heap.size ≤ gb105); replace HB := zM (below_step zb hb); clear hb hbox hg; have hcz50_0 : w49.cell? ⟨gb105, 0, none⟩ = some (.string (⟨#[]⟩ : ByteArray)) := (zX BK105.out 0).trans rfl; have hcz50_1 : w49.cell? ⟨gb105, 1, none⟩ = some (.int .i64 0) := (zX BK105.out 1).trans rfl; have hfz50_0 := zY BK105.out 0; have hfz50_1 := zY BK105.out 1) | ((with_reducible refine gate_callee (f := 72) rfl ?_); refine goesL_ (some 40) rfl rfl Tryd.func72 (by kernel_rfl) rfl #[.agg #[.string ((rd_T33 l0 x35_1).f0), .int .i64 ((rd_T33 l0 x35_1).f1)]] rfl zl ?_; (with_reducible refine (match_variable.calls k1 ((rd_T33 l0 x35_1).f0) ((rd_T33 l0 x35_1).f1) false _ A8.out).mono ?_); rintro e w51 ⟨rfl, hb⟩; refine ⟨_, rfl, ?_⟩; replace HO_10 := zM (Kd.S_below (by (with_reducible repeat (first | apply Kd.S_alloc | apply Kd.S_drewN | apply Kd.S_drew)); exact (Kd.S_mono (Kd.S_far (p := ⟨gb105, 1, none⟩) (Kd.S_far (p := ⟨gb105, 0, none⟩) (Kd.S_mono HO_10.out (fun k_ hk => (⟨hk, hk.2⟩ : _ ∧ k_ ≠ gb105))) (fun _ hk => hk.2) (.string ((rd_T33 l0 x35_1).f0))) (fun _ hk => hk.2) (.int .i64 ((rd_T33 l0 x35_1).f1))) (fun _ h_ => h_.1))) hb); replace HO_11 := zM (Kd.P_below (by (with_reducible repeat (first | apply Kd.P_alloc | apply Kd.P_drewN | apply Kd.P_drew)); exact (Kd.P_mono (Kd.P_far (p := ⟨gb105, 1, none⟩) (Kd.P_far (p := ⟨gb105, 0, none⟩) (Kd.P_types HO_11.out BK105.out (by decide)) (fun _ hk => hk.2) (.string ((rd_T33 l0 x35_1).f0))) (fun _ hk => hk.2) (.int .i64 ((rd_T33 l0 x35_1).f1))) (fun _ h_ => h_.1))) hb); replace BK105 := zM (blk_below (g := gb105) (o := .cells #[.string ((rd_T33 l0 x35_1).f0), .int .i64 ((rd_T33 l0 x35_1).f1)] 33 (0, 0)) (by refine zk ?_; refine blk_put (cs := #[.string ((rd_T33 l0 x35_1).f0), .int .i64 0]) ?_ 1 _ rfl; refine zk ?_; refine blk_put (cs := #[.string (⟨#[]⟩ : ByteArray), .int .i64 0]) ?_ 0 _ rfl; refine zk ?_; exact BK105.out) hb); replace HB := zM (below_step zb hb); (try clear hb)))
          have n0_ := zM (Kd.S_drew HO_10.out)
          have n1_ := zM (Kd.P_drew HO_11.out)
          have n2_ := zM (blk_drew BK105.out)
          have n3_ := zM (zD HB.out)
          clear HO_10
          clear HO_11
          clear BK105
          clear HB
          have HO_10 := n0_
          have HO_11 := n1_
          have BK105 := n2_
          have HB := n3_
          clear n0_ n1_ n2_ n3_
          have p107 : 0 ≤ (x12_1 : Int) := zT zv
          have q107 : x12_1 < (l1.length : Int) := zT zv
          obtain ⟨ad107, e107, hx107_0, hx107_1⟩ := at_T33 HR1.out x12_1 p107 q107
          have hw107_1 := hx107_1
          have hw107_0 := hx107_0
          cases e107
          replace hx107_0 := (HB.out.cell (World.block_lt_of_cell? w _ hx107_0)).trans hx107_0
          replace hx107_1 := (HB.out.cell (World.block_lt_of_cell? w _ hx107_1)).trans hx107_1
          replace p107 := eq_true p107
          replace q107 := eq_true q107
          refine start_ (n := 6) (S := fun w' => w'.cell? ⟨gb105, 0, none⟩ = some (.string ((rd_T33 l0 x35_1).f0)) ∧ w'.cell? ⟨gb105, 1, none⟩ = some (.int .i64 ((rd_T33 l0 x35_1).f1)) ∧ w'.cell? (ad107.add ((x12_1).toNat * 2)) = some (.string ((rd_T33 l1 x12_1).f0)) ∧ w'.cell? ⟨(ad107.add ((x12_1).toNat * 2)).block, (ad107.add ((x12_1).toNat * 2)).off + 1, none⟩ = some (.int .i64 ((rd_T33 l1 x12_1).f1))) (ds := []) #[false, false, false, false, false, false] (by kernel_rfl) rfl rfl ⟨(zX BK105.out 0).trans rfl, (zX BK105.out 1).trans rfl, ((HB.out.cell (World.block_lt_of_cell? w _ hw107_0)).trans hw107_0), ((HB.out.cell (World.block_lt_of_cell? w _ hw107_1)).trans hw107_1)⟩ (fun hHeld => ?_)
          generalize w51.drew = w52 at HO_10 HO_11 BK105 HB hx107_0 hx107_1 hHeld ⊢
          refine pure_ (i := 0) (N := some 42) (v := ?_) (a' := ?_) #[true, false, false, false, false, false] rfl rfl (by kernel_rfl) (fun _ _ _ h => h) (Or.inl ⟨by rfl, ?_⟩) ?_ ?_
          rotate_left
          ·
           intro w'
           go_simp
           with_reducible rfl
          rotate_left
          ·
           simp only [Act.put, List.setIfInBounds_toArray, List.set_cons_zero, List.set_cons_succ, i64_w, i32_w]
           rfl
          refine pure_ (i := 1) (N := some 43) (v := ?_) (a' := ?_) #[true, true, false, false, false, false] rfl rfl (by kernel_rfl) (fun _ _ _ h => h) (Or.inl ⟨by rfl, ?_⟩) ?_ ?_
          rotate_left
          ·
           intro w'
           go_simp
           with_reducible rfl
          rotate_left
          ·
           simp only [Act.put, List.setIfInBounds_toArray, List.set_cons_zero, List.set_cons_succ, i64_w, i32_w]
           rfl
          refine pure_ (i := 2) (N := some 44) (v := ?_) (a' := ?_) #[true, true, true, false, false, false] rfl rfl (by kernel_rfl) (fun _ _ _ h => h) (Or.inl ⟨by rfl, ?_⟩) ?_ ?_
          rotate_left
          ·
           intro w'
           go_simp
           with_reducible rfl
          rotate_left
          ·
           simp only [Act.put, List.setIfInBounds_toArray, List.set_cons_zero, List.set_cons_succ, i64_w, i32_w]
           rfl
          refine take_ (i := 3) (N := some 45) (v := ?_) (a' := ?_) #[true, true, true, true, false, false] rfl rfl (by kernel_rfl) (fun _ _ _ h => h) (Or.inl ⟨by rfl, ?_⟩) hHeld ?_ ?_
          rotate_left
          ·
           rintro w' ⟨s0, s1, s2, s3⟩
           go_simp
           with_reducible rfl
          rotate_left
          ·
           simp only [Act.put, List.setIfInBounds_toArray, List.set_cons_zero, List.set_cons_succ, i64_w, i32_w]
           rfl
          refine take_ (i := 4) (N := some 46) (v := ?_) (a' := ?_) #[true, true, true, true, true, false] rfl rfl (by kernel_rfl) (fun _ _ _ h => h) (Or.inl ⟨by rfl, ?_⟩) hHeld ?_ ?_
          rotate_left
          ·
           rintro w' ⟨s0, s1, s2, s3⟩
           go_simp
           with_reducible rfl
          rotate_left
          ·
           simp only [Act.put, List.setIfInBounds_toArray, List.set_cons_zero, List.set_cons_succ, i64_w, i32_w]
           rfl
          refine pure_ (i := 5) (N := some 47) (v := ?_) (a' := ?_) #[true, true, true, true, true, true] rfl rfl (by kernel_rfl) (fun _ _ _ h => h) (Or.inl ⟨by rfl, ?_⟩) ?_ ?_
          rotate_left
          ·
           intro w'
           go_simp
           with_reducible rfl
          rotate_left
          ·
           simp only [Act.put, List.setIfInBounds_toArray, List.set_cons_zero, List.set_cons_succ, i64_w, i32_w]
           rfl
          refine done_ (by kernel_rfl) ?_
          try go_wp2
          go_ret3
          exact ⟨_, zw, by first | exact Kd.S_nil _ _ _ _ _ | exact Kd.N_nil _ _ _ _ _ | exact Kd.V_nil _ _ _ _ _ | exact Kd.Q_nil _ _ _ _ _ | exact Kd.R_nil _ _ _ _ _, zb⟩
         ·
          rw [if_neg c48] at H
          have c48b0 : (!((((rd_T33 l1 x12_1).f0).toList) == (((rd_T33 l0 x35_1).f0).toList)) || (!(((rd_T33 l1 x12_1).f1) == ((rd_T33 l0 x35_1).f1)))) = false := by simpa using c48
          clear c48
          have H' := zM H
          clear H
          have p104 : 0 ≤ (x35_1 : Int) := zT zv
          have q104 : x35_1 < (l0.length : Int) := zT zv
          obtain ⟨ad104, e104, hx104_0, hx104_1⟩ := at_T33 HR0.out x35_1 p104 q104
          cases e104
          replace hx104_0 := (HB.out.cell (World.block_lt_of_cell? w _ hx104_0)).trans hx104_0
          replace hx104_1 := (HB.out.cell (World.block_lt_of_cell? w _ hx104_1)).trans hx104_1
          replace p104 := eq_true p104
          replace q104 := eq_true q104
          try go_wp2_with (first | ((with_reducible refine gate_dst (N := 14) rfl ?_); refine box_event ?hg (N := 14) ?hd (cs := #[.string (⟨#[]⟩ : ByteArray), .int .i64 0]) (t := 33) ?hr ?_; (case hd => rfl); (case hg => rfl); (case hr => first | (go_simp; done) | (go_simp; rfl)); intro gb105 hg w53 hbox hb; replace HO_10 := zM (Kd.S_below (Kd.S_elderB (Kd.S_below HO_10.out zg) gb105 (Nat.le_of_eq hg.symm)) hb); replace HO_11 := zM (Kd.P_below (Kd.P_below HO_11.out zg) hb); have BK105 := zM (hbox); have GW105 := zM (zh hg : w.heap.size ≤ gb105); have GE105 := zM (zh hg : w.heap.size ≤ gb105); replace HB := zM (below_step zb hb); clear hb hbox hg; have hcz54_0 : w53.cell? ⟨gb105, 0, none⟩ = some (.string (⟨#[]⟩ : ByteArray)) := (zX BK105.out 0).trans rfl; have hcz54_1 : w53.cell? ⟨gb105, 1, none⟩ = some (.int .i64 0) := (zX BK105.out 1).trans rfl; have hfz54_0 := zY BK105.out 0; have hfz54_1 := zY BK105.out 1) | ((with_reducible refine gate_callee (f := 72) rfl ?_); refine goesL_ (some 40) rfl rfl Tryd.func72 (by kernel_rfl) rfl #[.agg #[.string ((rd_T33 l0 x35_1).f0), .int .i64 ((rd_T33 l0 x35_1).f1)]] rfl zl ?_; (with_reducible refine (match_variable.calls k1 ((rd_T33 l0 x35_1).f0) ((rd_T33 l0 x35_1).f1) false _ A8.out).mono ?_); rintro e w55 ⟨rfl, hb⟩; refine ⟨_, rfl, ?_⟩; replace HO_10 := zM (Kd.S_below (by (with_reducible repeat (first | apply Kd.S_alloc | apply Kd.S_drewN | apply Kd.S_drew)); exact (Kd.S_mono (Kd.S_far (p := ⟨gb105, 1, none⟩) (Kd.S_far (p := ⟨gb105, 0, none⟩) (Kd.S_mono HO_10.out (fun k_ hk => (⟨hk, hk.2⟩ : _ ∧ k_ ≠ gb105))) (fun _ hk => hk.2) (.string ((rd_T33 l0 x35_1).f0))) (fun _ hk => hk.2) (.int .i64 ((rd_T33 l0 x35_1).f1))) (fun _ h_ => h_.1))) hb); replace HO_11 := zM (Kd.P_below (by (with_reducible repeat (first | apply Kd.P_alloc | apply Kd.P_drewN | apply Kd.P_drew)); exact (Kd.P_mono (Kd.P_far (p := ⟨gb105, 1, none⟩) (Kd.P_far (p := ⟨gb105, 0, none⟩) (Kd.P_types HO_11.out BK105.out (by decide)) (fun _ hk => hk.2) (.string ((rd_T33 l0 x35_1).f0))) (fun _ hk => hk.2) (.int .i64 ((rd_T33 l0 x35_1).f1))) (fun _ h_ => h_.1))) hb); replace BK105 := zM (blk_below (g := gb105) (o := .cells #[.string ((rd_T33 l0 x35_1).f0), .int .i64 ((rd_T33 l0 x35_1).f1)] 33 (0, 0)) (by refine zk ?_; refine blk_put (cs := #[.string ((rd_T33 l0 x35_1).f0), .int .i64 0]) ?_ 1 _ rfl; refine zk ?_; refine blk_put (cs := #[.string (⟨#[]⟩ : ByteArray), .int .i64 0]) ?_ 0 _ rfl; refine zk ?_; exact BK105.out) hb); replace HB := zM (below_step zb hb); (try clear hb)))
          have n0_ := zM (Kd.S_drew HO_10.out)
          have n1_ := zM (Kd.P_drew HO_11.out)
          have n2_ := zM (blk_drew BK105.out)
          have n3_ := zM (zD HB.out)
          clear HO_10
          clear HO_11
          clear BK105
          clear HB
          have HO_10 := n0_
          have HO_11 := n1_
          have BK105 := n2_
          have HB := n3_
          clear n0_ n1_ n2_ n3_
          have p107 : 0 ≤ (x12_1 : Int) := zT zv
          have q107 : x12_1 < (l1.length : Int) := zT zv
          obtain ⟨ad107, e107, hx107_0, hx107_1⟩ := at_T33 HR1.out x12_1 p107 q107
          have hw107_1 := hx107_1
          have hw107_0 := hx107_0
          cases e107
          replace hx107_0 := (HB.out.cell (World.block_lt_of_cell? w _ hx107_0)).trans hx107_0
          replace hx107_1 := (HB.out.cell (World.block_lt_of_cell? w _ hx107_1)).trans hx107_1
          replace p107 := eq_true p107
          replace q107 := eq_true q107
          refine start_ (n := 6) (S := fun w' => w'.cell? ⟨gb105, 0, none⟩ = some (.string ((rd_T33 l0 x35_1).f0)) ∧ w'.cell? ⟨gb105, 1, none⟩ = some (.int .i64 ((rd_T33 l0 x35_1).f1)) ∧ w'.cell? (ad107.add ((x12_1).toNat * 2)) = some (.string ((rd_T33 l1 x12_1).f0)) ∧ w'.cell? ⟨(ad107.add ((x12_1).toNat * 2)).block, (ad107.add ((x12_1).toNat * 2)).off + 1, none⟩ = some (.int .i64 ((rd_T33 l1 x12_1).f1))) (ds := []) #[false, false, false, false, false, false] (by kernel_rfl) rfl rfl ⟨(zX BK105.out 0).trans rfl, (zX BK105.out 1).trans rfl, ((HB.out.cell (World.block_lt_of_cell? w _ hw107_0)).trans hw107_0), ((HB.out.cell (World.block_lt_of_cell? w _ hw107_1)).trans hw107_1)⟩ (fun hHeld => ?_)
          generalize w55.drew = w56 at HO_10 HO_11 BK105 HB hx107_0 hx107_1 hHeld ⊢
          refine pure_ (i := 0) (N := some 42) (v := ?_) (a' := ?_) #[true, false, false, false, false, false] rfl rfl (by kernel_rfl) (fun _ _ _ h => h) (Or.inl ⟨by rfl, ?_⟩) ?_ ?_
          rotate_left
          ·
           intro w'
           go_simp
           with_reducible rfl
          rotate_left
          ·
           simp only [Act.put, List.setIfInBounds_toArray, List.set_cons_zero, List.set_cons_succ, i64_w, i32_w]
           rfl
          refine pure_ (i := 1) (N := some 43) (v := ?_) (a' := ?_) #[true, true, false, false, false, false] rfl rfl (by kernel_rfl) (fun _ _ _ h => h) (Or.inl ⟨by rfl, ?_⟩) ?_ ?_
          rotate_left
          ·
           intro w'
           go_simp
           with_reducible rfl
          rotate_left
          ·
           simp only [Act.put, List.setIfInBounds_toArray, List.set_cons_zero, List.set_cons_succ, i64_w, i32_w]
           rfl
          refine pure_ (i := 2) (N := some 44) (v := ?_) (a' := ?_) #[true, true, true, false, false, false] rfl rfl (by kernel_rfl) (fun _ _ _ h => h) (Or.inl ⟨by rfl, ?_⟩) ?_ ?_
          rotate_left
          ·
           intro w'
           go_simp
           with_reducible rfl
          rotate_left
          ·
           simp only [Act.put, List.setIfInBounds_toArray, List.set_cons_zero, List.set_cons_succ, i64_w, i32_w]
           rfl
          refine take_ (i := 3) (N := some 45) (v := ?_) (a' := ?_) #[true, true, true, true, false, false] rfl rfl (by kernel_rfl) (fun _ _ _ h => h) (Or.inl ⟨by rfl, ?_⟩) hHeld ?_ ?_
          rotate_left
          ·
           rintro w' ⟨s0, s1, s2, s3⟩
           go_simp
           with_reducible rfl
          rotate_left
          ·
           simp only [Act.put, List.setIfInBounds_toArray, List.set_cons_zero, List.set_cons_succ, i64_w, i32_w]
           rfl
          refine take_ (i := 4) (N := some 46) (v := ?_) (a' := ?_) #[true, true, true, true, true, false] rfl rfl (by kernel_rfl) (fun _ _ _ h => h) (Or.inl ⟨by rfl, ?_⟩) hHeld ?_ ?_
          rotate_left
          ·
           rintro w' ⟨s0, s1, s2, s3⟩
           go_simp
           with_reducible rfl
          rotate_left
          ·
           simp only [Act.put, List.setIfInBounds_toArray, List.set_cons_zero, List.set_cons_succ, i64_w, i32_w]
           rfl
          refine pure_ (i := 5) (N := some 47) (v := ?_) (a' := ?_) #[true, true, true, true, true, true] rfl rfl (by kernel_rfl) (fun _ _ _ h => h) (Or.inl ⟨by rfl, ?_⟩) ?_ ?_
          rotate_left
          ·
           intro w'
           go_simp
           with_reducible rfl
          rotate_left
          ·
           simp only [Act.put, List.setIfInBounds_toArray, List.set_cons_zero, List.set_cons_succ, i64_w, i32_w]
           rfl
          refine done_ (by kernel_rfl) ?_
          try go_wp2
          go_roundg k1
          case measure => have := HK1.out; omega
          case rel => exact ⟨(x10_1), (x11_1), (wrap64 (x12_1 + 1)), (wrap64 (x35_1 + 1)), zy, zy, H', ⟨by have := HK1.out; omega⟩, ⟨by (with_reducible repeat (first | apply Kd.S_alloc | apply Kd.S_drewN | apply Kd.S_drew)); exact Kd.S_mono HO_10.out (fun _ hk => trivial)⟩, ⟨Kd.P_below HO_11.out zg⟩, ⟨zb⟩⟩
        ·
         rw [if_neg c47] at H
         exact absurd H (by simp)
       ·
        rw [if_neg c46] at H
        exact absurd H (by simp)
     ·
      rw [if_neg c7] at H
      exact absurd H (by simp)
    ·
     rw [if_neg c6] at H
     exact absurd H (by simp)
   ·
    rw [if_neg c5] at H
    have c5b0 : decide (x35_1 < (l0.length : Int)) = false := zR c5
    clear c5
    simp only [Option.some.injEq, Prod.mk.injEq] at H
    obtain ⟨rfl, rfl, rfl⟩ := H
    go_wp2
    go_ret3
    exact ⟨_, zw, Kd.S_below HO_10.out zg, zb⟩

end Go.Proofs.YtpnamhplhdaphaaDoor.P
