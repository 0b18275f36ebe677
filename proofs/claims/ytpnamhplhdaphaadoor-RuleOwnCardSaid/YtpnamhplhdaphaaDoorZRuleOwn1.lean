/- RuleOwn: the law answers true at every input that the given row speaks of. Conditions: those of the given row, none besides. (Part 2 of 5; written by programs of this session, which drive the kit's print, and by hand.) -/
import Derived.Lib.Builder
import Derived.Lib.OthersKept
import Derived.Lib.BufferKept
import Derived.Lib.UnsafeStr
import Derived.Lib.AppendStr
import Derived.Lib.Walk
import Derived.Lib.Slices
import Derived.Lib.Strings
import Derived.Laws.Externs
import Derived.RegionTactic
import Derived.ChangeAlike
import Derived.Deep.RegionHeld3
import Derived.Deep.DeepCutAuto
import Derived.KernelRfl
import Derived.Test.YtpnamhplhdaphaaDoorZRuleOwn0
set_option maxHeartbeats 8000000
set_option maxRecDepth 100000
set_option linter.unusedVariables false
set_option linter.unusedSimpArgs false
-- ==== PF15
namespace Go.Proofs.YtpnamhplhdaphaaDoor.P
open Go.RowKit Go.Proofs.YtpnamhplhdaphaaDoorW.PrintWords Go.Proofs.YtpnamhplhdaphaaDoorW.PrintLast Go.Proofs.YtpnamhplhdaphaaDoorW.PrintMore
attribute [local go_sem] max2_int min2_int max_two min_two max_three min_three max_four min_four

def rule_Parse.f (k : Nat) (a0 : ByteArray) (a1 : ByteArray) : Option (Int × (List (S33)) × (List (S33)) × Int) := (term_Parse.f k a0).bind fun bt102 => (if bt102.2.2 = 0 then ((term_Parse.f k a1).bind fun bt107 => (if bt107.2.2 = 0 then ((rule_Check.f k 0 bt102.1 bt107.1).bind fun t113 => (if t113 = 0 then (some (0, bt102.1, bt107.1, 0)) else (some (0, ([] : List (S33)), ([] : List (S33)), t113)))) else (some (0, ([] : List (S33)), ([] : List (S33)), bt107.2.2)))) else (some (0, ([] : List (S33)), ([] : List (S33)), bt102.2.2)))
theorem rule_Parse.mono : ∀ a0 a1 k, LeO (rule_Parse.f k a0 a1) (rule_Parse.f (k + 1) a0 a1) := by
 intro a0 a1 k
 unfold rule_Parse.f
 repeat' first
  | (with_reducible exact rule_Check.mono _ _ _ _)
  | (with_reducible exact term_Parse.mono _ _)
  | (with_reducible exact LeO.refl _)
  | (with_reducible exact LeO.none _)
  | (with_reducible refine LeO.ite ?_ ?_)
  | (with_reducible refine LeO.bind ?_ (fun _ => ?_))
theorem rule_Parse.calls (k : Nat) (a0 : ByteArray) (a1 : ByteArray) (r1 : Int) (r2 : List (S33)) (r3 : List (S33)) (r4 : Int) (w : World) (h : rule_Parse.f k a0 a1 = some (r1, r2, r3, r4)) :
 Calls Tryd.prog 15 #[.string a0, .string a1] w fun e w' => ∃ v1_ v2_ : Value, e = .returned (.tuple #[.agg #[.int .i64 r1, v1_, v2_], .int .i64 r4]) ∧ Kd.R k33 33 w' w.heap.size (fun k_ => some k_ ≠ (v2_ : Value).ownBlock) v1_ r2 ∧ Kd.R k33 33 w' w.heap.size (fun k_ => some k_ ≠ (v1_ : Value).ownBlock) v2_ r3 ∧ Below w.heap.size w w' := by
 have hu25 := Tryd.underlying25
 have HB := zM (Below.refl w.heap.size w)
 have H : ((term_Parse.f k a0).bind fun bt102 => (if bt102.2.2 = 0 then ((term_Parse.f k a1).bind fun bt107 => (if bt107.2.2 = 0 then ((rule_Check.f k 0 bt102.1 bt107.1).bind fun t113 => (if t113 = 0 then (some (0, bt102.1, bt107.1, 0)) else (some (0, ([] : List (S33)), ([] : List (S33)), t113)))) else (some (0, ([] : List (S33)), ([] : List (S33)), bt107.2.2)))) else (some (0, ([] : List (S33)), ([] : List (S33)), bt102.2.2)))) = some (r1, r2, r3, r4) := h
 clear h
 replace H := zB H
 obtain ⟨⟨t102, t103, t104⟩, A30, H⟩ := H
 try dsimp only at H
 have A3 := zM A30
 clear A30
 by_cases c4 : t104 = 0
 ·
  rw [if_pos c4] at H
  have c4b0 : (t104 == 0) = true := zG c4
  have c4b1 : (t104 != 0) = false := zH c4
  clear c4
  replace H := zB H
  obtain ⟨⟨t107, t108, t109⟩, A50, H⟩ := H
  try dsimp only at H
  have A5 := zM A50
  clear A50
  by_cases c6 : t109 = 0
  ·
   rw [if_pos c6] at H
   have c6b0 : (t109 == 0) = true := zG c6
   have c6b1 : (t109 != 0) = false := zH c6
   clear c6
   replace H := zB H
   obtain ⟨t113, A70, H⟩ := H
   try dsimp only at H
   have A7 := zM A70
   clear A70
   by_cases c8 : t113 = 0
   ·
    rw [if_pos c8] at H
    have c8b0 : (t113 == 0) = true := zG c8
    have c8b1 : (t113 != 0) = false := zH c8
    clear c8
    simp only [Option.some.injEq, Prod.mk.injEq] at H
    obtain ⟨rfl, rfl, rfl, rfl⟩ := H
    go_enter Tryd.func15, Tryd.ntmps15
    go_wp2_with (first | ((with_reducible refine gate_dst (N := 4) rfl ?_); refine box_event ?hg (N := 4) ?hd (cs := #[.int .i64 0, .slice none 0 0, .slice none 0 0]) (t := 25) ?hr ?_; (case hd => rfl); (case hg => rfl); (case hr => first | (go_simp; done) | (go_simp; rfl)); intro gb101 hg w9 hbox hb; have BK101 := zM (hbox); have GW101 := zM (zh hg : w.heap.size ≤ gb101); have GE101 := zM (zh hg : w.heap.size ≤ gb101); replace HB := zM (below_step zb hb); clear hb hbox hg) | ((with_reducible refine gate_callee (f := 41) rfl ?_); refine goesL_ (some 15) rfl rfl Tryd.func41 (by kernel_rfl) rfl #[.string a0] rfl zl ?_; (with_reducible refine (term_Parse.calls k a0 t102 t103 t104 _ A3.out).mono ?_); rintro e w10 ⟨v105, rfl, ho0, hb⟩; refine ⟨_, rfl, ?_⟩; have HO106 := zM (Kd.R_lower ho0 (below_size zb)); replace BK101 := zM (blk_below (zk BK101.out) hb); replace HB := zM (below_step zb hb); (try clear hb); (try clear ho0)) | ((with_reducible refine gate_callee (f := 41) rfl ?_); refine goesL_ (some 25) rfl rfl Tryd.func41 (by kernel_rfl) rfl #[.string a1] rfl zl ?_; (with_reducible refine (term_Parse.calls k a1 t107 t108 t109 _ A5.out).mono ?_); rintro e w11 ⟨v110, rfl, ho0, hb⟩; refine ⟨_, rfl, ?_⟩; have HO111 := zM (Kd.R_lower (Kd.R_new' ho0 (Kd.R_lt (zr HO106.out))) (below_size zb)); replace HO106 := zM (Kd.R_elder' (zr HO106.out) (Kd.R_base ho0) hb); replace BK101 := zM (blk_below (zk BK101.out) hb); replace HB := zM (below_step zb hb); (try clear hb); (try clear ho0); obtain ⟨Ao12, co12, eo12⟩ := Kd.R_slice HO111.out; subst eo12; obtain ⟨Ao13, co13, eo13⟩ := Kd.R_slice HO106.out; subst eo13) | ((with_reducible refine gate_dst (N := 11) rfl ?_); refine box_event ?hg (N := 11) ?hd (cs := #[.int .i64 0, .slice none 0 0, .slice none 0 0]) (t := 25) ?hr ?_; (case hd => rfl); (case hg => rfl); (case hr => first | (go_simp; done) | (go_simp; rfl)); intro gb112 hg w14 hbox hb; replace HO106 := zM (Kd.R_below (zr HO106.out) hb); replace HO111 := zM (Kd.R_below (zr HO111.out) hb); have BK112 := zM (hbox); have GW112 := zM (zh hg : w.heap.size ≤ gb112); have GE112 := zM (zh hg : w.heap.size ≤ gb112); replace HB := zM (below_step zb hb); have NB101_112 := zM ((by rw [hg]; exact Nat.ne_of_lt (blk_lt (zk BK101.out)) : gb101 ≠ gb112)); have NB112_101 := zM ((by rw [hg]; exact Nat.ne_of_gt (blk_lt (zk BK101.out)) : gb112 ≠ gb101)); replace BK101 := zM (blk_below (zk BK101.out) hb); clear hb hbox hg; have hnb15 := NB112_101.out; have hnc15 := NB101_112.out; have hcz16_0 : w14.cell? ⟨gb112, 0, none⟩ = some (.int .i64 0) := (zX BK112.out 0).trans rfl; have hcz16_1 : w14.cell? ⟨gb112, 1, none⟩ = some (.slice none 0 0) := (zX BK112.out 1).trans rfl; have hcz16_2 : w14.cell? ⟨gb112, 2, none⟩ = some (.slice none 0 0) := (zX BK112.out 2).trans rfl; have hfz16_0 := zY BK112.out 0; have hfz16_1 := zY BK112.out 1; have hfz16_2 := zY BK112.out 2) | ((with_reducible refine gate_callee (f := 11) rfl ?_); refine goesL_ (some 37) rfl rfl Tryd.func11 (by kernel_rfl) rfl #[.agg #[.int .i64 0, .slice Ao13 t102.length co13, .slice Ao12 t107.length co12]] rfl zl ?_; (with_reducible refine (rule_Check.calls k 0 _ _ t102 _ _ t107 t113 _ ?side1 ?side2 ?side3 ?side4 A7.out).mono ?_); (case side1 => refine (Kd.R_reads' (e := 33) (base := w.heap.size) (ok := fun k_ => (True ∧ some k_ ≠ (.slice Ao12 t107.length co12 : Value).ownBlock)) (n := t102.length) (c := co13) ?_).2.2; exact (by (with_reducible repeat (first | apply Kd.R_alloc | apply Kd.R_drewN | apply Kd.R_drew)); exact (Kd.R_mono (Kd.R_far (p := ⟨gb112, 2, none⟩) (Kd.R_far (p := ⟨gb112, 1, none⟩) (Kd.R_far (p := ⟨gb112, 0, none⟩) (Kd.R_types HO106.out BK112.out (by decide)) (fun _ hk => hk.2) (.int .i64 0)) (fun _ hk => hk.2) (.slice Ao13 t102.length co13)) (fun _ hk => hk.2) (.slice Ao12 t107.length co12)) (fun _ h_ => h_.1)))); (case side2 => exact (Kd.R_reads' HO106.out).2.1); (case side3 => refine (Kd.R_reads' (e := 33) (base := w.heap.size) (ok := fun k_ => (True ∧ some k_ ≠ (.slice Ao13 t102.length co13 : Value).ownBlock)) (n := t107.length) (c := co12) ?_).2.2; exact (by (with_reducible repeat (first | apply Kd.R_alloc | apply Kd.R_drewN | apply Kd.R_drew)); exact (Kd.R_mono (Kd.R_far (p := ⟨gb112, 2, none⟩) (Kd.R_far (p := ⟨gb112, 1, none⟩) (Kd.R_far (p := ⟨gb112, 0, none⟩) (Kd.R_types HO111.out BK112.out (by decide)) (fun _ hk => hk.2) (.int .i64 0)) (fun _ hk => hk.2) (.slice Ao13 t102.length co13)) (fun _ hk => hk.2) (.slice Ao12 t107.length co12)) (fun _ h_ => h_.1)))); (case side4 => exact (Kd.R_reads' HO111.out).2.1); rintro e w17 ⟨rfl, hb⟩; refine ⟨_, rfl, ?_⟩; replace HO106 := zM (Kd.R_below (by (with_reducible repeat (first | apply Kd.R_alloc | apply Kd.R_drewN | apply Kd.R_drew)); exact (Kd.R_mono (Kd.R_far (p := ⟨gb112, 2, none⟩) (Kd.R_far (p := ⟨gb112, 1, none⟩) (Kd.R_far (p := ⟨gb112, 0, none⟩) (Kd.R_types HO106.out BK112.out (by decide)) (fun _ hk => hk.2) (.int .i64 0)) (fun _ hk => hk.2) (.slice Ao13 t102.length co13)) (fun _ hk => hk.2) (.slice Ao12 t107.length co12)) (fun _ h_ => h_.1))) hb); replace HO111 := zM (Kd.R_below (by (with_reducible repeat (first | apply Kd.R_alloc | apply Kd.R_drewN | apply Kd.R_drew)); exact (Kd.R_mono (Kd.R_far (p := ⟨gb112, 2, none⟩) (Kd.R_far (p := ⟨gb112, 1, none⟩) (Kd.R_far (p := ⟨gb112, 0, none⟩) (Kd.R_types HO111.out BK112.out (by decide)) (fun _ hk => hk.2) (.int .i64 0)) (fun _ hk => hk.2) (.slice Ao13 t102.length co13)) (fun _ hk => hk.2) (.slice Ao12 t107.length co12)) (fun _ h_ => h_.1))) hb); replace BK101 := zM (blk_below (g := gb101) (o := .cells #[.int .i64 0, .slice none 0 0, .slice none 0 0] 25 (0, 0)) (by refine zk ?_; refine blk_far ?_ NB101_112.out _; refine zk ?_; refine blk_far ?_ NB101_112.out _; refine zk ?_; refine blk_far ?_ NB101_112.out _; refine zk ?_; exact BK101.out) hb); replace BK112 := zM (blk_below (g := gb112) (o := .cells #[.int .i64 0, .slice Ao13 t102.length co13, .slice Ao12 t107.length co12] 25 (0, 0)) (by refine zk ?_; refine blk_put (cs := #[.int .i64 0, .slice Ao13 t102.length co13, .slice none 0 0]) ?_ 2 _ rfl; refine zk ?_; refine blk_put (cs := #[.int .i64 0, .slice none 0 0, .slice none 0 0]) ?_ 1 _ rfl; refine zk ?_; refine blk_put (cs := #[.int .i64 0, .slice none 0 0, .slice none 0 0]) ?_ 0 _ rfl; refine zk ?_; exact BK112.out) hb); replace HB := zM (below_step zb hb); (try clear hb); have hcz18_0 : w17.cell? ⟨gb112, 0, none⟩ = some (.int .i64 0) := (zX BK112.out 0).trans rfl; have hcz18_1 : w17.cell? ⟨gb112, 1, none⟩ = some (.slice Ao13 t102.length co13) := (zX BK112.out 1).trans rfl; have hcz18_2 : w17.cell? ⟨gb112, 2, none⟩ = some (.slice Ao12 t107.length co12) := (zX BK112.out 2).trans rfl; have hfz18_0 := zY BK112.out 0; have hfz18_1 := zY BK112.out 1; have hfz18_2 := zY BK112.out 2; have hcz19_0 : w17.cell? ⟨gb101, 0, none⟩ = some (.int .i64 0) := (zX BK101.out 0).trans rfl; have hcz19_1 : w17.cell? ⟨gb101, 1, none⟩ = some (.slice none 0 0) := (zX BK101.out 1).trans rfl; have hcz19_2 : w17.cell? ⟨gb101, 2, none⟩ = some (.slice none 0 0) := (zX BK101.out 2).trans rfl; have hfz19_0 := zY BK101.out 0; have hfz19_1 := zY BK101.out 1; have hfz19_2 := zY BK101.out 2))
    refine bodyPost_ret (results_ct rfl _ _ gb101 25 #[.int .i64 0, .slice Ao13 t102.length co13, .slice Ao12 t107.length co12] (0, 0) _ rfl (by refine zk ?_; refine blk_put (cs := #[.int .i64 0, .slice Ao13 t102.length co13, .slice none 0 0]) ?_ 2 _ rfl; refine zk ?_; refine blk_put (cs := #[.int .i64 0, .slice none 0 0, .slice none 0 0]) ?_ 1 _ rfl; refine zk ?_; refine blk_put (cs := #[.int .i64 0, .slice none 0 0, .slice none 0 0]) ?_ 0 _ rfl; refine zk ?_; exact BK101.out) Tryd.underlying25 rfl (by kernel_rfl)) rfl ?_
    exact ⟨_, _, zw, by (with_reducible repeat (first | apply Kd.R_alloc | apply Kd.R_drewN | apply Kd.R_drew)); exact Kd.R_mono (Kd.R_far (p := ⟨gb101, 2, none⟩) (Kd.R_far (p := ⟨gb101, 1, none⟩) (Kd.R_far (p := ⟨gb101, 0, none⟩) (Kd.R_types HO106.out BK101.out (by decide)) (fun _ hk => hk.2) (.int .i64 0)) (fun _ hk => hk.2) (.slice Ao13 t102.length co13)) (fun _ hk => hk.2) (.slice Ao12 t107.length co12)) (fun _ hk => hk.1.2), by (with_reducible repeat (first | apply Kd.R_alloc | apply Kd.R_drewN | apply Kd.R_drew)); exact Kd.R_mono (Kd.R_far (p := ⟨gb101, 2, none⟩) (Kd.R_far (p := ⟨gb101, 1, none⟩) (Kd.R_far (p := ⟨gb101, 0, none⟩) (Kd.R_types HO111.out BK101.out (by decide)) (fun _ hk => hk.2) (.int .i64 0)) (fun _ hk => hk.2) (.slice Ao13 t102.length co13)) (fun _ hk => hk.2) (.slice Ao12 t107.length co12)) (fun _ hk => hk.1.2), zb⟩
   ·
    rw [if_neg c8] at H
    have c8b0 : (t113 == 0) = false := zE c8
    have c8b1 : (t113 != 0) = true := zF c8
    simp only [Option.some.injEq, Prod.mk.injEq] at H
    obtain ⟨rfl, rfl, rfl, rfl⟩ := H
    go_enter Tryd.func15, Tryd.ntmps15
    go_wp2_with (first | ((with_reducible refine gate_dst (N := 4) rfl ?_); refine box_event ?hg (N := 4) ?hd (cs := #[.int .i64 0, .slice none 0 0, .slice none 0 0]) (t := 25) ?hr ?_; (case hd => rfl); (case hg => rfl); (case hr => first | (go_simp; done) | (go_simp; rfl)); intro gb101 hg w20 hbox hb; have BK101 := zM (hbox); have GW101 := zM (zh hg : w.heap.size ≤ gb101); have GE101 := zM (zh hg : w.heap.size ≤ gb101); replace HB := zM (below_step zb hb); clear hb hbox hg) | ((with_reducible refine gate_callee (f := 41) rfl ?_); refine goesL_ (some 15) rfl rfl Tryd.func41 (by kernel_rfl) rfl #[.string a0] rfl zl ?_; (with_reducible refine (term_Parse.calls k a0 t102 t103 t104 _ A3.out).mono ?_); rintro e w21 ⟨v105, rfl, ho0, hb⟩; refine ⟨_, rfl, ?_⟩; have HO106 := zM (Kd.R_lower ho0 (below_size zb)); replace BK101 := zM (blk_below (zk BK101.out) hb); replace HB := zM (below_step zb hb); (try clear hb); (try clear ho0)) | ((with_reducible refine gate_callee (f := 41) rfl ?_); refine goesL_ (some 25) rfl rfl Tryd.func41 (by kernel_rfl) rfl #[.string a1] rfl zl ?_; (with_reducible refine (term_Parse.calls k a1 t107 t108 t109 _ A5.out).mono ?_); rintro e w22 ⟨v110, rfl, ho0, hb⟩; refine ⟨_, rfl, ?_⟩; have HO111 := zM (Kd.R_lower (Kd.R_new' ho0 (Kd.R_lt (zr HO106.out))) (below_size zb)); replace HO106 := zM (Kd.R_elder' (zr HO106.out) (Kd.R_base ho0) hb); replace BK101 := zM (blk_below (zk BK101.out) hb); replace HB := zM (below_step zb hb); (try clear hb); (try clear ho0); obtain ⟨Ao23, co23, eo23⟩ := Kd.R_slice HO111.out; subst eo23; obtain ⟨Ao24, co24, eo24⟩ := Kd.R_slice HO106.out; subst eo24) | ((with_reducible refine gate_dst (N := 11) rfl ?_); refine box_event ?hg (N := 11) ?hd (cs := #[.int .i64 0, .slice none 0 0, .slice none 0 0]) (t := 25) ?hr ?_; (case hd => rfl); (case hg => rfl); (case hr => first | (go_simp; done) | (go_simp; rfl)); intro gb112 hg w25 hbox hb; replace HO106 := zM (Kd.R_below (zr HO106.out) hb); replace HO111 := zM (Kd.R_below (zr HO111.out) hb); have BK112 := zM (hbox); have GW112 := zM (zh hg : w.heap.size ≤ gb112); have GE112 := zM (zh hg : w.heap.size ≤ gb112); replace HB := zM (below_step zb hb); have NB101_112 := zM ((by rw [hg]; exact Nat.ne_of_lt (blk_lt (zk BK101.out)) : gb101 ≠ gb112)); have NB112_101 := zM ((by rw [hg]; exact Nat.ne_of_gt (blk_lt (zk BK101.out)) : gb112 ≠ gb101)); replace BK101 := zM (blk_below (zk BK101.out) hb); clear hb hbox hg; have hnb26 := NB112_101.out; have hnc26 := NB101_112.out; have hcz27_0 : w25.cell? ⟨gb112, 0, none⟩ = some (.int .i64 0) := (zX BK112.out 0).trans rfl; have hcz27_1 : w25.cell? ⟨gb112, 1, none⟩ = some (.slice none 0 0) := (zX BK112.out 1).trans rfl; have hcz27_2 : w25.cell? ⟨gb112, 2, none⟩ = some (.slice none 0 0) := (zX BK112.out 2).trans rfl; have hfz27_0 := zY BK112.out 0; have hfz27_1 := zY BK112.out 1; have hfz27_2 := zY BK112.out 2) | ((with_reducible refine gate_callee (f := 11) rfl ?_); refine goesL_ (some 37) rfl rfl Tryd.func11 (by kernel_rfl) rfl #[.agg #[.int .i64 0, .slice Ao24 t102.length co24, .slice Ao23 t107.length co23]] rfl zl ?_; (with_reducible refine (rule_Check.calls k 0 _ _ t102 _ _ t107 t113 _ ?side1 ?side2 ?side3 ?side4 A7.out).mono ?_); (case side1 => refine (Kd.R_reads' (e := 33) (base := w.heap.size) (ok := fun k_ => (True ∧ some k_ ≠ (.slice Ao23 t107.length co23 : Value).ownBlock)) (n := t102.length) (c := co24) ?_).2.2; exact (by (with_reducible repeat (first | apply Kd.R_alloc | apply Kd.R_drewN | apply Kd.R_drew)); exact (Kd.R_mono (Kd.R_far (p := ⟨gb112, 2, none⟩) (Kd.R_far (p := ⟨gb112, 1, none⟩) (Kd.R_far (p := ⟨gb112, 0, none⟩) (Kd.R_types HO106.out BK112.out (by decide)) (fun _ hk => hk.2) (.int .i64 0)) (fun _ hk => hk.2) (.slice Ao24 t102.length co24)) (fun _ hk => hk.2) (.slice Ao23 t107.length co23)) (fun _ h_ => h_.1)))); (case side2 => exact (Kd.R_reads' HO106.out).2.1); (case side3 => refine (Kd.R_reads' (e := 33) (base := w.heap.size) (ok := fun k_ => (True ∧ some k_ ≠ (.slice Ao24 t102.length co24 : Value).ownBlock)) (n := t107.length) (c := co23) ?_).2.2; exact (by (with_reducible repeat (first | apply Kd.R_alloc | apply Kd.R_drewN | apply Kd.R_drew)); exact (Kd.R_mono (Kd.R_far (p := ⟨gb112, 2, none⟩) (Kd.R_far (p := ⟨gb112, 1, none⟩) (Kd.R_far (p := ⟨gb112, 0, none⟩) (Kd.R_types HO111.out BK112.out (by decide)) (fun _ hk => hk.2) (.int .i64 0)) (fun _ hk => hk.2) (.slice Ao24 t102.length co24)) (fun _ hk => hk.2) (.slice Ao23 t107.length co23)) (fun _ h_ => h_.1)))); (case side4 => exact (Kd.R_reads' HO111.out).2.1); rintro e w28 ⟨rfl, hb⟩; refine ⟨_, rfl, ?_⟩; replace HO106 := zM (Kd.R_below (by (with_reducible repeat (first | apply Kd.R_alloc | apply Kd.R_drewN | apply Kd.R_drew)); exact (Kd.R_mono (Kd.R_far (p := ⟨gb112, 2, none⟩) (Kd.R_far (p := ⟨gb112, 1, none⟩) (Kd.R_far (p := ⟨gb112, 0, none⟩) (Kd.R_types HO106.out BK112.out (by decide)) (fun _ hk => hk.2) (.int .i64 0)) (fun _ hk => hk.2) (.slice Ao24 t102.length co24)) (fun _ hk => hk.2) (.slice Ao23 t107.length co23)) (fun _ h_ => h_.1))) hb); replace HO111 := zM (Kd.R_below (by (with_reducible repeat (first | apply Kd.R_alloc | apply Kd.R_drewN | apply Kd.R_drew)); exact (Kd.R_mono (Kd.R_far (p := ⟨gb112, 2, none⟩) (Kd.R_far (p := ⟨gb112, 1, none⟩) (Kd.R_far (p := ⟨gb112, 0, none⟩) (Kd.R_types HO111.out BK112.out (by decide)) (fun _ hk => hk.2) (.int .i64 0)) (fun _ hk => hk.2) (.slice Ao24 t102.length co24)) (fun _ hk => hk.2) (.slice Ao23 t107.length co23)) (fun _ h_ => h_.1))) hb); replace BK101 := zM (blk_below (g := gb101) (o := .cells #[.int .i64 0, .slice none 0 0, .slice none 0 0] 25 (0, 0)) (by refine zk ?_; refine blk_far ?_ NB101_112.out _; refine zk ?_; refine blk_far ?_ NB101_112.out _; refine zk ?_; refine blk_far ?_ NB101_112.out _; refine zk ?_; exact BK101.out) hb); replace BK112 := zM (blk_below (g := gb112) (o := .cells #[.int .i64 0, .slice Ao24 t102.length co24, .slice Ao23 t107.length co23] 25 (0, 0)) (by refine zk ?_; refine blk_put (cs := #[.int .i64 0, .slice Ao24 t102.length co24, .slice none 0 0]) ?_ 2 _ rfl; refine zk ?_; refine blk_put (cs := #[.int .i64 0, .slice none 0 0, .slice none 0 0]) ?_ 1 _ rfl; refine zk ?_; refine blk_put (cs := #[.int .i64 0, .slice none 0 0, .slice none 0 0]) ?_ 0 _ rfl; refine zk ?_; exact BK112.out) hb); replace HB := zM (below_step zb hb); (try clear hb); have hcz29_0 : w28.cell? ⟨gb101, 0, none⟩ = some (.int .i64 0) := (zX BK101.out 0).trans rfl; have hcz29_1 : w28.cell? ⟨gb101, 1, none⟩ = some (.slice none 0 0) := (zX BK101.out 1).trans rfl; have hcz29_2 : w28.cell? ⟨gb101, 2, none⟩ = some (.slice none 0 0) := (zX BK101.out 2).trans rfl; have hfz29_0 := zY BK101.out 0; have hfz29_1 := zY BK101.out 1; have hfz29_2 := zY BK101.out 2))
    refine bodyPost_ret (results_ct rfl _ _ gb101 25 #[.int .i64 0, .slice none 0 0, .slice none 0 0] (0, 0) _ rfl (by refine zk ?_; refine blk_put (cs := #[.int .i64 0, .slice none 0 0, .slice none 0 0]) ?_ 2 _ rfl; refine zk ?_; refine blk_put (cs := #[.int .i64 0, .slice none 0 0, .slice none 0 0]) ?_ 1 _ rfl; refine zk ?_; refine blk_put (cs := #[.int .i64 0, .slice none 0 0, .slice none 0 0]) ?_ 0 _ rfl; refine zk ?_; exact BK101.out) Tryd.underlying25 rfl (by kernel_rfl)) rfl ?_
    exact ⟨_, _, zw, by first | exact Kd.R_nil _ _ _ _ _ | exact Kd.N_nil _ _ _ _ _ | exact Kd.V_nil _ _ _ _ _ | exact Kd.Q_nil _ _ _ _ _ | exact Kd.S_nil _ _ _ _ _, by first | exact Kd.R_nil _ _ _ _ _ | exact Kd.N_nil _ _ _ _ _ | exact Kd.V_nil _ _ _ _ _ | exact Kd.Q_nil _ _ _ _ _ | exact Kd.S_nil _ _ _ _ _, zb⟩
  ·
   rw [if_neg c6] at H
   have c6b0 : (t109 == 0) = false := zE c6
   have c6b1 : (t109 != 0) = true := zF c6
   simp only [Option.some.injEq, Prod.mk.injEq] at H
   obtain ⟨rfl, rfl, rfl, rfl⟩ := H
   go_enter Tryd.func15, Tryd.ntmps15
   go_wp2_with (first | ((with_reducible refine gate_dst (N := 4) rfl ?_); refine box_event ?hg (N := 4) ?hd (cs := #[.int .i64 0, .slice none 0 0, .slice none 0 0]) (t := 25) ?hr ?_; (case hd => rfl); (case hg => rfl); (case hr => first | (go_simp; done) | (go_simp; rfl)); intro gb101 hg w30 hbox hb; have BK101 := zM (hbox); have GW101 := zM (zh hg : w.heap.size ≤ gb101); have GE101 := zM (zh hg : w.heap.size ≤ gb101); replace HB := zM (below_step zb hb); clear hb hbox hg) | ((with_reducible refine gate_callee (f := 41) rfl ?_); refine goesL_ (some 15) rfl rfl Tryd.func41 (by kernel_rfl) rfl #[.string a0] rfl zl ?_; (with_reducible refine (term_Parse.calls k a0 t102 t103 t104 _ A3.out).mono ?_); rintro e w31 ⟨v105, rfl, ho0, hb⟩; refine ⟨_, rfl, ?_⟩; have HO106 := zM (Kd.R_lower ho0 (below_size zb)); replace BK101 := zM (blk_below (zk BK101.out) hb); replace HB := zM (below_step zb hb); (try clear hb); (try clear ho0)) | ((with_reducible refine gate_callee (f := 41) rfl ?_); refine goesL_ (some 25) rfl rfl Tryd.func41 (by kernel_rfl) rfl #[.string a1] rfl zl ?_; (with_reducible refine (term_Parse.calls k a1 t107 t108 t109 _ A5.out).mono ?_); rintro e w32 ⟨v110, rfl, ho0, hb⟩; refine ⟨_, rfl, ?_⟩; have HO111 := zM (Kd.R_lower (Kd.R_new' ho0 (Kd.R_lt (zr HO106.out))) (below_size zb)); replace HO106 := zM (Kd.R_elder' (zr HO106.out) (Kd.R_base ho0) hb); replace BK101 := zM (blk_below (zk BK101.out) hb); replace HB := zM (below_step zb hb); (try clear hb); (try clear ho0); have hcz33_0 : w32.cell? ⟨gb101, 0, none⟩ = some (.int .i64 0) := (zX BK101.out 0).trans rfl; have hcz33_1 : w32.cell? ⟨gb101, 1, none⟩ = some (.slice none 0 0) := (zX BK101.out 1).trans rfl; have hcz33_2 : w32.cell? ⟨gb101, 2, none⟩ = some (.slice none 0 0) := (zX BK101.out 2).trans rfl; have hfz33_0 := zY BK101.out 0; have hfz33_1 := zY BK101.out 1; have hfz33_2 := zY BK101.out 2))
   refine bodyPost_ret (results_ct rfl _ _ gb101 25 #[.int .i64 0, .slice none 0 0, .slice none 0 0] (0, 0) _ rfl (by refine zk ?_; refine blk_put (cs := #[.int .i64 0, .slice none 0 0, .slice none 0 0]) ?_ 2 _ rfl; refine zk ?_; refine blk_put (cs := #[.int .i64 0, .slice none 0 0, .slice none 0 0]) ?_ 1 _ rfl; refine zk ?_; refine blk_put (cs := #[.int .i64 0, .slice none 0 0, .slice none 0 0]) ?_ 0 _ rfl; refine zk ?_; exact BK101.out) Tryd.underlying25 rfl (by kernel_rfl)) rfl ?_
   exact ⟨_, _, zw, by first | exact Kd.R_nil _ _ _ _ _ | exact Kd.N_nil _ _ _ _ _ | exact Kd.V_nil _ _ _ _ _ | exact Kd.Q_nil _ _ _ _ _ | exact Kd.S_nil _ _ _ _ _, by first | exact Kd.R_nil _ _ _ _ _ | exact Kd.N_nil _ _ _ _ _ | exact Kd.V_nil _ _ _ _ _ | exact Kd.Q_nil _ _ _ _ _ | exact Kd.S_nil _ _ _ _ _, zb⟩
 ·
  rw [if_neg c4] at H
  have c4b0 : (t104 == 0) = false := zE c4
  have c4b1 : (t104 != 0) = true := zF c4
  simp only [Option.some.injEq, Prod.mk.injEq] at H
  obtain ⟨rfl, rfl, rfl, rfl⟩ := H
  go_enter Tryd.func15, Tryd.ntmps15
  go_wp2_with (first | ((with_reducible refine gate_dst (N := 4) rfl ?_); refine box_event ?hg (N := 4) ?hd (cs := #[.int .i64 0, .slice none 0 0, .slice none 0 0]) (t := 25) ?hr ?_; (case hd => rfl); (case hg => rfl); (case hr => first | (go_simp; done) | (go_simp; rfl)); intro gb101 hg w34 hbox hb; have BK101 := zM (hbox); have GW101 := zM (zh hg : w.heap.size ≤ gb101); have GE101 := zM (zh hg : w.heap.size ≤ gb101); replace HB := zM (below_step zb hb); clear hb hbox hg) | ((with_reducible refine gate_callee (f := 41) rfl ?_); refine goesL_ (some 15) rfl rfl Tryd.func41 (by kernel_rfl) rfl #[.string a0] rfl zl ?_; (with_reducible refine (term_Parse.calls k a0 t102 t103 t104 _ A3.out).mono ?_); rintro e w35 ⟨v105, rfl, ho0, hb⟩; refine ⟨_, rfl, ?_⟩; have HO106 := zM (Kd.R_lower ho0 (below_size zb)); replace BK101 := zM (blk_below (zk BK101.out) hb); replace HB := zM (below_step zb hb); (try clear hb); (try clear ho0); have hcz36_0 : w35.cell? ⟨gb101, 0, none⟩ = some (.int .i64 0) := (zX BK101.out 0).trans rfl; have hcz36_1 : w35.cell? ⟨gb101, 1, none⟩ = some (.slice none 0 0) := (zX BK101.out 1).trans rfl; have hcz36_2 : w35.cell? ⟨gb101, 2, none⟩ = some (.slice none 0 0) := (zX BK101.out 2).trans rfl; have hfz36_0 := zY BK101.out 0; have hfz36_1 := zY BK101.out 1; have hfz36_2 := zY BK101.out 2))
  refine bodyPost_ret (results_ct rfl _ _ gb101 25 #[.int .i64 0, .slice none 0 0, .slice none 0 0] (0, 0) _ rfl (by refine zk ?_; refine blk_put (cs := #[.int .i64 0, .slice none 0 0, .slice none 0 0]) ?_ 2 _ rfl; refine zk ?_; refine blk_put (cs := #[.int .i64 0, .slice none 0 0, .slice none 0 0]) ?_ 1 _ rfl; refine zk ?_; refine blk_put (cs := #[.int .i64 0, .slice none 0 0, .slice none 0 0]) ?_ 0 _ rfl; refine zk ?_; exact BK101.out) Tryd.underlying25 rfl (by kernel_rfl)) rfl ?_
  exact ⟨_, _, zw, by first | exact Kd.R_nil _ _ _ _ _ | exact Kd.N_nil _ _ _ _ _ | exact Kd.V_nil _ _ _ _ _ | exact Kd.Q_nil _ _ _ _ _ | exact Kd.S_nil _ _ _ _ _, by first | exact Kd.R_nil _ _ _ _ _ | exact Kd.N_nil _ _ _ _ _ | exact Kd.V_nil _ _ _ _ _ | exact Kd.Q_nil _ _ _ _ _ | exact Kd.S_nil _ _ _ _ _, zb⟩


-- ==== PF43

theorem bd_info : ∃ j, Tryd.prog.info? 99 = some j ∧ j.size = 2 := by
 have h : (Tryd.prog.info? 99).map (·.size) = some 2 := by kernel_rfl
 exact Option.map_eq_some_iff.1 h
theorem bd_lies : liesAt Tryd.prog Tryd.prog.depth 99 (2 / Tryd.prog.cellsOf 99) 0 99 1 = true := by kernel_rfl
theorem bd_used (b : Nat) (w : World) (h0 : w.cell? ⟨b, 0, none⟩ = some (.pointer (some ⟨b, 0, none⟩))) :
 Calls Tryd.prog 86 #[.pointer (some ⟨b, 0, none⟩)] w fun e w' => e = .returned (.tuple #[]) ∧ w' = w := by
 obtain ⟨j, hj, hjs⟩ := bd_info
 go_enter Tryd.func86, Tryd.ntmps86
 go_wp2
 rw [Lib.run_neq_ptr_same w _ Tryd.underlying96 hj]
 go_wp2
 go_end0
 exact ⟨rfl, rfl⟩
theorem bd_fresh (b : Nat) (w : World) (h0 : w.cell? ⟨b, 0, none⟩ = some (.pointer none)) (hsh : w.shape? b = some (99, 2)) (hfz : w.frozen? ⟨b, 0, none⟩ = false) :
 Calls Tryd.prog 86 #[.pointer (some ⟨b, 0, none⟩)] w fun e w' => e = .returned (.tuple #[]) ∧ w' = w.setCell ⟨b, 0, none⟩ (.pointer (some ⟨b, 0, none⟩)) := by
 obtain ⟨j, hj, hjs⟩ := bd_info
 go_enter Tryd.func86, Tryd.ntmps86
 go_wp2
 rw [Lib.run_to_unsafe w ⟨b, 0, none⟩ Tryd.underlying96 Tryd.underlying131 hj (by rw [hjs]; decide) hsh (Nat.zero_lt_succ 1)]
 simp only [Result.andThen]
 rw [Oper.upon_value]
 go_wp2
 rw [run_callFunc_extern Tryd.func91 (by kernel_rfl) (by kernel_rfl) (by kernel_rfl) (e := Extern.AbiNoEscape.same) (by kernel_rfl)]
 rw [Lib.run_noEscape]
 simp only [Result.andThen]
 rw [Oper.upon_value]
 go_wp2
 rw [Lib.run_from_unsafe w ⟨b, 0, none⟩ Tryd.underlying131 Tryd.underlying96 hj hsh bd_lies]
 simp only [Result.andThen]
 rw [Oper.upon_value]
 go_wp2
 go_end0
 exact ⟨rfl, rfl⟩
abbrev IsBd (B b : Nat) (l : List UInt8) (w : World) : Prop := Lib.IsBuilder 99 5 B b (Lib.byteCells l) w
theorem bd_check (B b : Nat) (bs : List Value) (w : World) (h : Lib.IsBuilder 99 5 B b bs w) :
 Calls Tryd.prog 86 #[.pointer (some ⟨b, 0, none⟩)] w fun e w' => e = .returned (.tuple #[]) ∧ Lib.BuilderAt 99 5 B b (.pointer (some ⟨b, 0, none⟩)) bs w' ∧ Below B w w' ∧ Lib.OthersKept 5 (some b) w w' := by
 rcases h with h | h
 ·
  refine (bd_fresh b w h.cell0 h.shape h.frozen0).mono ?_
  rintro e w' ⟨rfl, rfl⟩
  exact ⟨rfl, h.used _, (Below.refl B w).setCell (p := ⟨b, 0, none⟩) h.1 _, (Lib.OthersKept.refl _ _ w).setCell ⟨b, 0, none⟩ rfl _⟩
 ·
  refine (bd_used b w h.cell0).mono ?_
  rintro e w' ⟨rfl, rfl⟩
  exact ⟨rfl, h, Below.refl B _, Lib.OthersKept.refl _ _ _⟩
theorem bd_byte : ∃ i, Tryd.prog.info? 5 = some i ∧ i.zero = some (.int .u8 0) ∧ i.size = 1 ∧ i.bytes = 1 := by
 have h : (Tryd.prog.info? 5).map (fun i => (i.zero, i.size, i.bytes)) = some (some (.int .u8 0), 1, 1) := by kernel_rfl
 obtain ⟨i, hi, hz⟩ := Option.map_eq_some_iff.1 h
 simp only [Prod.mk.injEq] at hz
 exact ⟨i, hi, hz.1, hz.2.1, hz.2.2⟩
theorem bd_put {B b : Nat} {p v v' : Value} {bs' : List Value} {W : World} (hB : B ≤ b) (hb : W.heap[b]? = some (.cells #[p, v] 99 (0, 0))) (ho : W.ownsRow B 5 1 v' bs'.length bs') : Lib.BuilderAt 99 5 B b p bs' (W.setCell ⟨b, 1, none⟩ v') :=
 Lib.BuilderAt.put (T := 99) (e := 5) hB hb (bs' := bs') ho (by decide)
theorem bd_string (B b : Nat) (bs : List Value) (s : ByteArray) (w : World) (h : Lib.IsBuilder 99 5 B b bs w) (hB0 : B ≤ w.heap.size) (hl : bs.length + s.size ≤ 4096) :
 Calls Tryd.prog 83 #[.pointer (some ⟨b, 0, none⟩), .string s] w fun e w' => e = .returned (.tuple #[.int .i64 s.size, .nilIface]) ∧ Lib.IsBuilder 99 5 B b (bs ++ Lib.strCells s) w' ∧ Below B w w' ∧ Lib.OthersKept 5 (some b) w w' := by
 obtain ⟨i0, hi, hz0, hz1, hz2⟩ := bd_byte
 go_enter Tryd.func83, Tryd.ntmps83
 go_wp2_with (go_at_call 86; refine (bd_check B b bs _ h).mono ?_)
 rintro e w1 ⟨rfl, h1, hb1, hk1⟩
 obtain ⟨hB, v, hbk, hown, hne⟩ := h1
 have c0 : w1.cell? ⟨b, 0, none⟩ = some (.pointer (some ⟨b, 0, none⟩)) := by rw [Lib.cell_of_heap hbk]; rfl
 have c1 : w1.cell? ⟨b, 1, none⟩ = some v := by rw [Lib.cell_of_heap hbk]; rfl
 go_wp2_with (at_builtin; refine Lib.wpList_append_own_string _ rfl _ _ 97 9 rfl B 5 i0 Tryd.underlying97 Tryd.underlying9 hi hz0 hz1 hz2 _ _ _ rfl hown s rfl ?c4 ?c5 ?c6 ?_)
 case c4 => simp only [maxLen]; omega
 case c5 => omega
 case c6 => have := hb1.size; omega
 intro v' w2 hown' hgrow _
 have hlt : b < w1.heap.size := blk_lt hbk
 have hb2 : w2.heap[b]? = some (.cells #[.pointer (some ⟨b, 0, none⟩), v] 99 (0, 0)) := by
  rw [hgrow.block b hlt (fun e => hne e.symm)]
  exact hbk
 have d0 : w2.cell? ⟨b, 0, none⟩ = some (.pointer (some ⟨b, 0, none⟩)) := by rw [Lib.cell_of_heap hb2]; rfl
 have d1 : w2.cell? ⟨b, 1, none⟩ = some v := by rw [Lib.cell_of_heap hb2]; rfl
 have f1 : w2.frozen? ⟨b, 1, none⟩ = false := Lib.frozen_of_heap hb2 1
 obtain ⟨ao, n', cap, rfl⟩ : ∃ ao n' cap, v' = .slice ao n' cap := by
  rcases hown'.2 with ⟨hv, _⟩ | ⟨g, cap, cur, hv, _⟩
  ·
   exact ⟨_, _, _, hv⟩
  ·
   exact ⟨_, _, _, hv⟩
 go_wp2
 go_ret2
 refine ⟨rfl, .inr (bd_put hB hb2 (bs' := bs ++ Lib.strCells s) (by simpa [Lib.strCells_length] using hown')), ?_, (hk1.grown hgrow (Lib.ownsRowF_kind (World.ownsRowF_of hown))).setCell ⟨b, 1, none⟩ rfl _⟩
 exact (hb1.grown hgrow (by have := hb1.size; omega) (fun k hk => (hown.lt k hk).1)).setCell (p := ⟨b, 1, none⟩) hB _
theorem bd_write (B b : Nat) (bs : List Value) (c : Int) (w : World) (h : Lib.IsBuilder 99 5 B b bs w) (hB0 : B ≤ w.heap.size) (hl : bs.length + 1 ≤ 4096) :
 Calls Tryd.prog 84 #[.pointer (some ⟨b, 0, none⟩), .int .u8 c] w fun e w' => e = .returned .nilIface ∧ Lib.IsBuilder 99 5 B b (bs ++ [.int .u8 c]) w' ∧ Below B w w' ∧ Lib.OthersKept 5 (some b) w w' := by
 obtain ⟨i0, hi, hz0, hz1, hz2⟩ := bd_byte
 go_enter Tryd.func84, Tryd.ntmps84
 go_wp2_with (go_at_call 86; refine (bd_check B b bs _ h).mono ?_)
 rintro e w1 ⟨rfl, h1, hb1, hk1⟩
 obtain ⟨hB, v, hbk, hown, hne⟩ := h1
 have c0 : w1.cell? ⟨b, 0, none⟩ = some (.pointer (some ⟨b, 0, none⟩)) := by rw [Lib.cell_of_heap hbk]; rfl
 have c1 : w1.cell? ⟨b, 1, none⟩ = some v := by rw [Lib.cell_of_heap hbk]; rfl
 go_wp2_with (at_builtin; refine wpList_append_own _ rfl _ _ 97 rfl B 5 i0 (.int .u8 0) 1 1 Tryd.underlying97 hi hz0 hz1 hz2 rfl (by decide) _ _ _ rfl (hown.alloc _) ⟨w1.heap.size, 0, none⟩ 1 1 [.int .u8 c] rfl rfl ?c1 ?c2 ?c3 ?c4 ?c5 ?_)
 case c1 =>
  intro j u hj
  match j, hj with
  | 0, hj => simp at hj; subst hj; simp [Addr.add]
 case c2 => intro u hu; simp at hu; subst hu; rfl
 case c3 => unfold maxLen; omega
 case c4 => omega
 case c5 => have := hb1.size; simp; omega
 intro v' w2 hown' hgrow _
 have hlt : b < w1.heap.size := blk_lt hbk
 have hb2 : w2.heap[b]? = some (.cells #[.pointer (some ⟨b, 0, none⟩), v] 99 (0, 0)) := by
  rw [hgrow.block b (by simp; omega) (fun e => hne e.symm), Lib.alloc_old w1 _ b hlt]
  exact hbk
 have d0 : w2.cell? ⟨b, 0, none⟩ = some (.pointer (some ⟨b, 0, none⟩)) := by rw [Lib.cell_of_heap hb2]; rfl
 have d1 : w2.cell? ⟨b, 1, none⟩ = some v := by rw [Lib.cell_of_heap hb2]; rfl
 have f1 : w2.frozen? ⟨b, 1, none⟩ = false := Lib.frozen_of_heap hb2 1
 obtain ⟨g, cap, rfl⟩ : ∃ g cap, v' = .slice (some ⟨g, 0, none⟩) (bs.length + 1) cap := by
  rcases hown'.2 with ⟨_, h0⟩ | ⟨g, cap, cur, hv, _⟩
  ·
   omega
  ·
   exact ⟨g, cap, hv⟩
 go_wp2
 go_ret
 refine ⟨rfl, .inr (bd_put hB hb2 (bs' := bs ++ [.int .u8 c]) (by simpa using hown')), ?_, ((hk1.alloc _).grown hgrow (Lib.ownsRowF_kind (World.ownsRowF_of (hown.alloc _)))).setCell ⟨b, 1, none⟩ rfl _⟩
 exact ((hb1.alloc (by have := hb1.size; omega) _).grown hgrow (by have := hb1.size; simp; omega) (fun k hk => (hown.lt k hk).1)).setCell (p := ⟨b, 1, none⟩) hB _
theorem bd_done (B b : Nat) (l : List UInt8) (w : World) (h : Lib.IsBuilder 99 5 B b (Lib.byteCells l) w) (h0 : l ≠ []) (hlen : l.length ≤ 4096) :
 Calls Tryd.prog 68 #[.pointer (some ⟨b, 0, none⟩)] w fun e w' => e = .returned (.string ⟨l.toArray⟩) ∧ Below B w w' := by
 obtain ⟨p, hB, v, hbk, hown, hne⟩ : ∃ p, Lib.BuilderAt 99 5 B b p (Lib.byteCells l) w := by
  rcases h with h | h
  ·
   exact ⟨_, h⟩
  ·
   exact ⟨_, h⟩
 have hl0 : l.length ≠ 0 := by simpa using h0
 rw [Lib.byteCells_length] at hown
 obtain ⟨g, cap, cur, rfl, hbg, hg, hnc, hcm, hcs, htake⟩ : ∃ g cap cur, v = .slice (some ⟨g, 0, none⟩) l.length cap ∧ B ≤ g ∧ w.heap[g]? = some (.cells cur 5 (0, 0)) ∧ l.length ≤ cap ∧ cap ≤ maxLen ∧ cur.size = cap * 1 ∧ cur.toList.take (l.length * 1) = Lib.byteCells l := by
  rcases hown.2 with ⟨_, hz⟩ | ⟨g, cap, cur, hv, r⟩
  ·
   exact absurd hz hl0
  ·
   exact ⟨g, cap, cur, hv, r⟩
 have c1 : w.drew.cell? ⟨b, 1, none⟩ = some (.slice (some ⟨g, 0, none⟩) l.length cap) := by
  have : w.drew.heap[b]? = some (.cells #[p, .slice (some ⟨g, 0, none⟩) l.length cap] 99 (0, 0)) := hbk
  rw [Lib.cell_of_heap this]; rfl
 have hSD : (Builtin.unsafeSliceData_ #[97] 123 #[.slice (some ⟨g, 0, none⟩) l.length cap]).run Tryd.prog w.drew = .ok (.pointer (some ⟨g, 0, none⟩)) w.drew :=
  Lib.run_unsafeSliceData_row _ _ _ _ _ _ (by omega)
 have hUS : (Builtin.unsafeString_ #[123, 3] 9 #[.pointer (some ⟨g, 0, none⟩), .int .i64 l.length]).run Tryd.prog w.drew = .ok (.string ⟨l.toArray⟩) (w.drew.freeze ⟨g, 0, none⟩ l.length) := by
  refine Lib.run_unsafeString_row w.drew 123 3 9 5 Tryd.underlying123 (by kernel_rfl) g cur.size (by have hg' : w.drew.heap[g]? = some (.cells cur 5 (0, 0)) := hg; simp [World.shape?, hg']) l h0 (by omega) (by omega) ?_
  intro j x hx
  have := hown.cells (g := g) rfl j (.int .u8 x.toNat) (by simp [Lib.byteCells, hx])
  exact this
 go_enter Tryd.func68, Tryd.ntmps68
 go_wp2
 go_region
 all_goals (go_wp2; go_ret; exact ⟨rfl, Lib.below_freeze (Below.drew (Below.refl B w)) (p := ⟨g, 0, none⟩) hbg _⟩)
mutual
def wrT : Nat → List (S33) → Int → List UInt8 → Option (List UInt8 × Int)
 | 0, _, _, _ => none
 | k + 1, t, i, l => if 0 ≤ i then (if i < (t.length : Int) then (if l.length + (rd_T33 t i).f0.size ≤ 4000 then
  ((wrL k t (rd_T33 t i).f1 0 (wrap64 (i + 1)) (l ++ (rd_T33 t i).f0.data.toList)).bind fun x =>
   if (rd_T33 t i).f1 > 0 then (if x.1.length + 1 ≤ 4000 then some (x.1 ++ [41], x.2) else none) else some x) else none) else none) else none
def wrL : Nat → List (S33) → Int → Int → Int → List UInt8 → Option (List UInt8 × Int)
 | 0, _, _, _, _, _ => none
 | k + 1, t, a, n, i, l => if n < a then (if n < 4 then (if l.length + 1 ≤ 4000 then ((wrT k t i (l ++ [if n = 0 then 40 else 44])).bind fun x => wrL k t a (wrap64 (n + 1)) x.2 x.1) else none) else none) else some (l, i)
end
def WrC (k : Nat) : Prop := ∀ (b : Nat) (t : List (S33)) (A : Option Addr) (c : Nat) (i : Int) (l : List UInt8) (r : List UInt8 × Int) (w0 w : World), Kd.C k33 w0 A t.length t → Below w0.heap.size w0 w → IsBd w0.heap.size b l w → wrT k t i l = some r →
 Calls Tryd.prog 67 #[.pointer (some ⟨b, 0, none⟩), .slice A t.length c, .int .i64 i] w fun e w' => e = .returned (.int .i64 r.2) ∧ IsBd w0.heap.size b r.1 w' ∧ Below w0.heap.size w w' ∧ Lib.OthersKept 5 (some b) w w'
theorem bd_alloc {B b : Nat} {l : List UInt8} {w : World} (h : IsBd B b l w) (o : Obj) : IsBd B b l (w.alloc o) := by
 have one : ∀ p, Lib.BuilderAt 99 5 B b p (Lib.byteCells l) w → Lib.BuilderAt 99 5 B b p (Lib.byteCells l) (w.alloc o) := fun p h => by
  obtain ⟨hB, v, hb, ho, hne⟩ := h
  exact ⟨hB, v, (Below.heap_alloc w o b (blk_lt hb)).trans hb, ho.alloc o, hne⟩
 exact h.elim (fun h => .inl (one _ h)) (fun h => .inr (one _ h))
theorem bd_len (l : List UInt8) : (Lib.byteCells l).length = l.length := Lib.byteCells_length l
theorem bd_lt {B b : Nat} {l : List UInt8} {w : World} (h : IsBd B b l w) : b < w.heap.size := h.elim (fun h => h.lt) (fun h => h.lt)
theorem bd_one {B b : Nat} {l : List UInt8} {x : UInt8} {w : World} (h : Lib.IsBuilder 99 5 B b (Lib.byteCells l ++ [.int .u8 x.toNat]) w) : IsBd B b (l ++ [x]) w := by
 unfold IsBd
 rw [Lib.byteCells_append]
 exact h
theorem bd_str {B b : Nat} {l : List UInt8} {s : ByteArray} {w : World} (h : Lib.IsBuilder 99 5 B b (Lib.byteCells l ++ Lib.strCells s) w) : IsBd B b (l ++ s.data.toList) w := by
 unfold IsBd
 rw [Lib.byteCells_append]
 exact h
theorem wr_kept {b : Nat} {w w1 : World} {o : Obj} (h : Lib.OthersKept 5 (some b) (w.alloc o) w1) : Lib.OthersKept 5 (some b) w w1 := ((Lib.OthersKept.refl _ _ w).alloc o).trans h
theorem bd_tr {B : Nat} {w w1 w2 : World} (h : Below B w w1) (k : Below B w1 w2) : Below B w w2 :=
 ⟨k.os.trans h.os, k.tape.trans h.tape, k.output.trans h.output, Nat.le_trans h.size k.size, fun i hi => (k.block i hi).trans (h.block i hi)⟩
theorem wr_step (k : Nat) (ih : ∀ k', k' < k → WrC k') : WrC k := by
 intro b t A c i l r w0 w hC hB hI h
 cases k with
 | zero => simp [wrT] at h
 | succ k =>
  have HI0 := zM hI
  have HB0 := zM (Below.refl w0.heap.size w)
  have HBW := zM hB
  have HC := zM hC
  simp only [wrT] at h
  by_cases c1 : 0 ≤ i
  ·
   rw [if_pos c1] at h
   by_cases c2 : i < (t.length : Int)
   ·
    rw [if_pos c2] at h
    split at h
    · next c3 =>
     obtain ⟨x, hx, h⟩ := zB h
     obtain ⟨ad, rfl, hz1, hz2⟩ := at_T33 (Kd.C_below hC hB) i c1 c2
     have HX := zM hx
     have H := zM h
     have HI := zM hI
     clear hx h hC hI
     have p4 := eq_true c1
     have q4 := eq_true c2
     have W1 := fun (W : World) (h : IsBd w0.heap.size b l W) (hs : w0.heap.size ≤ W.heap.size) => bd_string w0.heap.size b (Lib.byteCells l) (rd_T33 t i).f0 W h hs (by rw [bd_len]; omega)
     clear c1 c2
     have hbn : some w.heap.size ≠ some b := by have := bd_lt HI.out; intro e_; injection e_ with e_; omega
     go_enter Tryd.func67, Tryd.ntmps67
     go_wp2_with (first | (go_at_call 83; (refine (W1 _ ?side1 ?side2).mono ?_); (case side1 => exact (by repeat (first | exact HI0.out | apply bd_alloc | apply bd_drewN | apply bd_drew))); (case side2 => have := HBW.out.size; simp; omega); rintro e w1 ⟨rfl, hI1, hB1, hk1⟩; have hcb := hk1 w.heap.size _ (heap_alloc_new w _) hbn (by intro c_ fz_ h_; cases h_); have hz1c := (zX hcb 1).trans rfl; have HCB := zM hcb; have HI1 := zM (bd_str hI1); have HB1 : Aside0 (Below w0.heap.size w w1) := ⟨bd_tr (HB0.out.alloc hB.size _) hB1⟩; have HK1 := zM (wr_kept hk1); clear hI1 hB1 hk1 hcb))
     repeat (go_quiet (first | (go_at_call 83; (refine (W1 _ ?side1 ?side2).mono ?_); (case side1 => exact (by repeat (first | exact HI0.out | apply bd_alloc | apply bd_drewN | apply bd_drew))); (case side2 => have := HBW.out.size; simp; omega); rintro e w1 ⟨rfl, hI1, hB1, hk1⟩; have hcb := hk1 w.heap.size _ (heap_alloc_new w _) hbn (by intro c_ fz_ h_; cases h_); have hz1c := (zX hcb 1).trans rfl; have HCB := zM hcb; have HI1 := zM (bd_str hI1); have HB1 : Aside0 (Below w0.heap.size w w1) := ⟨bd_tr (HB0.out.alloc hB.size _) hB1⟩; have HK1 := zM (wr_kept hk1); clear hI1 hB1 hk1 hcb)); try go_wp2_with (first | (go_at_call 83; (refine (W1 _ ?side1 ?side2).mono ?_); (case side1 => exact (by repeat (first | exact HI0.out | apply bd_alloc | apply bd_drewN | apply bd_drew))); (case side2 => have := HBW.out.size; simp; omega); rintro e w1 ⟨rfl, hI1, hB1, hk1⟩; have hcb := hk1 w.heap.size _ (heap_alloc_new w _) hbn (by intro c_ fz_ h_; cases h_); have hz1c := (zX hcb 1).trans rfl; have HCB := zM hcb; have HI1 := zM (bd_str hI1); have HB1 : Aside0 (Below w0.heap.size w w1) := ⟨bd_tr (HB0.out.alloc hB.size _) hB1⟩; have HK1 := zM (wr_kept hk1); clear hI1 hB1 hk1 hcb)))
     go_loopg [2, 21] k (fun kq v2 v21 w' => ∃ (n i2 : Int) (l2 : List UInt8), v2 = .int .i64 i2 ∧ v21 = .int .i64 n ∧ Aside0 (wrL kq t (rd_T33 t i).f1 n i2 l2 = some x) ∧ Aside0 (kq ≤ k) ∧ Aside0 (IsBd w0.heap.size b l2 w') ∧ Aside0 (Below w0.heap.size w w') ∧ Aside0 (w'.heap[w.heap.size]? = some (.cells #[.string (rd_T33 t i).f0, .int .i64 (rd_T33 t i).f1] 33 (0, 0))) ∧ Aside0 (Lib.OthersKept 5 (some b) w w') ∧ Aside0 (0 ≤ n))
     case atStart => exact ⟨0, _, _, rfl, rfl, HX, ⟨Nat.le_refl _⟩, ⟨(by repeat (first | exact HI1.out | apply bd_alloc | apply bd_drewN | apply bd_drew))⟩, ⟨(by repeat (first | exact HB1.out | apply zN | apply zD | apply zA))⟩, HCB, HK1, ⟨Int.le_refl _⟩⟩
     case round =>
      clear HX hz1c HCB HI1 HB1 HK1
      obtain ⟨n, i2, l2, rfl, rfl, HA, HK1, HI2, HB2, HCB2, HK2, Hn⟩ := hrel
      cases gk with
      | zero => exact absurd HA.out (by simp [wrL])
      | succ k1 =>
       have hA := HA.out
       clear HA
       simp only [wrL] at hA
       have hz2c := (zX HCB2.out 1).trans rfl
       by_cases d1 : n < (rd_T33 t i).f1
       ·
        rw [if_pos d1] at hA
        have d1b : decide (n < (rd_T33 t i).f1) = true := zQ d1
        clear d1
        split at hA
        · next d8 =>
         split at hA
         · next d2 =>
          obtain ⟨y, hy, hA⟩ := zB hA
          have H' := zM hA
          clear hA
          have HKK := zM (show k1 < k + 1 by have := HK1.out; omega)
          have REC := fun (W : World) (hW : Below w0.heap.size w0 W) (h : IsBd w0.heap.size b (l2 ++ [if n = 0 then 40 else 44]) W) => ih k1 HKK.out b t (some ad) c i2 _ y w0 W HC.out hW h hy
          have hn := Hn.out
          have d9 : n = 0 ∨ n = 1 ∨ n = 2 ∨ n = 3 := by omega
          clear hn Hn d8
          rcases d9 with rfl | rfl | rfl | rfl
          ·
           simp only [if_true] at REC
           have H1 := zM (show wrL k1 t (rd_T33 t i).f1 1 y.2 y.1 = some x from by have h_ := H'.out; rwa [show wrap64 (0 + 1) = 1 from by unfold wrap64; omega] at h_)
           clear H'
           have H' := H1
           clear H1
           have BY := fun (W : World) (h : IsBd w0.heap.size b l2 W) (hs : w0.heap.size ≤ W.heap.size) => bd_write w0.heap.size b (Lib.byteCells l2) 40 W h hs (by rw [bd_len]; omega)
           go_wp2_with (first | (go_at_call 84; (refine (BY _ ?side1 ?side2).mono ?_); (case side1 => exact (by repeat (first | exact HI2.out | apply bd_alloc | apply bd_drewN | apply bd_drew))); (case side2 => exact Nat.le_trans hB.size ((by repeat (first | exact HB2.out | apply zN | apply zD | apply zA)) : Below w0.heap.size w _).size); rintro e w3 ⟨rfl, hI3, hB3, hk3⟩; have hcb3 := hk3 w.heap.size _ HCB2.out hbn (by intro c_ fz_ h_; cases h_); have hz3c := (zX hcb3 1).trans rfl; have HCB3 := zM hcb3; have HI3 := zM (bd_one (x := 40) hI3); have HB3 := zM (bd_tr (by repeat (first | exact HB2.out | apply zN | apply zD | apply zA)) hB3); have HK3 := zM (Lib.OthersKept.trans HK2.out hk3); clear hI3 hB3 hk3 hcb3) | (go_at_call 67; (refine (REC _ ?side1 ?side2).mono ?_); (case side1 => exact bd_tr HBW.out (by repeat (first | exact HB3.out | apply zN | apply zD | apply zA))); (case side2 => exact (by repeat (first | exact HI3.out | apply bd_alloc | apply bd_drewN | apply bd_drew))); rintro e w4 ⟨rfl, hI4, hB4, hk4⟩; have hcb4 := hk4 w.heap.size _ HCB3.out hbn (by intro c_ fz_ h_; cases h_); have HCB4 := zM hcb4; have HI4 := zM hI4; have HB4 := zM (bd_tr (by repeat (first | exact HB3.out | apply zN | apply zD | apply zA)) hB4); have HK4 := zM (Lib.OthersKept.trans HK3.out hk4); clear hI4 hB4 hk4 hcb4))
           repeat (go_quiet (first | (go_at_call 84; (refine (BY _ ?side1 ?side2).mono ?_); (case side1 => exact (by repeat (first | exact HI2.out | apply bd_alloc | apply bd_drewN | apply bd_drew))); (case side2 => exact Nat.le_trans hB.size ((by repeat (first | exact HB2.out | apply zN | apply zD | apply zA)) : Below w0.heap.size w _).size); rintro e w3 ⟨rfl, hI3, hB3, hk3⟩; have hcb3 := hk3 w.heap.size _ HCB2.out hbn (by intro c_ fz_ h_; cases h_); have hz3c := (zX hcb3 1).trans rfl; have HCB3 := zM hcb3; have HI3 := zM (bd_one (x := 40) hI3); have HB3 := zM (bd_tr (by repeat (first | exact HB2.out | apply zN | apply zD | apply zA)) hB3); have HK3 := zM (Lib.OthersKept.trans HK2.out hk3); clear hI3 hB3 hk3 hcb3) | (go_at_call 67; (refine (REC _ ?side1 ?side2).mono ?_); (case side1 => exact bd_tr HBW.out (by repeat (first | exact HB3.out | apply zN | apply zD | apply zA))); (case side2 => exact (by repeat (first | exact HI3.out | apply bd_alloc | apply bd_drewN | apply bd_drew))); rintro e w4 ⟨rfl, hI4, hB4, hk4⟩; have hcb4 := hk4 w.heap.size _ HCB3.out hbn (by intro c_ fz_ h_; cases h_); have HCB4 := zM hcb4; have HI4 := zM hI4; have HB4 := zM (bd_tr (by repeat (first | exact HB3.out | apply zN | apply zD | apply zA)) hB4); have HK4 := zM (Lib.OthersKept.trans HK3.out hk4); clear hI4 hB4 hk4 hcb4)); try go_wp2_with (first | (go_at_call 84; (refine (BY _ ?side1 ?side2).mono ?_); (case side1 => exact (by repeat (first | exact HI2.out | apply bd_alloc | apply bd_drewN | apply bd_drew))); (case side2 => exact Nat.le_trans hB.size ((by repeat (first | exact HB2.out | apply zN | apply zD | apply zA)) : Below w0.heap.size w _).size); rintro e w3 ⟨rfl, hI3, hB3, hk3⟩; have hcb3 := hk3 w.heap.size _ HCB2.out hbn (by intro c_ fz_ h_; cases h_); have hz3c := (zX hcb3 1).trans rfl; have HCB3 := zM hcb3; have HI3 := zM (bd_one (x := 40) hI3); have HB3 := zM (bd_tr (by repeat (first | exact HB2.out | apply zN | apply zD | apply zA)) hB3); have HK3 := zM (Lib.OthersKept.trans HK2.out hk3); clear hI3 hB3 hk3 hcb3) | (go_at_call 67; (refine (REC _ ?side1 ?side2).mono ?_); (case side1 => exact bd_tr HBW.out (by repeat (first | exact HB3.out | apply zN | apply zD | apply zA))); (case side2 => exact (by repeat (first | exact HI3.out | apply bd_alloc | apply bd_drewN | apply bd_drew))); rintro e w4 ⟨rfl, hI4, hB4, hk4⟩; have hcb4 := hk4 w.heap.size _ HCB3.out hbn (by intro c_ fz_ h_; cases h_); have HCB4 := zM hcb4; have HI4 := zM hI4; have HB4 := zM (bd_tr (by repeat (first | exact HB3.out | apply zN | apply zD | apply zA)) hB4); have HK4 := zM (Lib.OthersKept.trans HK3.out hk4); clear hI4 hB4 hk4 hcb4)))
           go_roundg k1
           case measure => have := HK1.out; omega
           case rel => exact ⟨_, y.2, y.1, rfl, rfl, H', ⟨by have := HK1.out; omega⟩, ⟨(by repeat (first | exact HI4.out | apply bd_alloc | apply bd_drewN | apply bd_drew))⟩, ⟨(by repeat (first | exact HB4.out | apply zN | apply zD | apply zA))⟩, HCB4, HK4, ⟨by decide⟩⟩
          ·
           simp only [if_neg (show ¬ (1 : Int) = 0 by decide)] at REC
           have H1 := zM (show wrL k1 t (rd_T33 t i).f1 2 y.2 y.1 = some x from by have h_ := H'.out; rwa [show wrap64 (1 + 1) = 2 from by unfold wrap64; omega] at h_)
           clear H'
           have H' := H1
           clear H1
           have BY := fun (W : World) (h : IsBd w0.heap.size b l2 W) (hs : w0.heap.size ≤ W.heap.size) => bd_write w0.heap.size b (Lib.byteCells l2) 44 W h hs (by rw [bd_len]; omega)
           go_wp2_with (first | (go_at_call 84; (refine (BY _ ?side1 ?side2).mono ?_); (case side1 => exact (by repeat (first | exact HI2.out | apply bd_alloc | apply bd_drewN | apply bd_drew))); (case side2 => exact Nat.le_trans hB.size ((by repeat (first | exact HB2.out | apply zN | apply zD | apply zA)) : Below w0.heap.size w _).size); rintro e w3 ⟨rfl, hI3, hB3, hk3⟩; have hcb3 := hk3 w.heap.size _ HCB2.out hbn (by intro c_ fz_ h_; cases h_); have hz3c := (zX hcb3 1).trans rfl; have HCB3 := zM hcb3; have HI3 := zM (bd_one (x := 44) hI3); have HB3 := zM (bd_tr (by repeat (first | exact HB2.out | apply zN | apply zD | apply zA)) hB3); have HK3 := zM (Lib.OthersKept.trans HK2.out hk3); clear hI3 hB3 hk3 hcb3) | (go_at_call 67; (refine (REC _ ?side1 ?side2).mono ?_); (case side1 => exact bd_tr HBW.out (by repeat (first | exact HB3.out | apply zN | apply zD | apply zA))); (case side2 => exact (by repeat (first | exact HI3.out | apply bd_alloc | apply bd_drewN | apply bd_drew))); rintro e w4 ⟨rfl, hI4, hB4, hk4⟩; have hcb4 := hk4 w.heap.size _ HCB3.out hbn (by intro c_ fz_ h_; cases h_); have HCB4 := zM hcb4; have HI4 := zM hI4; have HB4 := zM (bd_tr (by repeat (first | exact HB3.out | apply zN | apply zD | apply zA)) hB4); have HK4 := zM (Lib.OthersKept.trans HK3.out hk4); clear hI4 hB4 hk4 hcb4))
           repeat (go_quiet (first | (go_at_call 84; (refine (BY _ ?side1 ?side2).mono ?_); (case side1 => exact (by repeat (first | exact HI2.out | apply bd_alloc | apply bd_drewN | apply bd_drew))); (case side2 => exact Nat.le_trans hB.size ((by repeat (first | exact HB2.out | apply zN | apply zD | apply zA)) : Below w0.heap.size w _).size); rintro e w3 ⟨rfl, hI3, hB3, hk3⟩; have hcb3 := hk3 w.heap.size _ HCB2.out hbn (by intro c_ fz_ h_; cases h_); have hz3c := (zX hcb3 1).trans rfl; have HCB3 := zM hcb3; have HI3 := zM (bd_one (x := 44) hI3); have HB3 := zM (bd_tr (by repeat (first | exact HB2.out | apply zN | apply zD | apply zA)) hB3); have HK3 := zM (Lib.OthersKept.trans HK2.out hk3); clear hI3 hB3 hk3 hcb3) | (go_at_call 67; (refine (REC _ ?side1 ?side2).mono ?_); (case side1 => exact bd_tr HBW.out (by repeat (first | exact HB3.out | apply zN | apply zD | apply zA))); (case side2 => exact (by repeat (first | exact HI3.out | apply bd_alloc | apply bd_drewN | apply bd_drew))); rintro e w4 ⟨rfl, hI4, hB4, hk4⟩; have hcb4 := hk4 w.heap.size _ HCB3.out hbn (by intro c_ fz_ h_; cases h_); have HCB4 := zM hcb4; have HI4 := zM hI4; have HB4 := zM (bd_tr (by repeat (first | exact HB3.out | apply zN | apply zD | apply zA)) hB4); have HK4 := zM (Lib.OthersKept.trans HK3.out hk4); clear hI4 hB4 hk4 hcb4)); try go_wp2_with (first | (go_at_call 84; (refine (BY _ ?side1 ?side2).mono ?_); (case side1 => exact (by repeat (first | exact HI2.out | apply bd_alloc | apply bd_drewN | apply bd_drew))); (case side2 => exact Nat.le_trans hB.size ((by repeat (first | exact HB2.out | apply zN | apply zD | apply zA)) : Below w0.heap.size w _).size); rintro e w3 ⟨rfl, hI3, hB3, hk3⟩; have hcb3 := hk3 w.heap.size _ HCB2.out hbn (by intro c_ fz_ h_; cases h_); have hz3c := (zX hcb3 1).trans rfl; have HCB3 := zM hcb3; have HI3 := zM (bd_one (x := 44) hI3); have HB3 := zM (bd_tr (by repeat (first | exact HB2.out | apply zN | apply zD | apply zA)) hB3); have HK3 := zM (Lib.OthersKept.trans HK2.out hk3); clear hI3 hB3 hk3 hcb3) | (go_at_call 67; (refine (REC _ ?side1 ?side2).mono ?_); (case side1 => exact bd_tr HBW.out (by repeat (first | exact HB3.out | apply zN | apply zD | apply zA))); (case side2 => exact (by repeat (first | exact HI3.out | apply bd_alloc | apply bd_drewN | apply bd_drew))); rintro e w4 ⟨rfl, hI4, hB4, hk4⟩; have hcb4 := hk4 w.heap.size _ HCB3.out hbn (by intro c_ fz_ h_; cases h_); have HCB4 := zM hcb4; have HI4 := zM hI4; have HB4 := zM (bd_tr (by repeat (first | exact HB3.out | apply zN | apply zD | apply zA)) hB4); have HK4 := zM (Lib.OthersKept.trans HK3.out hk4); clear hI4 hB4 hk4 hcb4)))
           go_roundg k1
           case measure => have := HK1.out; omega
           case rel => exact ⟨_, y.2, y.1, rfl, rfl, H', ⟨by have := HK1.out; omega⟩, ⟨(by repeat (first | exact HI4.out | apply bd_alloc | apply bd_drewN | apply bd_drew))⟩, ⟨(by repeat (first | exact HB4.out | apply zN | apply zD | apply zA))⟩, HCB4, HK4, ⟨by decide⟩⟩
          ·
           simp only [if_neg (show ¬ (2 : Int) = 0 by decide)] at REC
           have H1 := zM (show wrL k1 t (rd_T33 t i).f1 3 y.2 y.1 = some x from by have h_ := H'.out; rwa [show wrap64 (2 + 1) = 3 from by unfold wrap64; omega] at h_)
           clear H'
           have H' := H1
           clear H1
           have BY := fun (W : World) (h : IsBd w0.heap.size b l2 W) (hs : w0.heap.size ≤ W.heap.size) => bd_write w0.heap.size b (Lib.byteCells l2) 44 W h hs (by rw [bd_len]; omega)
           go_wp2_with (first | (go_at_call 84; (refine (BY _ ?side1 ?side2).mono ?_); (case side1 => exact (by repeat (first | exact HI2.out | apply bd_alloc | apply bd_drewN | apply bd_drew))); (case side2 => exact Nat.le_trans hB.size ((by repeat (first | exact HB2.out | apply zN | apply zD | apply zA)) : Below w0.heap.size w _).size); rintro e w3 ⟨rfl, hI3, hB3, hk3⟩; have hcb3 := hk3 w.heap.size _ HCB2.out hbn (by intro c_ fz_ h_; cases h_); have hz3c := (zX hcb3 1).trans rfl; have HCB3 := zM hcb3; have HI3 := zM (bd_one (x := 44) hI3); have HB3 := zM (bd_tr (by repeat (first | exact HB2.out | apply zN | apply zD | apply zA)) hB3); have HK3 := zM (Lib.OthersKept.trans HK2.out hk3); clear hI3 hB3 hk3 hcb3) | (go_at_call 67; (refine (REC _ ?side1 ?side2).mono ?_); (case side1 => exact bd_tr HBW.out (by repeat (first | exact HB3.out | apply zN | apply zD | apply zA))); (case side2 => exact (by repeat (first | exact HI3.out | apply bd_alloc | apply bd_drewN | apply bd_drew))); rintro e w4 ⟨rfl, hI4, hB4, hk4⟩; have hcb4 := hk4 w.heap.size _ HCB3.out hbn (by intro c_ fz_ h_; cases h_); have HCB4 := zM hcb4; have HI4 := zM hI4; have HB4 := zM (bd_tr (by repeat (first | exact HB3.out | apply zN | apply zD | apply zA)) hB4); have HK4 := zM (Lib.OthersKept.trans HK3.out hk4); clear hI4 hB4 hk4 hcb4))
           repeat (go_quiet (first | (go_at_call 84; (refine (BY _ ?side1 ?side2).mono ?_); (case side1 => exact (by repeat (first | exact HI2.out | apply bd_alloc | apply bd_drewN | apply bd_drew))); (case side2 => exact Nat.le_trans hB.size ((by repeat (first | exact HB2.out | apply zN | apply zD | apply zA)) : Below w0.heap.size w _).size); rintro e w3 ⟨rfl, hI3, hB3, hk3⟩; have hcb3 := hk3 w.heap.size _ HCB2.out hbn (by intro c_ fz_ h_; cases h_); have hz3c := (zX hcb3 1).trans rfl; have HCB3 := zM hcb3; have HI3 := zM (bd_one (x := 44) hI3); have HB3 := zM (bd_tr (by repeat (first | exact HB2.out | apply zN | apply zD | apply zA)) hB3); have HK3 := zM (Lib.OthersKept.trans HK2.out hk3); clear hI3 hB3 hk3 hcb3) | (go_at_call 67; (refine (REC _ ?side1 ?side2).mono ?_); (case side1 => exact bd_tr HBW.out (by repeat (first | exact HB3.out | apply zN | apply zD | apply zA))); (case side2 => exact (by repeat (first | exact HI3.out | apply bd_alloc | apply bd_drewN | apply bd_drew))); rintro e w4 ⟨rfl, hI4, hB4, hk4⟩; have hcb4 := hk4 w.heap.size _ HCB3.out hbn (by intro c_ fz_ h_; cases h_); have HCB4 := zM hcb4; have HI4 := zM hI4; have HB4 := zM (bd_tr (by repeat (first | exact HB3.out | apply zN | apply zD | apply zA)) hB4); have HK4 := zM (Lib.OthersKept.trans HK3.out hk4); clear hI4 hB4 hk4 hcb4)); try go_wp2_with (first | (go_at_call 84; (refine (BY _ ?side1 ?side2).mono ?_); (case side1 => exact (by repeat (first | exact HI2.out | apply bd_alloc | apply bd_drewN | apply bd_drew))); (case side2 => exact Nat.le_trans hB.size ((by repeat (first | exact HB2.out | apply zN | apply zD | apply zA)) : Below w0.heap.size w _).size); rintro e w3 ⟨rfl, hI3, hB3, hk3⟩; have hcb3 := hk3 w.heap.size _ HCB2.out hbn (by intro c_ fz_ h_; cases h_); have hz3c := (zX hcb3 1).trans rfl; have HCB3 := zM hcb3; have HI3 := zM (bd_one (x := 44) hI3); have HB3 := zM (bd_tr (by repeat (first | exact HB2.out | apply zN | apply zD | apply zA)) hB3); have HK3 := zM (Lib.OthersKept.trans HK2.out hk3); clear hI3 hB3 hk3 hcb3) | (go_at_call 67; (refine (REC _ ?side1 ?side2).mono ?_); (case side1 => exact bd_tr HBW.out (by repeat (first | exact HB3.out | apply zN | apply zD | apply zA))); (case side2 => exact (by repeat (first | exact HI3.out | apply bd_alloc | apply bd_drewN | apply bd_drew))); rintro e w4 ⟨rfl, hI4, hB4, hk4⟩; have hcb4 := hk4 w.heap.size _ HCB3.out hbn (by intro c_ fz_ h_; cases h_); have HCB4 := zM hcb4; have HI4 := zM hI4; have HB4 := zM (bd_tr (by repeat (first | exact HB3.out | apply zN | apply zD | apply zA)) hB4); have HK4 := zM (Lib.OthersKept.trans HK3.out hk4); clear hI4 hB4 hk4 hcb4)))
           go_roundg k1
           case measure => have := HK1.out; omega
           case rel => exact ⟨_, y.2, y.1, rfl, rfl, H', ⟨by have := HK1.out; omega⟩, ⟨(by repeat (first | exact HI4.out | apply bd_alloc | apply bd_drewN | apply bd_drew))⟩, ⟨(by repeat (first | exact HB4.out | apply zN | apply zD | apply zA))⟩, HCB4, HK4, ⟨by decide⟩⟩
          ·
           simp only [if_neg (show ¬ (3 : Int) = 0 by decide)] at REC
           have H1 := zM (show wrL k1 t (rd_T33 t i).f1 4 y.2 y.1 = some x from by have h_ := H'.out; rwa [show wrap64 (3 + 1) = 4 from by unfold wrap64; omega] at h_)
           clear H'
           have H' := H1
           clear H1
           have BY := fun (W : World) (h : IsBd w0.heap.size b l2 W) (hs : w0.heap.size ≤ W.heap.size) => bd_write w0.heap.size b (Lib.byteCells l2) 44 W h hs (by rw [bd_len]; omega)
           go_wp2_with (first | (go_at_call 84; (refine (BY _ ?side1 ?side2).mono ?_); (case side1 => exact (by repeat (first | exact HI2.out | apply bd_alloc | apply bd_drewN | apply bd_drew))); (case side2 => exact Nat.le_trans hB.size ((by repeat (first | exact HB2.out | apply zN | apply zD | apply zA)) : Below w0.heap.size w _).size); rintro e w3 ⟨rfl, hI3, hB3, hk3⟩; have hcb3 := hk3 w.heap.size _ HCB2.out hbn (by intro c_ fz_ h_; cases h_); have hz3c := (zX hcb3 1).trans rfl; have HCB3 := zM hcb3; have HI3 := zM (bd_one (x := 44) hI3); have HB3 := zM (bd_tr (by repeat (first | exact HB2.out | apply zN | apply zD | apply zA)) hB3); have HK3 := zM (Lib.OthersKept.trans HK2.out hk3); clear hI3 hB3 hk3 hcb3) | (go_at_call 67; (refine (REC _ ?side1 ?side2).mono ?_); (case side1 => exact bd_tr HBW.out (by repeat (first | exact HB3.out | apply zN | apply zD | apply zA))); (case side2 => exact (by repeat (first | exact HI3.out | apply bd_alloc | apply bd_drewN | apply bd_drew))); rintro e w4 ⟨rfl, hI4, hB4, hk4⟩; have hcb4 := hk4 w.heap.size _ HCB3.out hbn (by intro c_ fz_ h_; cases h_); have HCB4 := zM hcb4; have HI4 := zM hI4; have HB4 := zM (bd_tr (by repeat (first | exact HB3.out | apply zN | apply zD | apply zA)) hB4); have HK4 := zM (Lib.OthersKept.trans HK3.out hk4); clear hI4 hB4 hk4 hcb4))
           repeat (go_quiet (first | (go_at_call 84; (refine (BY _ ?side1 ?side2).mono ?_); (case side1 => exact (by repeat (first | exact HI2.out | apply bd_alloc | apply bd_drewN | apply bd_drew))); (case side2 => exact Nat.le_trans hB.size ((by repeat (first | exact HB2.out | apply zN | apply zD | apply zA)) : Below w0.heap.size w _).size); rintro e w3 ⟨rfl, hI3, hB3, hk3⟩; have hcb3 := hk3 w.heap.size _ HCB2.out hbn (by intro c_ fz_ h_; cases h_); have hz3c := (zX hcb3 1).trans rfl; have HCB3 := zM hcb3; have HI3 := zM (bd_one (x := 44) hI3); have HB3 := zM (bd_tr (by repeat (first | exact HB2.out | apply zN | apply zD | apply zA)) hB3); have HK3 := zM (Lib.OthersKept.trans HK2.out hk3); clear hI3 hB3 hk3 hcb3) | (go_at_call 67; (refine (REC _ ?side1 ?side2).mono ?_); (case side1 => exact bd_tr HBW.out (by repeat (first | exact HB3.out | apply zN | apply zD | apply zA))); (case side2 => exact (by repeat (first | exact HI3.out | apply bd_alloc | apply bd_drewN | apply bd_drew))); rintro e w4 ⟨rfl, hI4, hB4, hk4⟩; have hcb4 := hk4 w.heap.size _ HCB3.out hbn (by intro c_ fz_ h_; cases h_); have HCB4 := zM hcb4; have HI4 := zM hI4; have HB4 := zM (bd_tr (by repeat (first | exact HB3.out | apply zN | apply zD | apply zA)) hB4); have HK4 := zM (Lib.OthersKept.trans HK3.out hk4); clear hI4 hB4 hk4 hcb4)); try go_wp2_with (first | (go_at_call 84; (refine (BY _ ?side1 ?side2).mono ?_); (case side1 => exact (by repeat (first | exact HI2.out | apply bd_alloc | apply bd_drewN | apply bd_drew))); (case side2 => exact Nat.le_trans hB.size ((by repeat (first | exact HB2.out | apply zN | apply zD | apply zA)) : Below w0.heap.size w _).size); rintro e w3 ⟨rfl, hI3, hB3, hk3⟩; have hcb3 := hk3 w.heap.size _ HCB2.out hbn (by intro c_ fz_ h_; cases h_); have hz3c := (zX hcb3 1).trans rfl; have HCB3 := zM hcb3; have HI3 := zM (bd_one (x := 44) hI3); have HB3 := zM (bd_tr (by repeat (first | exact HB2.out | apply zN | apply zD | apply zA)) hB3); have HK3 := zM (Lib.OthersKept.trans HK2.out hk3); clear hI3 hB3 hk3 hcb3) | (go_at_call 67; (refine (REC _ ?side1 ?side2).mono ?_); (case side1 => exact bd_tr HBW.out (by repeat (first | exact HB3.out | apply zN | apply zD | apply zA))); (case side2 => exact (by repeat (first | exact HI3.out | apply bd_alloc | apply bd_drewN | apply bd_drew))); rintro e w4 ⟨rfl, hI4, hB4, hk4⟩; have hcb4 := hk4 w.heap.size _ HCB3.out hbn (by intro c_ fz_ h_; cases h_); have HCB4 := zM hcb4; have HI4 := zM hI4; have HB4 := zM (bd_tr (by repeat (first | exact HB3.out | apply zN | apply zD | apply zA)) hB4); have HK4 := zM (Lib.OthersKept.trans HK3.out hk4); clear hI4 hB4 hk4 hcb4)))
           go_roundg k1
           case measure => have := HK1.out; omega
           case rel => exact ⟨_, y.2, y.1, rfl, rfl, H', ⟨by have := HK1.out; omega⟩, ⟨(by repeat (first | exact HI4.out | apply bd_alloc | apply bd_drewN | apply bd_drew))⟩, ⟨(by repeat (first | exact HB4.out | apply zN | apply zD | apply zA))⟩, HCB4, HK4, ⟨by decide⟩⟩
         ·
          cases hA
        ·
         cases hA
       ·
        rw [if_neg d1] at hA
        have d1b : decide (n < (rd_T33 t i).f1) = false := zR d1
        injection hA with hA
        subst hA
        have h := H.out
        simp only at h
        by_cases d6 : (rd_T33 t i).f1 > 0
        ·
         rw [if_pos d6] at h
         have d6b : decide ((rd_T33 t i).f1 > 0) = true := zQ d6
         clear d6 d1 H
         split at h
         · next d7 =>
          obtain rfl := zS h
          clear h
          have BY := fun (W : World) (h : IsBd w0.heap.size b l2 W) (hs : w0.heap.size ≤ W.heap.size) => bd_write w0.heap.size b (Lib.byteCells l2) 41 W h hs (by rw [bd_len]; omega)
          go_wp2_with (first | (go_at_call 84; (refine (BY _ ?side1 ?side2).mono ?_); (case side1 => exact (by repeat (first | exact HI2.out | apply bd_alloc | apply bd_drewN | apply bd_drew))); (case side2 => exact Nat.le_trans hB.size ((by repeat (first | exact HB2.out | apply zN | apply zD | apply zA)) : Below w0.heap.size w _).size); rintro e w3 ⟨rfl, hI3, hB3, hk3⟩; have hcb3 := hk3 w.heap.size _ HCB2.out hbn (by intro c_ fz_ h_; cases h_); have hz3c := (zX hcb3 1).trans rfl; have HCB3 := zM hcb3; have HI3 := zM (bd_one (x := 41) hI3); have HB3 := zM (bd_tr (by repeat (first | exact HB2.out | apply zN | apply zD | apply zA)) hB3); have HK3 := zM (Lib.OthersKept.trans HK2.out hk3); clear hI3 hB3 hk3 hcb3))
          repeat (go_quiet (first | (go_at_call 84; (refine (BY _ ?side1 ?side2).mono ?_); (case side1 => exact (by repeat (first | exact HI2.out | apply bd_alloc | apply bd_drewN | apply bd_drew))); (case side2 => exact Nat.le_trans hB.size ((by repeat (first | exact HB2.out | apply zN | apply zD | apply zA)) : Below w0.heap.size w _).size); rintro e w3 ⟨rfl, hI3, hB3, hk3⟩; have hcb3 := hk3 w.heap.size _ HCB2.out hbn (by intro c_ fz_ h_; cases h_); have hz3c := (zX hcb3 1).trans rfl; have HCB3 := zM hcb3; have HI3 := zM (bd_one (x := 41) hI3); have HB3 := zM (bd_tr (by repeat (first | exact HB2.out | apply zN | apply zD | apply zA)) hB3); have HK3 := zM (Lib.OthersKept.trans HK2.out hk3); clear hI3 hB3 hk3 hcb3)); try go_wp2_with (first | (go_at_call 84; (refine (BY _ ?side1 ?side2).mono ?_); (case side1 => exact (by repeat (first | exact HI2.out | apply bd_alloc | apply bd_drewN | apply bd_drew))); (case side2 => exact Nat.le_trans hB.size ((by repeat (first | exact HB2.out | apply zN | apply zD | apply zA)) : Below w0.heap.size w _).size); rintro e w3 ⟨rfl, hI3, hB3, hk3⟩; have hcb3 := hk3 w.heap.size _ HCB2.out hbn (by intro c_ fz_ h_; cases h_); have hz3c := (zX hcb3 1).trans rfl; have HCB3 := zM hcb3; have HI3 := zM (bd_one (x := 41) hI3); have HB3 := zM (bd_tr (by repeat (first | exact HB2.out | apply zN | apply zD | apply zA)) hB3); have HK3 := zM (Lib.OthersKept.trans HK2.out hk3); clear hI3 hB3 hk3 hcb3)))
          go_ret
          exact ⟨rfl, (by repeat (first | exact HI3.out | apply bd_alloc | apply bd_drewN | apply bd_drew)), (by repeat (first | exact HB3.out | apply zN | apply zD | apply zA)), HK3.out⟩
         ·
          cases h
        ·
         rw [if_neg d6] at h
         have d6b : decide ((rd_T33 t i).f1 > 0) = false := zR d6
         clear d6 d1 H
         obtain rfl := zS h
         clear h
         go_wp2_with (first | fail)
         repeat (go_quiet (first | fail); try go_wp2_with (first | fail))
         go_ret
         exact ⟨rfl, (by repeat (first | exact HI2.out | apply bd_alloc | apply bd_drewN | apply bd_drew)), (by repeat (first | exact HB2.out | apply zN | apply zD | apply zA)), HK2.out⟩
    ·
     cases h
   ·
    rw [if_neg c2] at h; cases h
  ·
   rw [if_neg c1] at h; cases h
theorem wr_all : ∀ k, WrC k := by
 intro k
 induction k using Nat.strongRecOn with
 | _ k ih => exact wr_step k ih
def printF (k : Nat) (t : List (S33)) : Option (ByteArray × Int) :=
 (term_Check.f k t).bind fun e => if e = 0 then ((wrT k t 0 []).bind fun x => if x.1 = [] then none else if x.1.length ≤ 4096 then some (⟨x.1.toArray⟩, 0) else none) else some (⟨#[]⟩, e)
theorem bd_new {w0 W : World} {b : Nat} (h : w0.heap.size ≤ W.heap.size) (hb : b = W.heap.size) : IsBd w0.heap.size b [] (W.alloc (.cells #[.pointer none, .slice none 0 0] 99)) := by
 subst hb
 exact .inl ⟨h, .slice none 0 0, heap_alloc_new W _, ⟨rfl, .inl ⟨rfl, rfl⟩⟩, by simp [Value.ownBlock]⟩
theorem print_calls (k : Nat) (A0 : Option Addr) (c0 : Nat) (l0 : List (S33)) (r1 : ByteArray) (r2 : Int) (w : World) (hr0 : Kd.C k33 w A0 l0.length l0) (hc0 : l0.length ≤ c0) (h : printF k l0 = some (r1, r2)) :
 Calls Tryd.prog 43 #[.slice A0 l0.length c0] w fun e w' => e = .returned (.tuple #[.string r1, .int .i64 r2]) ∧ Below w.heap.size w w' := by
 unfold printF at h
 obtain ⟨e0, he, h⟩ := zB h
 have C1 := fun (W : World) (hq : Kd.C k33 W A0 l0.length l0) => term_Check.calls k A0 c0 l0 e0 W hq hc0 he
 have HR := zM hr0
 clear he hr0
 by_cases c1 : e0 = 0
 ·
  rw [if_pos c1] at h
  have c1b : (e0 == 0) = true := zG c1
  have c1c : (e0 != 0) = false := zH c1
  clear c1
  obtain ⟨x, hx, h⟩ := zB h
  by_cases c2 : x.1 = []
  ·
   rw [if_pos c2] at h; cases h
  ·
   rw [if_neg c2] at h
   split at h
   · next c3 =>
    injection h with h
    injection h with h1 h2
    subst h1 h2
    have W1 := fun (b : Nat) (W : World) (hb : Below w.heap.size w W) (hq : IsBd w.heap.size b [] W) => (wr_all k) b l0 A0 c0 0 [] x w W HR.out hb hq hx
    have D1 := fun (b : Nat) (W : World) (hq : IsBd w.heap.size b x.1 W) => bd_done w.heap.size b x.1 W hq c2 c3
    clear hx c2 c3
    go_enter Tryd.func43, Tryd.ntmps43
    go_wp2_with (first | (go_at_call 30; (refine (C1 _ ?side1).mono ?_); (case side1 => repeat (first | exact HR.out | apply Kd.C_drewN | apply Kd.C_drew)); rintro e w1 ⟨rfl, hB1⟩; have HB1 := zM hB1; clear hB1) | (go_at_call 67; (refine (W1 _ _ ?side1 ?side2).mono ?_); (case side1 => exact HB1.out.alloc HB1.out.size _); (case side2 => exact bd_new HB1.out.size rfl); rintro e w2 ⟨rfl, hI2, hB2, hk2⟩; have HI2 := zM hI2; have HB2 : Aside0 (Below w.heap.size w w2) := ⟨bd_tr (HB1.out.alloc HB1.out.size _) hB2⟩; clear hI2 hB2 hk2) | (go_at_call 68; (refine (D1 _ _ ?side1).mono ?_); (case side1 => exact HI2.out); rintro e w3 ⟨rfl, hB3⟩; have HB3 : Aside0 (Below w.heap.size w w3) := ⟨bd_tr HB2.out hB3⟩; clear hB3))
    go_ret2
    exact ⟨rfl, HB3.out⟩
   ·
    cases h
 ·
  rw [if_neg c1] at h
  have c1b : (e0 == 0) = false := zE c1
  have c1c : (e0 != 0) = true := zF c1
  clear c1
  injection h with h
  injection h with h1 h2
  subst h1 h2
  go_enter Tryd.func43, Tryd.ntmps43
  go_wp2_with (first | (go_at_call 30; (refine (C1 _ ?side1).mono ?_); (case side1 => repeat (first | exact HR.out | apply Kd.C_drewN | apply Kd.C_drew)); rintro e w1 ⟨rfl, hB1⟩; have HB1 := zM hB1; clear hB1))
  go_ret2
  exact ⟨rfl, HB1.out⟩
theorem wr_mono : ∀ k, (∀ t i l, LeO (wrT k t i l) (wrT (k + 1) t i l)) ∧ (∀ t a n i l, LeO (wrL k t a n i l) (wrL (k + 1) t a n i l))
 | 0 => ⟨fun _ _ _ r h => by simp [wrT] at h, fun _ _ _ _ _ r h => by simp [wrL] at h⟩
 | k + 1 => by
  obtain ⟨ih0, ih1⟩ := wr_mono k
  refine ⟨fun t i l => ?_, fun t a n i l => ?_⟩
  ·
   unfold wrT
   exact LeO.ite (LeO.ite (LeO.ite (LeO.bind (ih1 _ _ _ _ _) fun _ => LeO.refl _) (LeO.none _)) (LeO.none _)) (LeO.none _)
  ·
   unfold wrL
   exact LeO.ite (LeO.ite (LeO.ite (LeO.bind (ih0 _ _ _) fun _ => ih1 _ _ _ _ _) (LeO.none _)) (LeO.none _)) (LeO.refl _)
def term_Print.f (k : Nat) (l0 : List (S33)) : Option (ByteArray × Int) := printF k l0
theorem term_Print.mono : ∀ a0 k, LeO (term_Print.f k a0) (term_Print.f (k + 1) a0) := by
 intro a0 k
 unfold term_Print.f printF
 exact LeO.bind (term_Check.mono _ _) fun e => LeO.ite (LeO.bind ((wr_mono k).1 _ _ _) fun _ => LeO.refl _) (LeO.refl _)
theorem term_Print.calls (k : Nat) (A0 : Option Addr) (c0 : Nat) (l0 : List (S33)) (r1 : ByteArray) (r2 : Int) (w : World) (hr0 : Kd.C k33 w A0 l0.length l0) (hc0 : l0.length ≤ c0) (h : term_Print.f k l0 = some (r1, r2)) :
 Calls Tryd.prog 43 #[.slice A0 l0.length c0] w fun e w' => e = .returned (.tuple #[.string r1, .int .i64 r2]) ∧ Below w.heap.size w w' := print_calls k A0 c0 l0 r1 r2 w hr0 hc0 h



-- ==== PF18

def rule_Print.f (k : Nat) (a0_0 : Int) (l0_1 : List (S33)) (l0_2 : List (S33)) : Option (ByteArray × Int) := (rule_Check.f k a0_0 l0_1 l0_2).bind fun t102 => (if t102 = 0 then ((term_Print.f k l0_1).bind fun bt103 => ((term_Print.f k l0_2).bind fun bt105 => (if bt103.1.size + 4 ≤ 9223372036854775807 then (if (bt103.1 ++ (⟨#[32, 45, 62, 32]⟩ : ByteArray)).size + bt105.1.size ≤ 9223372036854775807 then (some ((bt103.1 ++ (⟨#[32, 45, 62, 32]⟩ : ByteArray)) ++ bt105.1, 0)) else (none)) else (none)))) else (some ((⟨#[]⟩ : ByteArray), t102)))
theorem rule_Print.mono : ∀ a0 a1 a2 k, LeO (rule_Print.f k a0 a1 a2) (rule_Print.f (k + 1) a0 a1 a2) := by
 intro a0 a1 a2 k
 unfold rule_Print.f
 repeat' first
  | (with_reducible exact rule_Check.mono _ _ _ _)
  | (with_reducible exact term_Print.mono _ _)
  | (with_reducible exact LeO.refl _)
  | (with_reducible exact LeO.none _)
  | (with_reducible refine LeO.ite ?_ ?_)
  | (with_reducible refine LeO.bind ?_ (fun _ => ?_))
theorem rule_Print.calls (k : Nat) (a0_0 : Int) (A0_1 : Option Addr) (c0_1 : Nat) (l0_1 : List (S33)) (A0_2 : Option Addr) (c0_2 : Nat) (l0_2 : List (S33)) (r1 : ByteArray) (r2 : Int) (w : World) (hr0_1 : Kd.C k33 w A0_1 l0_1.length l0_1) (hc0_1 : l0_1.length ≤ c0_1) (hr0_2 : Kd.C k33 w A0_2 l0_2.length l0_2) (hc0_2 : l0_2.length ≤ c0_2) (h : rule_Print.f k a0_0 l0_1 l0_2 = some (r1, r2)) :
 Calls Tryd.prog 18 #[.agg #[.int .i64 a0_0, .slice A0_1 l0_1.length c0_1, .slice A0_2 l0_2.length c0_2]] w fun e w' => e = .returned (.tuple #[.string r1, .int .i64 r2]) ∧ Below w.heap.size w w' := by
 have hu25 := Tryd.underlying25
 have HR0_1 := zM hr0_1
 have HC0_1 := zM hc0_1
 clear hr0_1 hc0_1
 have HR0_2 := zM hr0_2
 have HC0_2 := zM hc0_2
 clear hr0_2 hc0_2
 have HB := zM (Below.refl w.heap.size w)
 have H : ((rule_Check.f k a0_0 l0_1 l0_2).bind fun t102 => (if t102 = 0 then ((term_Print.f k l0_1).bind fun bt103 => ((term_Print.f k l0_2).bind fun bt105 => (if bt103.1.size + 4 ≤ 9223372036854775807 then (if (bt103.1 ++ (⟨#[32, 45, 62, 32]⟩ : ByteArray)).size + bt105.1.size ≤ 9223372036854775807 then (some ((bt103.1 ++ (⟨#[32, 45, 62, 32]⟩ : ByteArray)) ++ bt105.1, 0)) else (none)) else (none)))) else (some ((⟨#[]⟩ : ByteArray), t102)))) = some (r1, r2) := h
 clear h
 replace H := zB H
 obtain ⟨t102, A20, H⟩ := H
 try dsimp only at H
 have A2 := zM A20
 clear A20
 by_cases c3 : t102 = 0
 ·
  rw [if_pos c3] at H
  have c3b0 : (t102 == 0) = true := zG c3
  have c3b1 : (t102 != 0) = false := zH c3
  clear c3
  replace H := zB H
  obtain ⟨⟨t103, t104⟩, A40, H⟩ := H
  try dsimp only at H
  have A4 := zM A40
  clear A40
  replace H := zB H
  obtain ⟨⟨t105, t106⟩, A50, H⟩ := H
  try dsimp only at H
  have A5 := zM A50
  clear A50
  by_cases c6 : t103.size + 4 ≤ 9223372036854775807
  ·
   rw [if_pos c6] at H
   have c6b0 := eq_true c6
   have c6b1 : decide (t103.size + 4 ≤ 9223372036854775807) = true := zQ c6
   try have c6b2 : (9223372036854775807 < t103.size + 4) = False := eq_false (Nat.not_lt.2 c6)
   by_cases c7 : (t103 ++ (⟨#[32, 45, 62, 32]⟩ : ByteArray)).size + t105.size ≤ 9223372036854775807
   ·
    rw [if_pos c7] at H
    have c7b0 := eq_true c7
    have c7b1 : decide ((t103 ++ (⟨#[32, 45, 62, 32]⟩ : ByteArray)).size + t105.size ≤ 9223372036854775807) = true := zQ c7
    try have c7b2 : (9223372036854775807 < (t103 ++ (⟨#[32, 45, 62, 32]⟩ : ByteArray)).size + t105.size) = False := eq_false (Nat.not_lt.2 c7)
    try have c7b3 : (9223372036854775807 < t103.size + 4 + t105.size) = False := eq_false (Nat.not_lt.2 (by have h_ := c7; rw [ByteArray.size_append] at h_; exact h_))
    simp only [Option.some.injEq, Prod.mk.injEq] at H
    obtain ⟨rfl, rfl⟩ := H
    go_enter Tryd.func18, Tryd.ntmps18
    go_wp2_with (first | ((with_reducible refine gate_dst (N := 1) rfl ?_); refine box_event ?hg (N := 1) ?hd (cs := #[.int .i64 a0_0, .slice A0_1 l0_1.length c0_1, .slice A0_2 l0_2.length c0_2]) (t := 25) ?hr ?_; (case hd => rfl); (case hg => rfl); (case hr => first | (go_simp; done) | (go_simp; rfl)); intro gb101 hg w8 hbox hb; have BK101 := zM (hbox); have GW101 := zM (zh hg : w.heap.size ≤ gb101); have GE101 := zM (zh hg : w.heap.size ≤ gb101); replace HB := zM (below_step zb hb); clear hb hbox hg; have hcz9_0 : w8.cell? ⟨gb101, 0, none⟩ = some (.int .i64 a0_0) := (zX BK101.out 0).trans rfl; have hcz9_1 : w8.cell? ⟨gb101, 1, none⟩ = some (.slice A0_1 l0_1.length c0_1) := (zX BK101.out 1).trans rfl; have hcz9_2 : w8.cell? ⟨gb101, 2, none⟩ = some (.slice A0_2 l0_2.length c0_2) := (zX BK101.out 2).trans rfl; have hfz9_0 := zY BK101.out 0; have hfz9_1 := zY BK101.out 1; have hfz9_2 := zY BK101.out 2) | ((with_reducible refine gate_callee (f := 11) rfl ?_); refine goesL_ (some 10) rfl rfl Tryd.func11 (by kernel_rfl) rfl #[.agg #[.int .i64 a0_0, .slice A0_1 l0_1.length c0_1, .slice A0_2 l0_2.length c0_2]] rfl zl ?_; (with_reducible refine (rule_Check.calls k a0_0 _ _ l0_1 _ _ l0_2 t102 _ ?side1 ?side2 ?side3 ?side4 A2.out).mono ?_); (case side1 => exact Kd.C_below HR0_1.out zb); (case side2 => exact HC0_1.out); (case side3 => exact Kd.C_below HR0_2.out zb); (case side4 => exact HC0_2.out); rintro e w10 ⟨rfl, hb⟩; refine ⟨_, rfl, ?_⟩; replace BK101 := zM (blk_below (zk BK101.out) hb); replace HB := zM (below_step zb hb); (try clear hb); have hcz11_0 : w10.cell? ⟨gb101, 0, none⟩ = some (.int .i64 a0_0) := (zX BK101.out 0).trans rfl; have hcz11_1 : w10.cell? ⟨gb101, 1, none⟩ = some (.slice A0_1 l0_1.length c0_1) := (zX BK101.out 1).trans rfl; have hcz11_2 : w10.cell? ⟨gb101, 2, none⟩ = some (.slice A0_2 l0_2.length c0_2) := (zX BK101.out 2).trans rfl; have hfz11_0 := zY BK101.out 0; have hfz11_1 := zY BK101.out 1; have hfz11_2 := zY BK101.out 2) | ((with_reducible refine gate_callee (f := 43) rfl ?_); refine goesL_ (some 17) rfl rfl Tryd.func43 (by kernel_rfl) rfl #[.slice A0_1 l0_1.length c0_1] rfl zl ?_; (with_reducible refine (term_Print.calls k _ _ l0_1 t103 t104 _ ?side1 ?side2 A4.out).mono ?_); (case side1 => exact Kd.C_below HR0_1.out zb); (case side2 => exact HC0_1.out); rintro e w12 ⟨rfl, hb⟩; refine ⟨_, rfl, ?_⟩; replace BK101 := zM (blk_below (zk BK101.out) hb); replace HB := zM (below_step zb hb); (try clear hb); have hcz13_0 : w12.cell? ⟨gb101, 0, none⟩ = some (.int .i64 a0_0) := (zX BK101.out 0).trans rfl; have hcz13_1 : w12.cell? ⟨gb101, 1, none⟩ = some (.slice A0_1 l0_1.length c0_1) := (zX BK101.out 1).trans rfl; have hcz13_2 : w12.cell? ⟨gb101, 2, none⟩ = some (.slice A0_2 l0_2.length c0_2) := (zX BK101.out 2).trans rfl; have hfz13_0 := zY BK101.out 0; have hfz13_1 := zY BK101.out 1; have hfz13_2 := zY BK101.out 2) | ((with_reducible refine gate_callee (f := 43) rfl ?_); refine goesL_ (some 23) rfl rfl Tryd.func43 (by kernel_rfl) rfl #[.slice A0_2 l0_2.length c0_2] rfl zl ?_; (with_reducible refine (term_Print.calls k _ _ l0_2 t105 t106 _ ?side1 ?side2 A5.out).mono ?_); (case side1 => exact Kd.C_below HR0_2.out zb); (case side2 => exact HC0_2.out); rintro e w14 ⟨rfl, hb⟩; refine ⟨_, rfl, ?_⟩; replace BK101 := zM (blk_below (zk BK101.out) hb); replace HB := zM (below_step zb hb); (try clear hb)))
    go_ret2
    exact ⟨zw, zb⟩
   ·
    rw [if_neg c7] at H
    exact absurd H (by simp)
  ·
   rw [if_neg c6] at H
   exact absurd H (by simp)
 ·
  rw [if_neg c3] at H
  have c3b0 : (t102 == 0) = false := zE c3
  have c3b1 : (t102 != 0) = true := zF c3
  simp only [Option.some.injEq, Prod.mk.injEq] at H
  obtain ⟨rfl, rfl⟩ := H
  go_enter Tryd.func18, Tryd.ntmps18
  go_wp2_with (first | ((with_reducible refine gate_dst (N := 1) rfl ?_); refine box_event ?hg (N := 1) ?hd (cs := #[.int .i64 a0_0, .slice A0_1 l0_1.length c0_1, .slice A0_2 l0_2.length c0_2]) (t := 25) ?hr ?_; (case hd => rfl); (case hg => rfl); (case hr => first | (go_simp; done) | (go_simp; rfl)); intro gb101 hg w15 hbox hb; have BK101 := zM (hbox); have GW101 := zM (zh hg : w.heap.size ≤ gb101); have GE101 := zM (zh hg : w.heap.size ≤ gb101); replace HB := zM (below_step zb hb); clear hb hbox hg; have hcz16_0 : w15.cell? ⟨gb101, 0, none⟩ = some (.int .i64 a0_0) := (zX BK101.out 0).trans rfl; have hcz16_1 : w15.cell? ⟨gb101, 1, none⟩ = some (.slice A0_1 l0_1.length c0_1) := (zX BK101.out 1).trans rfl; have hcz16_2 : w15.cell? ⟨gb101, 2, none⟩ = some (.slice A0_2 l0_2.length c0_2) := (zX BK101.out 2).trans rfl; have hfz16_0 := zY BK101.out 0; have hfz16_1 := zY BK101.out 1; have hfz16_2 := zY BK101.out 2) | ((with_reducible refine gate_callee (f := 11) rfl ?_); refine goesL_ (some 10) rfl rfl Tryd.func11 (by kernel_rfl) rfl #[.agg #[.int .i64 a0_0, .slice A0_1 l0_1.length c0_1, .slice A0_2 l0_2.length c0_2]] rfl zl ?_; (with_reducible refine (rule_Check.calls k a0_0 _ _ l0_1 _ _ l0_2 t102 _ ?side1 ?side2 ?side3 ?side4 A2.out).mono ?_); (case side1 => exact Kd.C_below HR0_1.out zb); (case side2 => exact HC0_1.out); (case side3 => exact Kd.C_below HR0_2.out zb); (case side4 => exact HC0_2.out); rintro e w17 ⟨rfl, hb⟩; refine ⟨_, rfl, ?_⟩; replace BK101 := zM (blk_below (zk BK101.out) hb); replace HB := zM (below_step zb hb); (try clear hb)))
  go_ret2
  exact ⟨zw, zb⟩


-- ==== PF19

def itB (j : Int) : ByteArray := ⟨#[UInt8.ofNat (48 + j.toNat)]⟩
theorem ito_calls (j : Int) (h0 : 0 ≤ j) (h1 : j < 8) (w : World) : Calls Tryd.prog 48 #[.int .i64 j] w fun e w' => e = .returned (.string (itB j)) ∧ w' = w := by
 have h : j = 0 ∨ j = 1 ∨ j = 2 ∨ j = 3 ∨ j = 4 ∨ j = 5 ∨ j = 6 ∨ j = 7 := by omega
 clear h0 h1
 rcases h with rfl | rfl | rfl | rfl | rfl | rfl | rfl | rfl
 all_goals
  go_enter Tryd.func48, Tryd.ntmps48
  go_wp2
  go_ret
  exact ⟨rfl, rfl⟩
def plL (k : Nat) (vars : List ByteArray) : List CkC → Option (List CkC)
 | [] => some []
 | c :: u => (slices_Index_string_string.f k vars c.f0).bind fun j => if j ≥ 0 then (if j < 8 then (plL k vars u).bind fun q => some (⟨(⟨#[88]⟩ : ByteArray) ++ itB j, c.f1⟩ :: q) else none) else (plL k vars u).bind fun q => some (c :: q)
def plF (k : Nat) (vars : List ByteArray) (t : List CkC) : Option (List CkC) := if t.length < 5864062014805 then plL k vars t else none
theorem pl1_calls {w : World} {p cv k c0 : Nat} {Av A0 : Option Addr} {vars : List ByteArray} {t fin : List CkC} (hv : IsVl w p Av cv vars) (hr : Kd.C k33 w A0 t.length t) (hc : t.length ≤ c0) (h : plF k vars t = some fin) :
 Calls Tryd.prog 45 #[.slice A0 t.length c0, .pointer (some ⟨p, 0, none⟩)] w fun e w' => ∃ v : Value, e = .returned v ∧ Kd.R k33 33 w' w.heap.size (fun _ => True) v fin ∧ Below w.heap.size w w' := by
 unfold plF at h
 by_cases hlen : t.length < 5864062014805
 case neg => rw [if_neg hlen] at h; cases h
 rw [if_pos hlen] at h
 have hcl : api_Cell_46.f t = some t := by
  unfold api_Cell_46.f
  rw [if_pos (by simpa using hlen)]
  rfl
 have C1 := api_Cell_46.calls A0 c0 t t w hr hc hcl
 have HV := zM hv
 have HP := zM h
 have HM := zM (show (t.length : Int) ≤ 9223372036854775807 by omega)
 clear hr hc h hcl hv hlen
 go_enter Tryd.func45, Tryd.ntmps45
 go_wp2_with (first | (go_at_call 46; (with_reducible refine C1.mono ?_); rintro e w1 ⟨v1, rfl, hR, hb⟩; obtain ⟨Ao, co, rfl⟩ := Kd.R_slice hR; have HO := zM hR; have HB := zM hb; clear hR hb))
 go_loopg [12] t.length (fun kq v12 w' => ∃ (x : Int) (cur done rest : List CkC), v12 = .int .i64 x ∧ Aside0 (0 ≤ x ∧ x + kq = (t.length : Int)) ∧ Aside0 (cur = done ++ t.drop x.toNat ∧ done.length = x.toNat) ∧ Aside0 (plL k vars (t.drop x.toNat) = some rest ∧ done ++ rest = fin) ∧ Aside0 (Kd.R k33 33 w' w.heap.size (fun _ => True) (.slice Ao t.length co) cur) ∧ Aside0 (Below w.heap.size w w'))
 case atStart => exact ⟨0, t, [], fin, rfl, ⟨by omega⟩, ⟨⟨rfl, rfl⟩⟩, ⟨⟨HP.out, rfl⟩⟩, HO, HB⟩
 case round =>
  clear HO HB HP
  obtain ⟨x, cur, done, rest, rfl, HI, HC, HP, HO, HB⟩ := hrel
  cases gk with
  | succ k1 =>
   have hi : 0 ≤ x ∧ x < (t.length : Int) := by have := HI.out; omega
   have hcur := (Kd.R_reads' HO.out).1
   obtain ⟨g, cap, eg, hge, hgl, _⟩ := Kd.R_form HO.out (by omega)
   injection eg with ea el ec
   clear el
   subst ea ec
   obtain ⟨ce, hcl, hMM, hcc, hfr⟩ := Kd.R_elem HO.out z33 x hi.1 hi.2
   obtain rfl := k33_openM hMM
   obtain ⟨c, hc⟩ : ∃ c, c = cur.getD x.toNat z33 := ⟨_, rfl⟩
   have hx0 : wr.cell? ⟨g, x.toNat * 2, none⟩ = some (.string c.f0) := by rw [hc]; exact hcc 0 _ rfl
   have hx1 : wr.cell? ⟨g, x.toNat * 2 + 1, none⟩ = some (.int .i64 c.f1) := by rw [hc]; exact hcc 1 _ rfl
   have hf0 : wr.frozen? ⟨g, x.toNat * 2, none⟩ = false := hfr 0
   have hd : t.drop x.toNat = c :: t.drop (x.toNat + 1) := by
    have h1 : x.toNat < t.length := by omega
    rw [List.drop_eq_getElem_cons h1]
    congr 1
    rw [hc, HC.out.1, List.getD_eq_getElem?_getD, List.getElem?_append_right (by have := HC.out.2; omega)]
    have := HC.out.2
    simp [this, h1]
   have HD := zM hd
   have hp := HP.out.1
   rw [hd] at hp
   unfold plL at hp
   obtain ⟨j, hj, hp⟩ := zB hp
   have I1 := fun (W : World) (hW : Below w.heap.size w W) => slices_Index_string_string.calls k Av cv vars c.f0 j W (HV.out.below hW).hl HV.out.hc hj
   have hvc : wr.cell? ⟨p, 0, none⟩ = some (.slice Av vars.length cv) := (zX (HV.out.below HB.out).blk 0).trans rfl
   have hvp : p < wr.heap.size := blk_lt (HV.out.below HB.out).blk
   have hgw := HB.out.size
   have HGW := zM (show w.heap.size ≤ g ∧ g < wr.heap.size from ⟨hge, hgl⟩)
   have HX := zM hi
   have HCC := zM hc
   have hpp := eq_true hi.1
   have hqq := eq_true hi.2
   have hb0 : decide (x < (t.length : Int)) = true := zQ hi.2
   clear hcl hMM hcc hfr hd hj hc hcur hi hgw hge
   by_cases hj0 : j ≥ 0
   ·
    rw [if_pos hj0] at hp
    have dj : decide (0 ≤ j) = true := zQ hj0
    by_cases hj8 : j < 8
    case neg => rw [if_neg hj8] at hp; cases hp
    rw [if_pos hj8] at hp
    obtain ⟨q, hq, hp⟩ := zB hp
    have HQ := zM (show plL k vars (t.drop (x.toNat + 1)) = some q from hq)
    have HRE := zM (zS hp)
    have T1 := fun (W : World) => ito_calls j hj0 hj8 W
    clear hp hq hj0 hj8
    go_wp2_with (first | (go_at_call 47; (with_reducible refine (I1 _ ?side1).mono ?_); (case side1 => exact zb); rintro e w2 ⟨rfl, ⟨nd, rfl⟩⟩) | (go_at_call 48; (with_reducible refine (T1 _).mono ?_); rintro e w3 ⟨rfl, rfl⟩))
    go_roundg k1
    case measure => have := HI.out; omega
    case rel => exact ⟨x + 1, cur.set x.toNat ⟨(⟨#[88]⟩ : ByteArray) ++ itB j, c.f1⟩, done ++ [⟨(⟨#[88]⟩ : ByteArray) ++ itB j, c.f1⟩], q, by have e_ : wrap64 (x + 1) = x + 1 := (by have := HX.out; have := HM.out; unfold wrap64; omega); first | rfl | rw [e_] | (simp [e_]; done), ⟨by have := HI.out; omega⟩,
     ⟨by rw [show (x + 1).toNat = x.toNat + 1 by have := HX.out; omega]; refine ⟨?_, by simp [HC.out.2]⟩; rw [HC.out.1, HD.out, List.set_append_right _ _ (by have := HC.out.2; omega), HC.out.2, Nat.sub_self]; simp⟩,
     ⟨by rw [show (x + 1).toNat = x.toNat + 1 by have := HX.out; omega]; refine ⟨HQ.out, ?_⟩; rw [← HP.out.2, ← HRE.out]; simp⟩,
     ⟨by
      have HO2 := Kd.R_drewN (Kd.R_alloc HO.out (.cells #[.string c.f0, .int .i64 c.f1] 33)) nd
      obtain ⟨ce, hcl, hMM, hcc, hfr⟩ := Kd.R_elem HO2 z33 x HX.out.1 HX.out.2
      obtain rfl := k33_openM hMM
      exact (Kd.R_seg (okp := fun _ => False) HO2 x HX.out.1 HX.out.2 (seg := [.string ((⟨#[88]⟩ : ByteArray) ++ itB j)]) (j := 0) hcl hcc (show 1 ≤ 2 from by decide) (x' := (⟨(⟨#[88]⟩ : ByteArray) ++ itB j, c.f1⟩ : CkC)) (by rw [HCC.out]; exact k33_mkM _ _ (fun _ => False) (⟨(⟨#[88]⟩ : ByteArray) ++ itB j, (cur.getD x.toNat z33).f1⟩ : CkC)) (fun _ hk => hk.elim)).1⟩,
     ⟨by refine below_set ?_ HGW.out.1; repeat (first | exact HB.out | apply zA | apply zN | apply zD)⟩⟩
   ·
    rw [if_neg hj0] at hp
    have dj : decide (0 ≤ j) = false := zR hj0
    obtain ⟨q, hq, hp⟩ := zB hp
    have HQ := zM (show plL k vars (t.drop (x.toNat + 1)) = some q from hq)
    have HRE := zM (zS hp)
    clear hp hq hj0
    go_wp2_with (first | (go_at_call 47; (with_reducible refine (I1 _ ?side1).mono ?_); (case side1 => exact zb); rintro e w2 ⟨rfl, ⟨nd, rfl⟩⟩))
    go_roundg k1
    case measure => have := HI.out; omega
    case rel => exact ⟨x + 1, cur, done ++ [c], q, by have e_ : wrap64 (x + 1) = x + 1 := (by have := HX.out; have := HM.out; unfold wrap64; omega); first | rfl | rw [e_] | (simp [e_]; done), ⟨by have := HI.out; omega⟩,
     ⟨by rw [show (x + 1).toNat = x.toNat + 1 by have := HX.out; omega]; refine ⟨?_, by simp [HC.out.2]⟩; rw [HC.out.1, HD.out]; simp⟩,
     ⟨by rw [show (x + 1).toNat = x.toNat + 1 by have := HX.out; omega]; refine ⟨HQ.out, ?_⟩; rw [← HP.out.2, ← HRE.out]; simp⟩,
     ⟨by (repeat (first | exact HO.out | apply Kd.R_alloc | apply Kd.R_drewN | apply Kd.R_drew))⟩, ⟨by repeat (first | exact HB.out | apply zA | apply zN | apply zD)⟩⟩
  | zero =>
   have hb0 : decide (x < (t.length : Int)) = false := zR (by have := HI.out; omega)
   go_wp2
   go_ret
   have e1 : t.drop x.toNat = [] := List.drop_eq_nil_of_le (by have := HI.out; omega)
   have h1 := HC.out.1
   have h2 := HP.out
   rw [e1] at h1 h2
   have h3 : rest = [] := (zS h2.1).symm
   have h4 : cur = fin := by rw [h1, ← h2.2, h3]
   rw [h4] at HO
   exact ⟨_, rfl, HO.out, HB.out⟩
def plainF (k : Nat) (id : Int) (l r : List CkC) : Option (Int × List CkC × List CkC × Int) :=
 (rule_Check.f k id l r).bind fun e => if e = 0 then ((term_Vars.f k l).bind fun a => (plF k a.1 l).bind fun x => (plF k a.1 r).bind fun y => some (id, x, y, 0)) else some (0, [], [], e)
def pnW (w : World) (id : Int) (A1 : Option Addr) (c1 : Nat) (l : List CkC) (A2 : Option Addr) (c2 : Nat) (r : List CkC) : World := (w.alloc (.cells #[.int .i64 id, .slice A1 l.length c1, .slice A2 r.length c2] 25)).alloc (.cells #[.int .i64 0, .slice none 0 0, .slice none 0 0] 25)
theorem pn_facts (w : World) (id : Int) (A1 : Option Addr) (c1 : Nat) (l : List CkC) (A2 : Option Addr) (c2 : Nat) (r : List CkC) :
 (pnW w id A1 c1 l A2 c2 r).heap.size = w.heap.size + 2 ∧ (pnW w id A1 c1 l A2 c2 r).heap[w.heap.size]? = some (.cells #[.int .i64 id, .slice A1 l.length c1, .slice A2 r.length c2] 25 (0, 0)) ∧
 (pnW w id A1 c1 l A2 c2 r).heap[w.heap.size + 1]? = some (.cells #[.int .i64 0, .slice none 0 0, .slice none 0 0] 25 (0, 0)) ∧ Below w.heap.size w (pnW w id A1 c1 l A2 c2 r) := by
 have h1 := heap_alloc_new (w.alloc (.cells #[.int .i64 id, .slice A1 l.length c1, .slice A2 r.length c2] 25)) (.cells #[.int .i64 0, .slice none 0 0, .slice none 0 0] 25)
 have hs : (w.alloc (.cells #[.int .i64 id, .slice A1 l.length c1, .slice A2 r.length c2] 25)).heap.size = w.heap.size + 1 := by simp
 rw [hs] at h1
 refine ⟨by simp [pnW], ?_, h1, zA (zA (Below.refl _ _) _) _⟩
 exact (Below.heap_alloc _ _ w.heap.size (by simp)).trans (heap_alloc_new w _)
theorem pn_kept {w w1 : World} {id : Int} {A1 A2 : Option Addr} {c1 c2 : Nat} {l r : List CkC} (hb : Below (pnW w id A1 c1 l A2 c2 r).heap.size (pnW w id A1 c1 l A2 c2 r) w1) :
 w.heap.size + 2 ≤ w1.heap.size ∧ w1.heap[w.heap.size]? = some (.cells #[.int .i64 id, .slice A1 l.length c1, .slice A2 r.length c2] 25 (0, 0)) ∧
 w1.heap[w.heap.size + 1]? = some (.cells #[.int .i64 0, .slice none 0 0, .slice none 0 0] 25 (0, 0)) ∧ Below w.heap.size w w1 := by
 obtain ⟨h1, h2, h3, h4⟩ := pn_facts w id A1 c1 l A2 c2 r
 have hs := hb.size
 exact ⟨by omega, (hb.block _ (by omega)).trans h2, (hb.block _ (by omega)).trans h3, below_step h4 hb⟩
theorem plain_calls (k : Nat) (id : Int) (A1 : Option Addr) (c1 : Nat) (l : List CkC) (A2 : Option Addr) (c2 : Nat) (r : List CkC) (r1 : Int) (r2 r3 : List CkC) (r4 : Int) (w : World) (hl : Kd.C k33 w A1 l.length l) (hl' : l.length ≤ c1) (hr : Kd.C k33 w A2 r.length r) (hr' : r.length ≤ c2) (h : plainF k id l r = some (r1, r2, r3, r4)) :
 Calls Tryd.prog 19 #[.agg #[.int .i64 id, .slice A1 l.length c1, .slice A2 r.length c2]] w fun e w' => ∃ v1_ v2_ : Value, e = .returned (.tuple #[.agg #[.int .i64 r1, v1_, v2_], .int .i64 r4]) ∧ Kd.R k33 33 w' w.heap.size (fun k_ => some k_ ≠ (v2_ : Value).ownBlock) v1_ r2 ∧ Kd.R k33 33 w' w.heap.size (fun k_ => some k_ ≠ (v1_ : Value).ownBlock) v2_ r3 ∧ Below w.heap.size w w' := by
 unfold plainF at h
 obtain ⟨e0, he, h⟩ := zB h
 have K1 := fun (W : World) (hW : Below w.heap.size w W) => rule_Check.calls k id A1 c1 l A2 c2 r e0 W (Kd.C_below hl hW) hl' (Kd.C_below hr hW) hr' he
 have HL := zM hl
 have HR := zM hr
 have hmf : ∀ (fn : Fn) (first cap : Array Value) (w : World), (Instr.makeFunc fn first cap).run Tryd.prog w = .ok (.func fn first cap) w := fun _ _ _ _ => rfl
 have HB := zM (Below.refl w.heap.size w)
 clear he hl hr
 by_cases c0 : e0 = 0
 case neg =>
  rw [if_neg c0] at h
  simp only [Option.some.injEq, Prod.mk.injEq] at h
  obtain ⟨rfl, rfl, rfl, rfl⟩ := h
  have d0 : (e0 != 0) = true := zF c0
  clear c0 hmf
  go_enter Tryd.func19, Tryd.ntmps19
  go_wp2_with (first | (go_at_call 11; (with_reducible refine (K1 _ ?side1).mono ?_); (case side1 => exact zb); rintro e w1 ⟨rfl, hb⟩; obtain ⟨hz, hz0, hz1, hB⟩ := pn_kept hb; have hq0 : w1.cell? ⟨w.heap.size + 1, 0, none⟩ = some (.int .i64 0) := (zX hz1 0).trans rfl; have hq1 : w1.cell? ⟨w.heap.size + 1, 1, none⟩ = some (.slice none 0 0) := (zX hz1 1).trans rfl; have hq2 : w1.cell? ⟨w.heap.size + 1, 2, none⟩ = some (.slice none 0 0) := (zX hz1 2).trans rfl; have hf0 := zY hz1 0; have hf1 := zY hz1 1; have hf2 := zY hz1 2; have HZ := zM (And.intro hz (And.intro hz0 hz1)); clear HB hb hz hz0 hz1; have HB := zM hB; clear hB))
  refine bodyPost_ret (results_ct rfl _ _ (w.heap.size + 1) 25 #[.int .i64 0, .slice none 0 0, .slice none 0 0] (0, 0) _ rfl (by refine blk_put (cs := #[.int .i64 0, .slice none 0 0, .slice none 0 0]) ?_ 2 _ rfl; refine blk_put (cs := #[.int .i64 0, .slice none 0 0, .slice none 0 0]) ?_ 1 _ rfl; refine blk_put (cs := #[.int .i64 0, .slice none 0 0, .slice none 0 0]) ?_ 0 _ rfl; exact HZ.out.2.2) Tryd.underlying25 rfl (by kernel_rfl)) rfl ?_
  exact ⟨_, _, rfl, Kd.R_nil _ _ _ _ _, Kd.R_nil _ _ _ _ _, by repeat (first | exact HB.out | (refine below_set ?_ (by omega)))⟩
 case pos =>
  subst c0
  rw [if_pos rfl] at h
  obtain ⟨⟨vl, q1⟩, hv, h⟩ := zB h
  obtain ⟨x, hx, h⟩ := zB h
  obtain ⟨y, hy, h⟩ := zB h
  simp only [Option.some.injEq, Prod.mk.injEq] at h
  obtain ⟨rfl, rfl, rfl, rfl⟩ := h
  have V1 := fun (W : World) (hW : Below w.heap.size w W) => term_Vars.calls k A1 c1 l vl q1 W (Kd.C_below HL.out hW) hl' hv
  have HX := zM hx
  have HY := zM hy
  clear hv hx hy
  go_enter Tryd.func19, Tryd.ntmps19
  go_wp2_with (first | (go_at_call 11; (with_reducible refine (K1 _ ?side1).mono ?_); (case side1 => exact zb); rintro e w1 ⟨rfl, hb⟩; obtain ⟨hz, hz0, hz1, hB⟩ := pn_kept hb; have hq0 : w1.cell? ⟨w.heap.size, 0, none⟩ = some (.int .i64 id) := (zX hz0 0).trans rfl; have hq1 : w1.cell? ⟨w.heap.size, 1, none⟩ = some (.slice A1 l.length c1) := (zX hz0 1).trans rfl; have hq2 : w1.cell? ⟨w.heap.size, 2, none⟩ = some (.slice A2 r.length c2) := (zX hz0 2).trans rfl; have HZ := zM (And.intro hz (And.intro hz0 hz1)); clear HB hb hz hz0 hz1; have HB := zM hB; clear hB) | (go_at_call 44; (with_reducible refine (V1 _ ?side2).mono ?_); (case side2 => exact zb); rintro e w2 ⟨vv, rfl, hR, hb⟩; obtain ⟨Av, cv, rfl⟩ := Kd.R_slice hR; have HRV := zM (Kd.R_reads' hR).2; have HZ2 := zM (And.intro (show w.heap.size + 2 ≤ w2.heap.size from by have := hb.size; have := HZ.out.1; omega) (And.intro ((hb.block _ (by have := HZ.out.1; omega)).trans HZ.out.2.1) ((hb.block _ (by have := HZ.out.1; omega)).trans HZ.out.2.2))); replace HB := zM (below_step HB.out hb); clear hR hb hq0 hq1 hq2; have hz2 : w.heap.size + 1 < w2.heap.size := (by have := HZ2.out.1; omega)))
  have hbx := heap_alloc_new w2 (.cells #[.slice Av vl.length cv] 58)
  obtain ⟨W5, hW5⟩ : ∃ W5, W5 = w2.alloc (.cells #[.slice Av vl.length cv] 58) := ⟨_, rfl⟩
  have hB5 : Below w2.heap.size w2 W5 := by rw [hW5]; exact zA (Below.refl _ _) _
  have HIV := zM (show IsVl W5 w2.heap.size Av cv vl from ⟨by rw [hW5]; exact hbx, Kd.C_below HRV.out.2 hB5, HRV.out.1⟩)
  have HK0 := zM ((hB5.block _ (by have := HZ2.out.1; omega)).trans HZ2.out.2.1)
  have HK1 := zM ((hB5.block _ (by have := HZ2.out.1; omega)).trans HZ2.out.2.2)
  have HB5 := zM (below_step HB.out hB5)
  have P1 := fun (W : World) (hW : Below W5.heap.size W5 W) => pl1_calls (w := W) (c0 := c1) (A0 := A1) (HIV.out.below hW) (Kd.C_below HL.out (below_step HB5.out hW)) hl' HX.out
  have P2 := fun (W : World) (hW : Below W5.heap.size W5 W) => pl1_calls (w := W) (c0 := c2) (A0 := A2) (HIV.out.below hW) (Kd.C_below HR.out (below_step HB5.out hW)) hr' HY.out
  have hc0 : W5.cell? ⟨w.heap.size, 0, none⟩ = some (.int .i64 id) := (zX HK0.out 0).trans rfl
  have hc1 : W5.cell? ⟨w.heap.size, 1, none⟩ = some (.slice A1 l.length c1) := (zX HK0.out 1).trans rfl
  have hc2 : W5.cell? ⟨w.heap.size, 2, none⟩ = some (.slice A2 r.length c2) := (zX HK0.out 2).trans rfl
  have HBW := zM (Below.refl W5.heap.size W5)
  have HC0 := zM hc0
  have HC1 := zM hc1
  have HC2 := zM hc2
  rw [← hW5]
  have HW5 := zM hW5
  have HLT := zM (show w.heap.size + 1 < W5.heap.size from blk_lt HK1.out)
  clear hW5 hB5 hbx hz2
  go_region_held3 (fun w' => w'.cell? ⟨w.heap.size, 0, none⟩ = some (.int .i64 id) ∧ w'.cell? ⟨w.heap.size, 1, none⟩ = some (.slice A1 l.length c1) ∧ w'.cell? ⟨w.heap.size, 2, none⟩ = some (.slice A2 r.length c2)) (first | go_keep | (go_split_ands; refine ⟨?_, ?_, ?_⟩ <;> assumption)) (first | (go_at_call 45; (with_reducible refine (P1 _ ?side3).mono ?_); (case side3 => exact (by repeat (first | exact HBW.out | apply zN | apply zD))); rintro e w3 ⟨v1, rfl, hR, hb⟩; obtain ⟨Ax, cx, rfl⟩ := Kd.R_slice hR; have HR1 := zM (Kd.R_lower hR (Nat.le_trans HB5.out.size (show W5.heap.size ≤ _ from (by repeat (first | exact HBW.out | apply zN | apply zD) : Below W5.heap.size W5 _).size))); replace HBW := zM (below_step (by repeat (first | exact HBW.out | apply zN | apply zD)) hb); clear hR hb; have hd0 := pw_cell_below HBW.out HC0.out; have hd1 := pw_cell_below HBW.out HC1.out; have hd2 := pw_cell_below HBW.out HC2.out) | (go_at_call 45; (with_reducible refine (P2 _ ?side4).mono ?_); (case side4 => exact (by repeat (first | exact HBW.out | apply zN | apply zD))); rintro e w4 ⟨v2, rfl, hR, hb⟩; obtain ⟨Ay, cy, rfl⟩ := Kd.R_slice hR; have HR2 := zM (Kd.R_lower (Kd.R_new' hR (Kd.R_lt (by (repeat (first | exact HR1.out | apply Kd.R_drewN | apply Kd.R_drew))))) (Nat.le_trans HB5.out.size (show W5.heap.size ≤ _ from (by repeat (first | exact HBW.out | apply zN | apply zD) : Below W5.heap.size W5 _).size))); have HR1b := zM (Kd.R_elder' (by (repeat (first | exact HR1.out | apply Kd.R_drewN | apply Kd.R_drew))) (Kd.R_base hR) hb); replace HBW := zM (below_step (by repeat (first | exact HBW.out | apply zN | apply zD)) hb); clear hR hb; have hd0 := pw_cell_below HBW.out HC0.out; have hd1 := pw_cell_below HBW.out HC1.out; have hd2 := pw_cell_below HBW.out HC2.out; have hk_ := (HBW.out.block (w.heap.size + 1) HLT.out).trans HK1.out; have HK4 := zM hk_; have he0 : w4.cell? ⟨w.heap.size + 1, 0, none⟩ = some (.int .i64 0) := (zX hk_ 0).trans rfl; have he1 : w4.cell? ⟨w.heap.size + 1, 1, none⟩ = some (.slice none 0 0) := (zX hk_ 1).trans rfl; have he2 : w4.cell? ⟨w.heap.size + 1, 2, none⟩ = some (.slice none 0 0) := (zX hk_ 2).trans rfl; have hg0 := zY hk_ 0; have hg1 := zY hk_ 1; have hg2 := zY hk_ 2; clear hk_))
  go_wp2
  refine bodyPost_ret (results_ct rfl _ _ (w.heap.size + 1) 25 #[.int .i64 id, .slice Ax x.length cx, .slice Ay y.length cy] (0, 0) _ rfl (by refine blk_put (cs := #[.int .i64 id, .slice Ax x.length cx, .slice none 0 0]) ?_ 2 _ rfl; refine blk_put (cs := #[.int .i64 id, .slice none 0 0, .slice none 0 0]) ?_ 1 _ rfl; refine blk_put (cs := #[.int .i64 0, .slice none 0 0, .slice none 0 0]) ?_ 0 _ rfl; exact HK4.out) Tryd.underlying25 rfl (by kernel_rfl)) rfl ?_
  exact ⟨_, _, rfl, Kd.R_mono (Kd.R_far (p := ⟨w.heap.size + 1, 2, none⟩) (Kd.R_far (p := ⟨w.heap.size + 1, 1, none⟩) (Kd.R_far (p := ⟨w.heap.size + 1, 0, none⟩) (Kd.R_types HR1b.out HK4.out (by decide)) (fun _ hk => hk.2) _) (fun _ hk => hk.2) _) (fun _ hk => hk.2) _) (fun _ hk => hk.1.2), Kd.R_mono (Kd.R_far (p := ⟨w.heap.size + 1, 2, none⟩) (Kd.R_far (p := ⟨w.heap.size + 1, 1, none⟩) (Kd.R_far (p := ⟨w.heap.size + 1, 0, none⟩) (Kd.R_types HR2.out HK4.out (by decide)) (fun _ hk => hk.2) _) (fun _ hk => hk.2) _) (fun _ hk => hk.2) _) (fun _ hk => hk.1.2), by
   have h_ := below_step HB5.out HBW.out
   repeat (first | exact h_ | (refine below_set ?_ (by omega)))⟩
theorem plL_mono (vars : List ByteArray) (k : Nat) : ∀ t, LeO (plL k vars t) (plL (k + 1) vars t)
 | [] => LeO.refl _
 | c :: u => by
  unfold plL
  exact LeO.bind (slices_Index_string_string.mono _ _ _) fun j => LeO.ite (LeO.ite (LeO.bind (plL_mono vars k u) fun _ => LeO.refl _) (LeO.refl _)) (LeO.bind (plL_mono vars k u) fun _ => LeO.refl _)
def rule_Plain.f (k : Nat) (a0_0 : Int) (l0_1 : List (S33)) (l0_2 : List (S33)) : Option (Int × (List (S33)) × (List (S33)) × Int) := plainF k a0_0 l0_1 l0_2
theorem rule_Plain.mono : ∀ a0 a1 a2 k, LeO (rule_Plain.f k a0 a1 a2) (rule_Plain.f (k + 1) a0 a1 a2) := by
 intro a0 a1 a2 k
 unfold rule_Plain.f plainF
 refine LeO.bind (rule_Check.mono _ _ _ _) fun _ => LeO.ite (LeO.bind (term_Vars.mono _ _) fun _ => LeO.bind ?_ fun _ => LeO.bind ?_ fun _ => LeO.refl _) (LeO.refl _)
 ·
  unfold plF; exact LeO.ite (plL_mono _ _ _) (LeO.refl _)
 ·
  unfold plF; exact LeO.ite (plL_mono _ _ _) (LeO.refl _)
theorem rule_Plain.calls (k : Nat) (a0_0 : Int) (A0_1 : Option Addr) (c0_1 : Nat) (l0_1 : List (S33)) (A0_2 : Option Addr) (c0_2 : Nat) (l0_2 : List (S33)) (r1 : Int) (r2 : List (S33)) (r3 : List (S33)) (r4 : Int) (w : World) (hr0_1 : Kd.C k33 w A0_1 l0_1.length l0_1) (hc0_1 : l0_1.length ≤ c0_1) (hr0_2 : Kd.C k33 w A0_2 l0_2.length l0_2) (hc0_2 : l0_2.length ≤ c0_2) (h : rule_Plain.f k a0_0 l0_1 l0_2 = some (r1, r2, r3, r4)) :
 Calls Tryd.prog 19 #[.agg #[.int .i64 a0_0, .slice A0_1 l0_1.length c0_1, .slice A0_2 l0_2.length c0_2]] w fun e w' => ∃ v1_ v2_ : Value, e = .returned (.tuple #[.agg #[.int .i64 r1, v1_, v2_], .int .i64 r4]) ∧ Kd.R k33 33 w' w.heap.size (fun k_ => some k_ ≠ (v2_ : Value).ownBlock) v1_ r2 ∧ Kd.R k33 33 w' w.heap.size (fun k_ => some k_ ≠ (v1_ : Value).ownBlock) v2_ r3 ∧ Below w.heap.size w w' := plain_calls k a0_0 A0_1 c0_1 l0_1 A0_2 c0_2 l0_2 r1 r2 r3 r4 w hr0_1 hc0_1 hr0_2 hc0_2 h



-- ==== PF10

def aumbrylaw06_wakes.f (k : Nat)  : Option (Bool) := (rule_Parse.f k (⟨#[103, 40, 66, 44, 65, 41]⟩ : ByteArray) (⟨#[65]⟩ : ByteArray)).bind fun bt101 => ((rule_Plain.f k bt101.1 bt101.2.1 bt101.2.2.1).bind fun bt110 => ((rule_Print.f k bt110.1 bt110.2.1 bt110.2.2.1).bind fun bt119 => ((rule_Parse.f k (⟨#[88]⟩ : ByteArray) (⟨#[97]⟩ : ByteArray)).bind fun bt121 => (if bt101.2.2.2 = 0 then (if bt110.2.2.2 = 0 then (if bt119.2 = 0 then (if bt119.1.toList = ([103, 40, 88, 48, 44, 88, 49, 41, 32, 45, 62, 32, 88, 49] : List UInt8) then ((rule_Head.f k bt101.1 bt101.2.1 bt101.2.2.1).bind fun t130 => (if t130.toList = ([103] : List UInt8) then (some (bt121.2.2.2 == 20)) else (some false))) else (some false)) else (some false)) else (some false)) else (some false)))))
theorem aumbrylaw06_wakes.mono : ∀ k, LeO (aumbrylaw06_wakes.f k ) (aumbrylaw06_wakes.f (k + 1) ) := by
 intro  k
 unfold aumbrylaw06_wakes.f
 repeat' first
  | (with_reducible exact rule_Head.mono _ _ _ _)
  | (with_reducible exact rule_Parse.mono _ _ _)
  | (with_reducible exact rule_Plain.mono _ _ _ _)
  | (with_reducible exact rule_Print.mono _ _ _ _)
  | (with_reducible exact LeO.refl _)
  | (with_reducible exact LeO.none _)
  | (with_reducible refine LeO.ite ?_ ?_)
  | (with_reducible refine LeO.bind ?_ (fun _ => ?_))
theorem aumbrylaw06_wakes.ev_true : Ev (fun k => aumbrylaw06_wakes.f k) true := Ev.of (g := fun k => aumbrylaw06_wakes.f k) aumbrylaw06_wakes.mono (k := 40) (by kernel_rfl)
theorem aumbrylaw06_wakes.is_true (k : Nat) (r : Bool) (h : aumbrylaw06_wakes.f k = some r) : r = true := by
 obtain ⟨K1, h1⟩ := Ev.of (g := fun k => aumbrylaw06_wakes.f k) aumbrylaw06_wakes.mono h
 obtain ⟨K2, h2⟩ := aumbrylaw06_wakes.ev_true
 exact zS ((h1 (max K1 K2) (Nat.le_max_left _ _)).symm.trans (h2 _ (Nat.le_max_right _ _)))
theorem aumbrylaw06_wakes.calls (k : Nat)  (r : Bool) (w : World) (h : aumbrylaw06_wakes.f k  = some r) :
 Calls Tryd.prog 10 #[] w fun e w' => e = .returned (.bool r) ∧ Below w.heap.size w w' := by
 have HRT := zM (aumbrylaw06_wakes.is_true k r h)
 have hu25 := Tryd.underlying25
 have HB := zM (Below.refl w.heap.size w)
 have H : ((rule_Parse.f k (⟨#[103, 40, 66, 44, 65, 41]⟩ : ByteArray) (⟨#[65]⟩ : ByteArray)).bind fun bt101 => ((rule_Plain.f k bt101.1 bt101.2.1 bt101.2.2.1).bind fun bt110 => ((rule_Print.f k bt110.1 bt110.2.1 bt110.2.2.1).bind fun bt119 => ((rule_Parse.f k (⟨#[88]⟩ : ByteArray) (⟨#[97]⟩ : ByteArray)).bind fun bt121 => (if bt101.2.2.2 = 0 then (if bt110.2.2.2 = 0 then (if bt119.2 = 0 then (if bt119.1.toList = ([103, 40, 88, 48, 44, 88, 49, 41, 32, 45, 62, 32, 88, 49] : List UInt8) then ((rule_Head.f k bt101.1 bt101.2.1 bt101.2.2.1).bind fun t130 => (if t130.toList = ([103] : List UInt8) then (some (bt121.2.2.2 == 20)) else (some false))) else (some false)) else (some false)) else (some false)) else (some false)))))) = some r := h
 clear h
 replace H := zB H
 obtain ⟨⟨t101, t102, t105, t108⟩, A10, H⟩ := H
 try dsimp only at H
 have A1 := zM A10
 clear A10
 replace H := zB H
 obtain ⟨⟨t110, t111, t114, t117⟩, A20, H⟩ := H
 try dsimp only at H
 have A2 := zM A20
 clear A20
 replace H := zB H
 obtain ⟨⟨t119, t120⟩, A30, H⟩ := H
 try dsimp only at H
 have A3 := zM A30
 clear A30
 replace H := zB H
 obtain ⟨⟨t121, t122, t125, t128⟩, A40, H⟩ := H
 try dsimp only at H
 have A4 := zM A40
 clear A40
 by_cases c5 : t108 = 0
 ·
  rw [if_pos c5] at H
  have c5b0 : (t108 == 0) = true := zG c5
  have c5b1 : (t108 != 0) = false := zH c5
  clear c5
  by_cases c6 : t117 = 0
  ·
   rw [if_pos c6] at H
   have c6b0 : (t117 == 0) = true := zG c6
   have c6b1 : (t117 != 0) = false := zH c6
   clear c6
   by_cases c7 : t120 = 0
   ·
    rw [if_pos c7] at H
    have c7b0 : (t120 == 0) = true := zG c7
    have c7b1 : (t120 != 0) = false := zH c7
    clear c7
    by_cases c8 : t119.toList = ([103, 40, 88, 48, 44, 88, 49, 41, 32, 45, 62, 32, 88, 49] : List UInt8)
    ·
     rw [if_pos c8] at H
     have c8b0 : (t119.toList == ([103, 40, 88, 48, 44, 88, 49, 41, 32, 45, 62, 32, 88, 49] : List UInt8)) = true := zG c8
     have c8b1 : (t119.toList != ([103, 40, 88, 48, 44, 88, 49, 41, 32, 45, 62, 32, 88, 49] : List UInt8)) = false := zH c8
     clear c8
     replace H := zB H
     obtain ⟨t130, A90, H⟩ := H
     try dsimp only at H
     have A9 := zM A90
     clear A90
     by_cases c10 : t130.toList = ([103] : List UInt8)
     ·
      rw [if_pos c10] at H
      have c10b0 : (t130.toList == ([103] : List UInt8)) = true := zG c10
      have c10b1 : (t130.toList != ([103] : List UInt8)) = false := zH c10
      clear c10
      obtain rfl := zS H
      go_enter Tryd.func10, Tryd.ntmps10
      go_wp2_with (first | ((with_reducible refine gate_callee (f := 15) rfl ?_); refine goesL_ (some 10) rfl rfl Tryd.func15 (by kernel_rfl) rfl #[.string (⟨#[103, 40, 66, 44, 65, 41]⟩ : ByteArray), .string (⟨#[65]⟩ : ByteArray)] rfl zl ?_; (with_reducible refine (rule_Parse.calls k (⟨#[103, 40, 66, 44, 65, 41]⟩ : ByteArray) (⟨#[65]⟩ : ByteArray) t101 t102 t105 t108 _ A1.out).mono ?_); rintro e w11 ⟨v103, v106, rfl, ho0, ho1, hb⟩; refine ⟨_, rfl, ?_⟩; have HO104 := zM (Kd.R_lower ho0 (below_size zb)); have HO107 := zM (Kd.R_lower ho1 (below_size zb)); replace HB := zM (below_step zb hb); (try clear hb); (try clear ho0); (try clear ho1)) | ((with_reducible refine gate_dst (N := 1) rfl ?_); refine box_event ?hg (N := 1) ?hd (cs := #[.int .i64 0, .slice none 0 0, .slice none 0 0]) (t := 25) ?hr ?_; (case hd => rfl); (case hg => rfl); (case hr => first | (go_simp; done) | (go_simp; rfl)); intro gb109 hg w12 hbox hb; replace HO104 := zM (Kd.R_below (zr HO104.out) hb); replace HO107 := zM (Kd.R_below (zr HO107.out) hb); have BK109 := zM (hbox); have GW109 := zM (zh hg : w.heap.size ≤ gb109); have GE109 := zM (zh hg : w.heap.size ≤ gb109); replace HB := zM (below_step zb hb); clear hb hbox hg; have hcz13_0 : w12.cell? ⟨gb109, 0, none⟩ = some (.int .i64 0) := (zX BK109.out 0).trans rfl; have hcz13_1 : w12.cell? ⟨gb109, 1, none⟩ = some (.slice none 0 0) := (zX BK109.out 1).trans rfl; have hcz13_2 : w12.cell? ⟨gb109, 2, none⟩ = some (.slice none 0 0) := (zX BK109.out 2).trans rfl; have hfz13_0 := zY BK109.out 0; have hfz13_1 := zY BK109.out 1; have hfz13_2 := zY BK109.out 2; obtain ⟨Ao14, co14, eo14⟩ := Kd.R_slice HO104.out; subst eo14; obtain ⟨Ao15, co15, eo15⟩ := Kd.R_slice HO107.out; subst eo15) | ((with_reducible refine gate_callee (f := 19) rfl ?_); refine goesL_ (some 15) rfl rfl Tryd.func19 (by kernel_rfl) rfl #[.agg #[.int .i64 t101, .slice Ao14 t102.length co14, .slice Ao15 t105.length co15]] rfl zl ?_; (with_reducible refine (rule_Plain.calls k t101 _ _ t102 _ _ t105 t110 t111 t114 t117 _ ?side1 ?side2 ?side3 ?side4 A2.out).mono ?_); (case side1 => refine (Kd.R_reads' (e := 33) (base := w.heap.size) (ok := fun k_ => some k_ ≠ (.slice Ao15 t105.length co15 : Value).ownBlock) (n := t102.length) (c := co14) ?_).2.2; exact (by (with_reducible repeat (first | apply Kd.R_alloc | apply Kd.R_drewN | apply Kd.R_drew)); exact (Kd.R_mono (Kd.R_far (p := ⟨gb109, 2, none⟩) (Kd.R_far (p := ⟨gb109, 1, none⟩) (Kd.R_far (p := ⟨gb109, 0, none⟩) (Kd.R_types HO104.out BK109.out (by decide)) (fun _ hk => hk.2) (.int .i64 t101)) (fun _ hk => hk.2) (.slice Ao14 t102.length co14)) (fun _ hk => hk.2) (.slice Ao15 t105.length co15)) (fun _ h_ => h_.1)))); (case side2 => exact (Kd.R_reads' HO104.out).2.1); (case side3 => refine (Kd.R_reads' (e := 33) (base := w.heap.size) (ok := fun k_ => some k_ ≠ (.slice Ao14 t102.length co14 : Value).ownBlock) (n := t105.length) (c := co15) ?_).2.2; exact (by (with_reducible repeat (first | apply Kd.R_alloc | apply Kd.R_drewN | apply Kd.R_drew)); exact (Kd.R_mono (Kd.R_far (p := ⟨gb109, 2, none⟩) (Kd.R_far (p := ⟨gb109, 1, none⟩) (Kd.R_far (p := ⟨gb109, 0, none⟩) (Kd.R_types HO107.out BK109.out (by decide)) (fun _ hk => hk.2) (.int .i64 t101)) (fun _ hk => hk.2) (.slice Ao14 t102.length co14)) (fun _ hk => hk.2) (.slice Ao15 t105.length co15)) (fun _ h_ => h_.1)))); (case side4 => exact (Kd.R_reads' HO107.out).2.1); rintro e w16 ⟨v112, v115, rfl, ho0, ho1, hb⟩; refine ⟨_, rfl, ?_⟩; have HO113 := zM (Kd.R_lower (Kd.R_new' (Kd.R_new' ho0 (Kd.R_lt (by (with_reducible repeat (first | apply Kd.R_alloc | apply Kd.R_drewN | apply Kd.R_drew)); exact (Kd.R_mono (Kd.R_far (p := ⟨gb109, 2, none⟩) (Kd.R_far (p := ⟨gb109, 1, none⟩) (Kd.R_far (p := ⟨gb109, 0, none⟩) (Kd.R_types HO104.out BK109.out (by decide)) (fun _ hk => hk.2) (.int .i64 t101)) (fun _ hk => hk.2) (.slice Ao14 t102.length co14)) (fun _ hk => hk.2) (.slice Ao15 t105.length co15)) (fun _ h_ => h_.1))))) (Kd.R_lt (by (with_reducible repeat (first | apply Kd.R_alloc | apply Kd.R_drewN | apply Kd.R_drew)); exact (Kd.R_mono (Kd.R_far (p := ⟨gb109, 2, none⟩) (Kd.R_far (p := ⟨gb109, 1, none⟩) (Kd.R_far (p := ⟨gb109, 0, none⟩) (Kd.R_types HO107.out BK109.out (by decide)) (fun _ hk => hk.2) (.int .i64 t101)) (fun _ hk => hk.2) (.slice Ao14 t102.length co14)) (fun _ hk => hk.2) (.slice Ao15 t105.length co15)) (fun _ h_ => h_.1))))) (below_size zb)); have HO116 := zM (Kd.R_lower (Kd.R_new' (Kd.R_new' ho1 (Kd.R_lt (by (with_reducible repeat (first | apply Kd.R_alloc | apply Kd.R_drewN | apply Kd.R_drew)); exact (Kd.R_mono (Kd.R_far (p := ⟨gb109, 2, none⟩) (Kd.R_far (p := ⟨gb109, 1, none⟩) (Kd.R_far (p := ⟨gb109, 0, none⟩) (Kd.R_types HO104.out BK109.out (by decide)) (fun _ hk => hk.2) (.int .i64 t101)) (fun _ hk => hk.2) (.slice Ao14 t102.length co14)) (fun _ hk => hk.2) (.slice Ao15 t105.length co15)) (fun _ h_ => h_.1))))) (Kd.R_lt (by (with_reducible repeat (first | apply Kd.R_alloc | apply Kd.R_drewN | apply Kd.R_drew)); exact (Kd.R_mono (Kd.R_far (p := ⟨gb109, 2, none⟩) (Kd.R_far (p := ⟨gb109, 1, none⟩) (Kd.R_far (p := ⟨gb109, 0, none⟩) (Kd.R_types HO107.out BK109.out (by decide)) (fun _ hk => hk.2) (.int .i64 t101)) (fun _ hk => hk.2) (.slice Ao14 t102.length co14)) (fun _ hk => hk.2) (.slice Ao15 t105.length co15)) (fun _ h_ => h_.1))))) (below_size zb)); replace HO104 := zM (Kd.R_mono (Kd.R_told (Kd.R_told (Kd.R_old (by (with_reducible repeat (first | apply Kd.R_alloc | apply Kd.R_drewN | apply Kd.R_drew)); exact (Kd.R_mono (Kd.R_far (p := ⟨gb109, 2, none⟩) (Kd.R_far (p := ⟨gb109, 1, none⟩) (Kd.R_far (p := ⟨gb109, 0, none⟩) (Kd.R_types HO104.out BK109.out (by decide)) (fun _ hk => hk.2) (.int .i64 t101)) (fun _ hk => hk.2) (.slice Ao14 t102.length co14)) (fun _ hk => hk.2) (.slice Ao15 t105.length co15)) (fun _ h_ => h_.1))) hb) (Kd.R_base ho0)) (Kd.R_base ho1)) (fun _ h_ => h_.1)); replace HO107 := zM (Kd.R_mono (Kd.R_told (Kd.R_told (Kd.R_old (by (with_reducible repeat (first | apply Kd.R_alloc | apply Kd.R_drewN | apply Kd.R_drew)); exact (Kd.R_mono (Kd.R_far (p := ⟨gb109, 2, none⟩) (Kd.R_far (p := ⟨gb109, 1, none⟩) (Kd.R_far (p := ⟨gb109, 0, none⟩) (Kd.R_types HO107.out BK109.out (by decide)) (fun _ hk => hk.2) (.int .i64 t101)) (fun _ hk => hk.2) (.slice Ao14 t102.length co14)) (fun _ hk => hk.2) (.slice Ao15 t105.length co15)) (fun _ h_ => h_.1))) hb) (Kd.R_base ho0)) (Kd.R_base ho1)) (fun _ h_ => h_.1)); replace BK109 := zM (blk_below (g := gb109) (o := .cells #[.int .i64 t101, .slice Ao14 t102.length co14, .slice Ao15 t105.length co15] 25 (0, 0)) (by refine zk ?_; refine blk_put (cs := #[.int .i64 t101, .slice Ao14 t102.length co14, .slice none 0 0]) ?_ 2 _ rfl; refine zk ?_; refine blk_put (cs := #[.int .i64 t101, .slice none 0 0, .slice none 0 0]) ?_ 1 _ rfl; refine zk ?_; refine blk_put (cs := #[.int .i64 0, .slice none 0 0, .slice none 0 0]) ?_ 0 _ rfl; refine zk ?_; exact BK109.out) hb); replace HB := zM (below_step zb hb); (try clear hb); (try clear ho0); (try clear ho1)) | ((with_reducible refine gate_dst (N := 3) rfl ?_); refine box_event ?hg (N := 3) ?hd (cs := #[.int .i64 0, .slice none 0 0, .slice none 0 0]) (t := 25) ?hr ?_; (case hd => rfl); (case hg => rfl); (case hr => first | (go_simp; done) | (go_simp; rfl)); intro gb118 hg w17 hbox hb; replace HO104 := zM (Kd.R_below (zr HO104.out) hb); replace HO107 := zM (Kd.R_below (zr HO107.out) hb); replace HO113 := zM (Kd.R_below (zr HO113.out) hb); replace HO116 := zM (Kd.R_below (zr HO116.out) hb); have BK118 := zM (hbox); have GW118 := zM (zh hg : w.heap.size ≤ gb118); have GE118 := zM (zh hg : w.heap.size ≤ gb118); replace HB := zM (below_step zb hb); have NB109_118 := zM ((by rw [hg]; exact Nat.ne_of_lt (blk_lt (zk BK109.out)) : gb109 ≠ gb118)); have NB118_109 := zM ((by rw [hg]; exact Nat.ne_of_gt (blk_lt (zk BK109.out)) : gb118 ≠ gb109)); replace BK109 := zM (blk_below (zk BK109.out) hb); clear hb hbox hg; have hnb18 := NB118_109.out; have hnc18 := NB109_118.out; have hcz19_0 : w17.cell? ⟨gb118, 0, none⟩ = some (.int .i64 0) := (zX BK118.out 0).trans rfl; have hcz19_1 : w17.cell? ⟨gb118, 1, none⟩ = some (.slice none 0 0) := (zX BK118.out 1).trans rfl; have hcz19_2 : w17.cell? ⟨gb118, 2, none⟩ = some (.slice none 0 0) := (zX BK118.out 2).trans rfl; have hfz19_0 := zY BK118.out 0; have hfz19_1 := zY BK118.out 1; have hfz19_2 := zY BK118.out 2; obtain ⟨Ao20, co20, eo20⟩ := Kd.R_slice HO113.out; subst eo20; obtain ⟨Ao21, co21, eo21⟩ := Kd.R_slice HO116.out; subst eo21) | ((with_reducible refine gate_callee (f := 18) rfl ?_); refine goesL_ (some 20) rfl rfl Tryd.func18 (by kernel_rfl) rfl #[.agg #[.int .i64 t110, .slice Ao20 t111.length co20, .slice Ao21 t114.length co21]] rfl zl ?_; (with_reducible refine (rule_Print.calls k t110 _ _ t111 _ _ t114 t119 t120 _ ?side1 ?side2 ?side3 ?side4 A3.out).mono ?_); (case side1 => refine (Kd.R_reads' (e := 33) (base := w.heap.size) (ok := fun k_ => ((some k_ ≠ (.slice Ao21 t114.length co21 : Value).ownBlock ∧ some k_ ≠ (.slice Ao14 t102.length co14 : Value).ownBlock) ∧ some k_ ≠ (.slice Ao15 t105.length co15 : Value).ownBlock)) (n := t111.length) (c := co20) ?_).2.2; exact (by (with_reducible repeat (first | apply Kd.R_alloc | apply Kd.R_drewN | apply Kd.R_drew)); exact (Kd.R_mono (Kd.R_far (p := ⟨gb118, 2, none⟩) (Kd.R_far (p := ⟨gb118, 1, none⟩) (Kd.R_far (p := ⟨gb118, 0, none⟩) (Kd.R_types HO113.out BK118.out (by decide)) (fun _ hk => hk.2) (.int .i64 t110)) (fun _ hk => hk.2) (.slice Ao20 t111.length co20)) (fun _ hk => hk.2) (.slice Ao21 t114.length co21)) (fun _ h_ => h_.1)))); (case side2 => exact (Kd.R_reads' HO113.out).2.1); (case side3 => refine (Kd.R_reads' (e := 33) (base := w.heap.size) (ok := fun k_ => ((some k_ ≠ (.slice Ao20 t111.length co20 : Value).ownBlock ∧ some k_ ≠ (.slice Ao14 t102.length co14 : Value).ownBlock) ∧ some k_ ≠ (.slice Ao15 t105.length co15 : Value).ownBlock)) (n := t114.length) (c := co21) ?_).2.2; exact (by (with_reducible repeat (first | apply Kd.R_alloc | apply Kd.R_drewN | apply Kd.R_drew)); exact (Kd.R_mono (Kd.R_far (p := ⟨gb118, 2, none⟩) (Kd.R_far (p := ⟨gb118, 1, none⟩) (Kd.R_far (p := ⟨gb118, 0, none⟩) (Kd.R_types HO116.out BK118.out (by decide)) (fun _ hk => hk.2) (.int .i64 t110)) (fun _ hk => hk.2) (.slice Ao20 t111.length co20)) (fun _ hk => hk.2) (.slice Ao21 t114.length co21)) (fun _ h_ => h_.1)))); (case side4 => exact (Kd.R_reads' HO116.out).2.1); rintro e w22 ⟨rfl, hb⟩; refine ⟨_, rfl, ?_⟩; replace HO104 := zM (Kd.R_below (by (with_reducible repeat (first | apply Kd.R_alloc | apply Kd.R_drewN | apply Kd.R_drew)); exact (Kd.R_mono (Kd.R_far (p := ⟨gb118, 2, none⟩) (Kd.R_far (p := ⟨gb118, 1, none⟩) (Kd.R_far (p := ⟨gb118, 0, none⟩) (Kd.R_types HO104.out BK118.out (by decide)) (fun _ hk => hk.2) (.int .i64 t110)) (fun _ hk => hk.2) (.slice Ao20 t111.length co20)) (fun _ hk => hk.2) (.slice Ao21 t114.length co21)) (fun _ h_ => h_.1))) hb); replace HO107 := zM (Kd.R_below (by (with_reducible repeat (first | apply Kd.R_alloc | apply Kd.R_drewN | apply Kd.R_drew)); exact (Kd.R_mono (Kd.R_far (p := ⟨gb118, 2, none⟩) (Kd.R_far (p := ⟨gb118, 1, none⟩) (Kd.R_far (p := ⟨gb118, 0, none⟩) (Kd.R_types HO107.out BK118.out (by decide)) (fun _ hk => hk.2) (.int .i64 t110)) (fun _ hk => hk.2) (.slice Ao20 t111.length co20)) (fun _ hk => hk.2) (.slice Ao21 t114.length co21)) (fun _ h_ => h_.1))) hb); replace HO113 := zM (Kd.R_below (by (with_reducible repeat (first | apply Kd.R_alloc | apply Kd.R_drewN | apply Kd.R_drew)); exact (Kd.R_mono (Kd.R_far (p := ⟨gb118, 2, none⟩) (Kd.R_far (p := ⟨gb118, 1, none⟩) (Kd.R_far (p := ⟨gb118, 0, none⟩) (Kd.R_types HO113.out BK118.out (by decide)) (fun _ hk => hk.2) (.int .i64 t110)) (fun _ hk => hk.2) (.slice Ao20 t111.length co20)) (fun _ hk => hk.2) (.slice Ao21 t114.length co21)) (fun _ h_ => h_.1))) hb); replace HO116 := zM (Kd.R_below (by (with_reducible repeat (first | apply Kd.R_alloc | apply Kd.R_drewN | apply Kd.R_drew)); exact (Kd.R_mono (Kd.R_far (p := ⟨gb118, 2, none⟩) (Kd.R_far (p := ⟨gb118, 1, none⟩) (Kd.R_far (p := ⟨gb118, 0, none⟩) (Kd.R_types HO116.out BK118.out (by decide)) (fun _ hk => hk.2) (.int .i64 t110)) (fun _ hk => hk.2) (.slice Ao20 t111.length co20)) (fun _ hk => hk.2) (.slice Ao21 t114.length co21)) (fun _ h_ => h_.1))) hb); replace BK109 := zM (blk_below (g := gb109) (o := .cells #[.int .i64 t101, .slice Ao14 t102.length co14, .slice Ao15 t105.length co15] 25 (0, 0)) (by refine zk ?_; refine blk_far ?_ NB109_118.out _; refine zk ?_; refine blk_far ?_ NB109_118.out _; refine zk ?_; refine blk_far ?_ NB109_118.out _; refine zk ?_; exact BK109.out) hb); replace BK118 := zM (blk_below (g := gb118) (o := .cells #[.int .i64 t110, .slice Ao20 t111.length co20, .slice Ao21 t114.length co21] 25 (0, 0)) (by refine zk ?_; refine blk_put (cs := #[.int .i64 t110, .slice Ao20 t111.length co20, .slice none 0 0]) ?_ 2 _ rfl; refine zk ?_; refine blk_put (cs := #[.int .i64 t110, .slice none 0 0, .slice none 0 0]) ?_ 1 _ rfl; refine zk ?_; refine blk_put (cs := #[.int .i64 0, .slice none 0 0, .slice none 0 0]) ?_ 0 _ rfl; refine zk ?_; exact BK118.out) hb); replace HB := zM (below_step zb hb); (try clear hb)) | ((with_reducible refine gate_callee (f := 15) rfl ?_); refine goesL_ (some 24) rfl rfl Tryd.func15 (by kernel_rfl) rfl #[.string (⟨#[88]⟩ : ByteArray), .string (⟨#[97]⟩ : ByteArray)] rfl zl ?_; (with_reducible refine (rule_Parse.calls k (⟨#[88]⟩ : ByteArray) (⟨#[97]⟩ : ByteArray) t121 t122 t125 t128 _ A4.out).mono ?_); rintro e w23 ⟨v123, v126, rfl, ho0, ho1, hb⟩; refine ⟨_, rfl, ?_⟩; have HO124 := zM (Kd.R_lower (Kd.R_new' (Kd.R_new' (Kd.R_new' (Kd.R_new' ho0 (Kd.R_lt (zr HO104.out))) (Kd.R_lt (zr HO107.out))) (Kd.R_lt (zr HO113.out))) (Kd.R_lt (zr HO116.out))) (below_size zb)); have HO127 := zM (Kd.R_lower (Kd.R_new' (Kd.R_new' (Kd.R_new' (Kd.R_new' ho1 (Kd.R_lt (zr HO104.out))) (Kd.R_lt (zr HO107.out))) (Kd.R_lt (zr HO113.out))) (Kd.R_lt (zr HO116.out))) (below_size zb)); replace HO104 := zM (Kd.R_mono (Kd.R_told (Kd.R_told (Kd.R_old (zr HO104.out) hb) (Kd.R_base ho0)) (Kd.R_base ho1)) (fun _ h_ => h_.1)); replace HO107 := zM (Kd.R_mono (Kd.R_told (Kd.R_told (Kd.R_old (zr HO107.out) hb) (Kd.R_base ho0)) (Kd.R_base ho1)) (fun _ h_ => h_.1)); replace HO113 := zM (Kd.R_mono (Kd.R_told (Kd.R_told (Kd.R_old (zr HO113.out) hb) (Kd.R_base ho0)) (Kd.R_base ho1)) (fun _ h_ => h_.1)); replace HO116 := zM (Kd.R_mono (Kd.R_told (Kd.R_told (Kd.R_old (zr HO116.out) hb) (Kd.R_base ho0)) (Kd.R_base ho1)) (fun _ h_ => h_.1)); replace BK109 := zM (blk_below (zk BK109.out) hb); replace BK118 := zM (blk_below (zk BK118.out) hb); replace HB := zM (below_step zb hb); (try clear hb); (try clear ho0); (try clear ho1)) | ((with_reducible refine gate_dst (N := 7) rfl ?_); refine box_event ?hg (N := 7) ?hd (cs := #[.int .i64 0, .slice none 0 0, .slice none 0 0]) (t := 25) ?hr ?_; (case hd => rfl); (case hg => rfl); (case hr => first | (go_simp; done) | (go_simp; rfl)); intro gb129 hg w24 hbox hb; replace HO104 := zM (Kd.R_below (zr HO104.out) hb); replace HO107 := zM (Kd.R_below (zr HO107.out) hb); replace HO113 := zM (Kd.R_below (zr HO113.out) hb); replace HO116 := zM (Kd.R_below (zr HO116.out) hb); replace HO124 := zM (Kd.R_below (zr HO124.out) hb); replace HO127 := zM (Kd.R_below (zr HO127.out) hb); have BK129 := zM (hbox); have GW129 := zM (zh hg : w.heap.size ≤ gb129); have GE129 := zM (zh hg : w.heap.size ≤ gb129); replace HB := zM (below_step zb hb); have NB109_129 := zM ((by rw [hg]; exact Nat.ne_of_lt (blk_lt (zk BK109.out)) : gb109 ≠ gb129)); have NB129_109 := zM ((by rw [hg]; exact Nat.ne_of_gt (blk_lt (zk BK109.out)) : gb129 ≠ gb109)); replace BK109 := zM (blk_below (zk BK109.out) hb); have NB118_129 := zM ((by rw [hg]; exact Nat.ne_of_lt (blk_lt (zk BK118.out)) : gb118 ≠ gb129)); have NB129_118 := zM ((by rw [hg]; exact Nat.ne_of_gt (blk_lt (zk BK118.out)) : gb129 ≠ gb118)); replace BK118 := zM (blk_below (zk BK118.out) hb); clear hb hbox hg; have hnb25 := NB129_109.out; have hnc25 := NB109_129.out; have hnb26 := NB129_118.out; have hnc26 := NB118_129.out; have hcz27_0 : w24.cell? ⟨gb129, 0, none⟩ = some (.int .i64 0) := (zX BK129.out 0).trans rfl; have hcz27_1 : w24.cell? ⟨gb129, 1, none⟩ = some (.slice none 0 0) := (zX BK129.out 1).trans rfl; have hcz27_2 : w24.cell? ⟨gb129, 2, none⟩ = some (.slice none 0 0) := (zX BK129.out 2).trans rfl; have hfz27_0 := zY BK129.out 0; have hfz27_1 := zY BK129.out 1; have hfz27_2 := zY BK129.out 2; obtain ⟨Ao28, co28, eo28⟩ := Kd.R_slice HO124.out; subst eo28; obtain ⟨Ao29, co29, eo29⟩ := Kd.R_slice HO127.out; subst eo29; have hcz30_0 : w24.cell? ⟨gb109, 0, none⟩ = some (.int .i64 t101) := (zX BK109.out 0).trans rfl; have hcz30_1 : w24.cell? ⟨gb109, 1, none⟩ = some (.slice Ao14 t102.length co14) := (zX BK109.out 1).trans rfl; have hcz30_2 : w24.cell? ⟨gb109, 2, none⟩ = some (.slice Ao15 t105.length co15) := (zX BK109.out 2).trans rfl; have hfz30_0 := zY BK109.out 0; have hfz30_1 := zY BK109.out 1; have hfz30_2 := zY BK109.out 2) | (go_at_call 14; (with_reducible refine (rule_Head.calls k t101 _ _ t102 _ _ t105 t130 _ ?side1 ?side2 ?side3 ?side4 A9.out).mono ?_); (case side1 => refine (Kd.R_reads' (e := 33) (base := w.heap.size) (ok := fun k_ => ((((some k_ ≠ (.slice Ao15 t105.length co15 : Value).ownBlock ∧ some k_ ≠ (.slice Ao20 t111.length co20 : Value).ownBlock) ∧ some k_ ≠ (.slice Ao21 t114.length co21 : Value).ownBlock) ∧ some k_ ≠ (.slice Ao28 t122.length co28 : Value).ownBlock) ∧ some k_ ≠ (.slice Ao29 t125.length co29 : Value).ownBlock)) (n := t102.length) (c := co14) ?_).2.2; exact (by (with_reducible repeat (first | apply Kd.R_alloc | apply Kd.R_drewN | apply Kd.R_drew)); exact (Kd.R_mono (Kd.R_far (p := ⟨gb129, 2, none⟩) (Kd.R_far (p := ⟨gb129, 1, none⟩) (Kd.R_far (p := ⟨gb129, 0, none⟩) (Kd.R_types HO104.out BK129.out (by decide)) (fun _ hk => hk.2) (.int .i64 t121)) (fun _ hk => hk.2) (.slice Ao28 t122.length co28)) (fun _ hk => hk.2) (.slice Ao29 t125.length co29)) (fun _ h_ => h_.1)))); (case side2 => exact (Kd.R_reads' HO104.out).2.1); (case side3 => refine (Kd.R_reads' (e := 33) (base := w.heap.size) (ok := fun k_ => ((((some k_ ≠ (.slice Ao14 t102.length co14 : Value).ownBlock ∧ some k_ ≠ (.slice Ao20 t111.length co20 : Value).ownBlock) ∧ some k_ ≠ (.slice Ao21 t114.length co21 : Value).ownBlock) ∧ some k_ ≠ (.slice Ao28 t122.length co28 : Value).ownBlock) ∧ some k_ ≠ (.slice Ao29 t125.length co29 : Value).ownBlock)) (n := t105.length) (c := co15) ?_).2.2; exact (by (with_reducible repeat (first | apply Kd.R_alloc | apply Kd.R_drewN | apply Kd.R_drew)); exact (Kd.R_mono (Kd.R_far (p := ⟨gb129, 2, none⟩) (Kd.R_far (p := ⟨gb129, 1, none⟩) (Kd.R_far (p := ⟨gb129, 0, none⟩) (Kd.R_types HO107.out BK129.out (by decide)) (fun _ hk => hk.2) (.int .i64 t121)) (fun _ hk => hk.2) (.slice Ao28 t122.length co28)) (fun _ hk => hk.2) (.slice Ao29 t125.length co29)) (fun _ h_ => h_.1)))); (case side4 => exact (Kd.R_reads' HO107.out).2.1); rintro e w31 ⟨rfl, hb⟩; replace HO104 := zM (Kd.R_below (by (with_reducible repeat (first | apply Kd.R_alloc | apply Kd.R_drewN | apply Kd.R_drew)); exact (Kd.R_mono (Kd.R_far (p := ⟨gb129, 2, none⟩) (Kd.R_far (p := ⟨gb129, 1, none⟩) (Kd.R_far (p := ⟨gb129, 0, none⟩) (Kd.R_types HO104.out BK129.out (by decide)) (fun _ hk => hk.2) (.int .i64 t121)) (fun _ hk => hk.2) (.slice Ao28 t122.length co28)) (fun _ hk => hk.2) (.slice Ao29 t125.length co29)) (fun _ h_ => h_.1))) hb); replace HO107 := zM (Kd.R_below (by (with_reducible repeat (first | apply Kd.R_alloc | apply Kd.R_drewN | apply Kd.R_drew)); exact (Kd.R_mono (Kd.R_far (p := ⟨gb129, 2, none⟩) (Kd.R_far (p := ⟨gb129, 1, none⟩) (Kd.R_far (p := ⟨gb129, 0, none⟩) (Kd.R_types HO107.out BK129.out (by decide)) (fun _ hk => hk.2) (.int .i64 t121)) (fun _ hk => hk.2) (.slice Ao28 t122.length co28)) (fun _ hk => hk.2) (.slice Ao29 t125.length co29)) (fun _ h_ => h_.1))) hb); replace HO113 := zM (Kd.R_below (by (with_reducible repeat (first | apply Kd.R_alloc | apply Kd.R_drewN | apply Kd.R_drew)); exact (Kd.R_mono (Kd.R_far (p := ⟨gb129, 2, none⟩) (Kd.R_far (p := ⟨gb129, 1, none⟩) (Kd.R_far (p := ⟨gb129, 0, none⟩) (Kd.R_types HO113.out BK129.out (by decide)) (fun _ hk => hk.2) (.int .i64 t121)) (fun _ hk => hk.2) (.slice Ao28 t122.length co28)) (fun _ hk => hk.2) (.slice Ao29 t125.length co29)) (fun _ h_ => h_.1))) hb); replace HO116 := zM (Kd.R_below (by (with_reducible repeat (first | apply Kd.R_alloc | apply Kd.R_drewN | apply Kd.R_drew)); exact (Kd.R_mono (Kd.R_far (p := ⟨gb129, 2, none⟩) (Kd.R_far (p := ⟨gb129, 1, none⟩) (Kd.R_far (p := ⟨gb129, 0, none⟩) (Kd.R_types HO116.out BK129.out (by decide)) (fun _ hk => hk.2) (.int .i64 t121)) (fun _ hk => hk.2) (.slice Ao28 t122.length co28)) (fun _ hk => hk.2) (.slice Ao29 t125.length co29)) (fun _ h_ => h_.1))) hb); replace HO124 := zM (Kd.R_below (by (with_reducible repeat (first | apply Kd.R_alloc | apply Kd.R_drewN | apply Kd.R_drew)); exact (Kd.R_mono (Kd.R_far (p := ⟨gb129, 2, none⟩) (Kd.R_far (p := ⟨gb129, 1, none⟩) (Kd.R_far (p := ⟨gb129, 0, none⟩) (Kd.R_types HO124.out BK129.out (by decide)) (fun _ hk => hk.2) (.int .i64 t121)) (fun _ hk => hk.2) (.slice Ao28 t122.length co28)) (fun _ hk => hk.2) (.slice Ao29 t125.length co29)) (fun _ h_ => h_.1))) hb); replace HO127 := zM (Kd.R_below (by (with_reducible repeat (first | apply Kd.R_alloc | apply Kd.R_drewN | apply Kd.R_drew)); exact (Kd.R_mono (Kd.R_far (p := ⟨gb129, 2, none⟩) (Kd.R_far (p := ⟨gb129, 1, none⟩) (Kd.R_far (p := ⟨gb129, 0, none⟩) (Kd.R_types HO127.out BK129.out (by decide)) (fun _ hk => hk.2) (.int .i64 t121)) (fun _ hk => hk.2) (.slice Ao28 t122.length co28)) (fun _ hk => hk.2) (.slice Ao29 t125.length co29)) (fun _ h_ => h_.1))) hb); replace BK109 := zM (blk_below (g := gb109) (o := .cells #[.int .i64 t101, .slice Ao14 t102.length co14, .slice Ao15 t105.length co15] 25 (0, 0)) (by refine zk ?_; refine blk_far ?_ NB109_129.out _; refine zk ?_; refine blk_far ?_ NB109_129.out _; refine zk ?_; refine blk_far ?_ NB109_129.out _; refine zk ?_; exact BK109.out) hb); replace BK118 := zM (blk_below (g := gb118) (o := .cells #[.int .i64 t110, .slice Ao20 t111.length co20, .slice Ao21 t114.length co21] 25 (0, 0)) (by refine zk ?_; refine blk_far ?_ NB118_129.out _; refine zk ?_; refine blk_far ?_ NB118_129.out _; refine zk ?_; refine blk_far ?_ NB118_129.out _; refine zk ?_; exact BK118.out) hb); replace BK129 := zM (blk_below (g := gb129) (o := .cells #[.int .i64 t121, .slice Ao28 t122.length co28, .slice Ao29 t125.length co29] 25 (0, 0)) (by refine zk ?_; refine blk_put (cs := #[.int .i64 t121, .slice Ao28 t122.length co28, .slice none 0 0]) ?_ 2 _ rfl; refine zk ?_; refine blk_put (cs := #[.int .i64 t121, .slice none 0 0, .slice none 0 0]) ?_ 1 _ rfl; refine zk ?_; refine blk_put (cs := #[.int .i64 0, .slice none 0 0, .slice none 0 0]) ?_ 0 _ rfl; refine zk ?_; exact BK129.out) hb); replace HB := zM (below_step zb hb); (try clear hb)))
      go_ret
      exact ⟨zw, zb⟩
     ·
      rw [if_neg c10] at H
      have c10b0 : (t130.toList == ([103] : List UInt8)) = false := zE c10
      have c10b1 : (t130.toList != ([103] : List UInt8)) = true := zF c10
      exact absurd ((zS H).trans HRT.out) (by decide)
    ·
     rw [if_neg c8] at H
     have c8b0 : (t119.toList == ([103, 40, 88, 48, 44, 88, 49, 41, 32, 45, 62, 32, 88, 49] : List UInt8)) = false := zE c8
     have c8b1 : (t119.toList != ([103, 40, 88, 48, 44, 88, 49, 41, 32, 45, 62, 32, 88, 49] : List UInt8)) = true := zF c8
     exact absurd ((zS H).trans HRT.out) (by decide)
   ·
    rw [if_neg c7] at H
    have c7b0 : (t120 == 0) = false := zE c7
    have c7b1 : (t120 != 0) = true := zF c7
    exact absurd ((zS H).trans HRT.out) (by decide)
  ·
   rw [if_neg c6] at H
   have c6b0 : (t117 == 0) = false := zE c6
   have c6b1 : (t117 != 0) = true := zF c6
   exact absurd ((zS H).trans HRT.out) (by decide)
 ·
  rw [if_neg c5] at H
  have c5b0 : (t108 == 0) = false := zE c5
  have c5b1 : (t108 != 0) = true := zF c5
  exact absurd ((zS H).trans HRT.out) (by decide)


-- ==== PF23

def aumbryref04_Copy.f (l0 : List (S33)) : Option ((List (S33))) := if ([] : List (S33)).length + l0.length < 5864062014805 then (some (([] : List (S33)) ++ l0)) else (none)
theorem aumbryref04_Copy.calls (A0 : Option Addr) (c0 : Nat) (l0 : List (S33)) (r : List (S33)) (w : World) (hr0 : Kd.C k33 w A0 l0.length l0) (hc0 : l0.length ≤ c0) (h : aumbryref04_Copy.f l0 = some r) :
 Calls Tryd.prog 23 #[.slice A0 l0.length c0] w fun e w' => ∃ v0_ : Value, e = .returned (v0_) ∧ Kd.R k33 33 w' w.heap.size (fun _ => True) v0_ r ∧ Below w.heap.size w w' := by
 have HR0 := zM hr0
 have HC0 := zM hc0
 clear hr0 hc0
 have HB := zM (Below.refl w.heap.size w)
 have H : (if ([] : List (S33)).length + l0.length < 5864062014805 then (some (([] : List (S33)) ++ l0)) else (none)) = some r := h
 clear h
 by_cases c2 : ([] : List (S33)).length + l0.length < 5864062014805
 ·
  rw [if_pos c2] at H
  have LMc2 := zM c2
  clear c2
  obtain ⟨y101, hy101⟩ : ∃ y_ : List (S33), y_ = (([] : List (S33)) ++ l0) := ⟨_, rfl⟩
  replace H : (some y101) = some r := by first | (rw [hy101]; with_reducible exact H) | (have H2_ := (Option.bind_some _ _).symm.trans H; rw [hy101]; with_reducible exact H2_) | (have H2_ := (Option.bind_some _ _).symm.trans H; with_reducible exact H2_) | with_reducible exact H | (rw [hy101]; exact H) | exact H
  have Ny101 := zM hy101
  clear hy101
  obtain rfl := zS H
  go_enter Tryd.func23, Tryd.ntmps23
  go_wp2_with (first | ((with_reducible refine gate_builtin (b := .append) (xs := #[.tmp 4, .tmp 5]) rfl ?_); at_builtin; refine Kd.R_append_rows k33 (w0 := w) w.heap.size rfl (.tmp 4) (.tmp 5) 23 33 (.agg #[(.string ⟨#[]⟩), (.int .i64 0)]) 24 rfl Tryd.underlying23 info33 rfl (by decide) (by omega) (.slice none 0 0) ([] : List (S33)) l0 _ _ _ (fun _ => True) (fun _ => False) rfl rfl ?aO ?aR (fun _ _ h => h) (fun _ h => h.elim) ?aF ?aB ?aS ?aL ?_; (case aR => exact Kd.C_below HR0.out zg); (case aB => exact zb); (case aF => exact (fun _ _ => trivial)); (case aO => exact ((Kd.R_nil _ _ _ _ (fun _ => True)))); (case aS => exact (below_size zb)); (case aL => have := LMc2.out; omega); intro v102 w3 ho hb hg hat; rw [← Ny101.out] at ho; replace HB := zM (hb); have HO103 := zM (ho); clear ho hb hg hat))
  go_ret
  exact ⟨_, zw, zr HO103.out, zb⟩
 ·
  rw [if_neg c2] at H
  exact absurd H (by simp)


-- ==== PF12

def aumbryref06_Copy.f (a0_0 : Int) (l0_1 : List (S33)) (l0_2 : List (S33)) : Option (Int × (List (S33)) × (List (S33))) := (aumbryref04_Copy.f l0_1).bind fun t103 => ((aumbryref04_Copy.f l0_2).bind fun t106 => (some (a0_0, t103, t106)))
def aumbryref06_Copy.T1 : Bool × List (List Nat × List Nat) := (true, [([], []), ([0], [0]), ([], []), ([2], [2]), ([3], [3]), ([], []), ([5], [5]), ([6, 4], [6]), ([1, 4, 7], [1, 4, 7]), ([8, 7, 0, 1, 2, 3, 4, 5, 6, 7, 8], [8])])
def aumbryref06_Copy.B1 : List Nat := [0, 1, 0, 4, 12, 0, 32, 124, 255, 511]
theorem aumbryref06_Copy.tab1 : rtab .any (opsOf Tryd.f12 1) = aumbryref06_Copy.T1 := by kernel_rfl
theorem aumbryref06_Copy.bits1 : waitsOk aumbryref06_Copy.T1.2 aumbryref06_Copy.B1 = true := by kernel_rfl
theorem aumbryref06_Copy.calls (a0_0 : Int) (A0_1 : Option Addr) (c0_1 : Nat) (l0_1 : List (S33)) (A0_2 : Option Addr) (c0_2 : Nat) (l0_2 : List (S33)) (r1 : Int) (r2 : List (S33)) (r3 : List (S33)) (w : World) (hr0_1 : Kd.C k33 w A0_1 l0_1.length l0_1) (hc0_1 : l0_1.length ≤ c0_1) (hr0_2 : Kd.C k33 w A0_2 l0_2.length l0_2) (hc0_2 : l0_2.length ≤ c0_2) (h : aumbryref06_Copy.f a0_0 l0_1 l0_2 = some (r1, r2, r3)) :
 Calls Tryd.prog 12 #[.agg #[.int .i64 a0_0, .slice A0_1 l0_1.length c0_1, .slice A0_2 l0_2.length c0_2]] w fun e w' => ∃ v1_ v2_ : Value, e = .returned (.agg #[.int .i64 r1, v1_, v2_]) ∧ Kd.R k33 33 w' w.heap.size (fun k_ => some k_ ≠ (v2_ : Value).ownBlock) v1_ r2 ∧ Kd.R k33 33 w' w.heap.size (fun k_ => some k_ ≠ (v1_ : Value).ownBlock) v2_ r3 ∧ Below w.heap.size w w' := by
 have hu25 := Tryd.underlying25
 have HR0_1 := zM hr0_1
 have HC0_1 := zM hc0_1
 clear hr0_1 hc0_1
 have HR0_2 := zM hr0_2
 have HC0_2 := zM hc0_2
 clear hr0_2 hc0_2
 have HB := zM (Below.refl w.heap.size w)
 have H : ((aumbryref04_Copy.f l0_1).bind fun t103 => ((aumbryref04_Copy.f l0_2).bind fun t106 => (some (a0_0, t103, t106)))) = some (r1, r2, r3) := h
 clear h
 replace H := zB H
 obtain ⟨t103, A20, H⟩ := H
 try dsimp only at H
 have A2 := zM A20
 clear A20
 replace H := zB H
 obtain ⟨t106, A30, H⟩ := H
 try dsimp only at H
 have A3 := zM A30
 clear A30
 simp only [Option.some.injEq, Prod.mk.injEq] at H
 obtain ⟨rfl, rfl, rfl⟩ := H
 go_enter Tryd.func12, Tryd.ntmps12
 try go_wp2_with (first | ((with_reducible refine gate_dst (N := 1) rfl ?_); refine box_event ?hg (N := 1) ?hd (cs := #[.int .i64 a0_0, .slice A0_1 l0_1.length c0_1, .slice A0_2 l0_2.length c0_2]) (t := 25) ?hr ?_; (case hd => rfl); (case hg => rfl); (case hr => first | (go_simp; done) | (go_simp; rfl)); intro gb101 hg w4 hbox hb; have BK101 := zM (hbox); have GW101 := zM (zh hg : w.heap.size ≤ gb101); have GE101 := zM (zh hg : w.heap.size ≤ gb101); replace HB := zM (below_step zb hb); clear hb hbox hg) | ((with_reducible refine gate_dst (N := 2) rfl ?_); refine box_event ?hg (N := 2) ?hd (cs := #[.int .i64 0, .slice none 0 0, .slice none 0 0]) (t := 25) ?hr ?_; (case hd => rfl); (case hg => rfl); (case hr => first | (go_simp; done) | (go_simp; rfl)); intro gb102 hg w5 hbox hb; have BK102 := zM (hbox); have GW102 := zM (zh hg : w.heap.size ≤ gb102); have GE102 := zM (zh hg : w.heap.size ≤ gb102); replace HB := zM (below_step zb hb); have NB101_102 := zM ((by rw [hg]; exact Nat.ne_of_lt (blk_lt (zk BK101.out)) : gb101 ≠ gb102)); have NB102_101 := zM ((by rw [hg]; exact Nat.ne_of_gt (blk_lt (zk BK101.out)) : gb102 ≠ gb101)); replace BK101 := zM (blk_below (zk BK101.out) hb); clear hb hbox hg))
 have n0_ := zM (blk_drew BK101.out)
 have n1_ := zM (blk_drew BK102.out)
 have n2_ := zM (zD HB.out)
 clear BK101
 clear BK102
 clear HB
 have BK101 := n0_
 have BK102 := n1_
 have HB := n2_
 clear n0_ n1_ n2_
 refine start_ (n := 10) (S := fun w' => w'.cell? ⟨gb101, 0, none⟩ = some (.int .i64 a0_0) ∧ w'.cell? ⟨gb101, 1, none⟩ = some (.slice A0_1 l0_1.length c0_1) ∧ w'.cell? ⟨gb101, 2, none⟩ = some (.slice A0_2 l0_2.length c0_2)) (ds := []) #[false, false, false, false, false, false, false, false, false, false] (by kernel_rfl) rfl rfl ⟨(zX BK101.out 0).trans rfl, (zX BK101.out 1).trans rfl, (zX BK101.out 2).trans rfl⟩ (fun hHeld => ?_); refine with_tabW aumbryref06_Copy.tab1 aumbryref06_Copy.bits1 (fun HT_ HW_ => ?_)
 generalize w5.drew = w6 at BK101 BK102 HB hHeld ⊢
 refine pure_ (i := 0) (N := some 3) (v := ?_) (a' := ?_) #[true, false, false, false, false, false, false, false, false, false] rfl rfl (any_of HT_.out (by kernel_rfl)) (fun _ _ _ h => h) (Or.inl ⟨by rfl, ?_⟩) ?_ ?_
 rotate_left
 ·
  intro w'
  go_simp
  with_reducible rfl
 rotate_left
 ·
  simp only [Act.put, zp1, zp2, zp3, i64_w, i32_w]
  rfl
 refine pure_ (i := 2) (N := some 5) (v := ?_) (a' := ?_) #[true, false, true, false, false, false, false, false, false, false] rfl rfl (any_of HT_.out (by kernel_rfl)) (fun _ _ _ h => h) (Or.inl ⟨by rfl, ?_⟩) ?_ ?_
 rotate_left
 ·
  intro w'
  go_simp
  with_reducible rfl
 rotate_left
 ·
  simp only [Act.put, zp1, zp2, zp3, i64_w, i32_w]
  rfl
 refine pure_ (i := 5) (N := some 8) (v := ?_) (a' := ?_) #[true, false, true, false, false, true, false, false, false, false] rfl rfl (any_of HT_.out (by kernel_rfl)) (fun _ _ _ h => h) (Or.inl ⟨by rfl, ?_⟩) ?_ ?_
 rotate_left
 ·
  intro w'
  go_simp
  with_reducible rfl
 rotate_left
 ·
  simp only [Act.put, zp1, zp2, zp3, i64_w, i32_w]
  rfl
 refine take_ (i := 1) (N := some 4) (v := ?_) (a' := ?_) #[true, true, true, false, false, true, false, false, false, false] rfl rfl (take_ofW HT_.out HW_.out (by kernel_rfl)) (fun _ _ _ h => h) (Or.inl ⟨by rfl, ?_⟩) hHeld ?_ ?_
 rotate_left
 ·
  rintro w' ⟨s0, s1, s2⟩
  go_simp
  with_reducible rfl
 rotate_left
 ·
  simp only [Act.put, zp1, zp2, zp3, i64_w, i32_w]
  rfl
 refine take_ (i := 3) (N := some 6) (v := ?_) (a' := ?_) #[true, true, true, true, false, true, false, false, false, false] rfl rfl (take_ofW HT_.out HW_.out (by kernel_rfl)) (fun _ _ _ h => h) (Or.inl ⟨by rfl, ?_⟩) hHeld ?_ ?_
 rotate_left
 ·
  rintro w' ⟨s0, s1, s2⟩
  go_simp
  with_reducible rfl
 rotate_left
 ·
  simp only [Act.put, zp1, zp2, zp3, i64_w, i32_w]
  rfl
 refine take_ (i := 6) (N := some 9) (v := ?_) (a' := ?_) #[true, true, true, true, false, true, true, false, false, false] rfl rfl (take_ofW HT_.out HW_.out (by kernel_rfl)) (fun _ _ _ h => h) (Or.inl ⟨by rfl, ?_⟩) hHeld ?_ ?_
 rotate_left
 ·
  rintro w' ⟨s0, s1, s2⟩
  go_simp
  with_reducible rfl
 rotate_left
 ·
  simp only [Act.put, zp1, zp2, zp3, i64_w, i32_w]
  rfl
 refine one_ (i := 4) (N := some 7) #[true, true, true, true, true, true, true, false, false, false] rfl rfl (one_of HT_.out (by kernel_rfl)) (by decide) (fun K hK => ?_)
 refine goes_ Tryd.func23 (by kernel_rfl) rfl #[.slice A0_1 l0_1.length c0_1] (by rfl) rfl rfl zl ?_
 with_reducible refine (aumbryref04_Copy.calls _ _ l0_1 t103 _ ?side1 ?side2 A2.out).mono ?_
 (case side1 => exact Kd.C_below HR0_1.out zb)
 (case side2 => exact HC0_1.out)
 rintro e w7 ⟨v104, rfl, ho0, hb⟩
 refine ⟨_, rfl, ?_⟩
 have n0_ := zM (Kd.R_lower ho0 (below_size zb))
 have n1_ := zM (blk_below (zk BK101.out) hb)
 have n2_ := zM (blk_below (zk BK102.out) hb)
 have n3_ := zM (below_step zb hb)
 clear BK101
 clear BK102
 clear HB
 have HO105 := n0_
 have BK101 := n1_
 have BK102 := n2_
 have HB := n3_
 clear n0_ n1_ n2_ n3_
 (try clear hb)
 (try clear hb2)
 (try clear hk)
 (try clear hi)
 (try clear ho0)
 refine hK.out _ _ ⟨(zX BK101.out 0).trans rfl, (zX BK101.out 1).trans rfl, (zX BK101.out 2).trans rfl⟩ (fun hHeld => ?_)
 clear hK K
 refine norm_ (a' := ?_) ?_ ?_
 rotate_left
 ·
  show Act.put _ (some 7) _ = _
  simp only [Act.put, zp1, zp2, zp3, i64_w, i32_w]
  rfl
 refine one_ (i := 7) (N := some 10) #[true, true, true, true, true, true, true, true, false, false] rfl rfl (one_of HT_.out (by kernel_rfl)) (by decide) (fun K hK => ?_)
 refine goes_ Tryd.func23 (by kernel_rfl) rfl #[.slice A0_2 l0_2.length c0_2] (by rfl) rfl rfl zl ?_
 with_reducible refine (aumbryref04_Copy.calls _ _ l0_2 t106 _ ?side1 ?side2 A3.out).mono ?_
 (case side1 => exact Kd.C_below HR0_2.out zb)
 (case side2 => exact HC0_2.out)
 rintro e w8 ⟨v107, rfl, ho0, hb⟩
 refine ⟨_, rfl, ?_⟩
 have n0_ := zM (Kd.R_elder' (zr HO105.out) (Kd.R_base ho0) hb)
 have n1_ := zM (Kd.R_lower (Kd.R_new' ho0 (Kd.R_lt (zr HO105.out))) (below_size zb))
 have n2_ := zM (blk_below (zk BK101.out) hb)
 have n3_ := zM (blk_below (zk BK102.out) hb)
 have n4_ := zM (below_step zb hb)
 clear HO105
 clear BK101
 clear BK102
 clear HB
 have HO105 := n0_
 have HO108 := n1_
 have BK101 := n2_
 have BK102 := n3_
 have HB := n4_
 clear n0_ n1_ n2_ n3_ n4_
 (try clear hb)
 (try clear hb2)
 (try clear hk)
 (try clear hi)
 (try clear ho0)
 obtain ⟨Ao9, co9, eo9⟩ := Kd.R_slice HO108.out
 (first | subst eo9 | (injection eo9 with f1_ f2_ f3_; have f4_ := f1_.symm; have f5_ := f3_.symm; clear f1_ f2_ f3_; subst f4_; subst f5_))
 obtain ⟨Ao10, co10, eo10⟩ := Kd.R_slice HO105.out
 (first | subst eo10 | (injection eo10 with f1_ f2_ f3_; have f4_ := f1_.symm; have f5_ := f3_.symm; clear f1_ f2_ f3_; subst f4_; subst f5_))
 refine hK.out _ _ ⟨(zX BK101.out 0).trans rfl, (zX BK101.out 1).trans rfl, (zX BK101.out 2).trans rfl⟩ (fun hHeld => ?_)
 clear hK K
 refine norm_ (a' := ?_) ?_ ?_
 rotate_left
 ·
  show Act.put _ (some 10) _ = _
  simp only [Act.put, zp1, zp2, zp3, i64_w, i32_w]
  rfl
 refine pure_ (i := 8) (N := some 11) (v := ?_) (a' := ?_) #[true, true, true, true, true, true, true, true, true, false] rfl rfl (any_of HT_.out (by kernel_rfl)) (fun _ _ _ h => h) (Or.inl ⟨by rfl, ?_⟩) ?_ ?_
 rotate_left
 ·
  intro w'
  go_simp
  with_reducible rfl
 rotate_left
 ·
  simp only [Act.put, zp1, zp2, zp3, i64_w, i32_w]
  rfl
 refine one_ (i := 9) (N := none) #[true, true, true, true, true, true, true, true, true, true] rfl rfl (one_of HT_.out (by kernel_rfl)) (by decide) (fun K hK => ?_)
 have hs11 : w8.cell? ⟨gb102, 0, none⟩ = some (.int .i64 0) := (zX BK102.out 0).trans rfl
 have hfs11 := zY BK102.out 0
 have hns11_0 := NB101_102.out
 have hms11_0 := NB102_101.out
 have hs12 : w8.cell? ⟨gb102, 1, none⟩ = some (.slice none 0 0) := (zX BK102.out 1).trans rfl
 have hfs12 := zY BK102.out 1
 have hns12_0 := NB101_102.out
 have hms12_0 := NB102_101.out
 have hs13 : w8.cell? ⟨gb102, 2, none⟩ = some (.slice none 0 0) := (zX BK102.out 2).trans rfl
 have hfs13 := zY BK102.out 2
 have hns13_0 := NB101_102.out
 have hms13_0 := NB102_101.out
 refine skip_ (w1 := ?_) (by rfl) rfl ?_ ?_
 rotate_left
 ·
  go_simp
  rfl
 refine hK.out _ _ ⟨((cell_far (p := ⟨gb102, _, none⟩) NB101_102.out _).trans (((cell_far (p := ⟨gb102, _, none⟩) NB101_102.out _).trans (((cell_far (p := ⟨gb102, _, none⟩) NB101_102.out _).trans (hHeld.1)))))), ((cell_far (p := ⟨gb102, _, none⟩) NB101_102.out _).trans (((cell_far (p := ⟨gb102, _, none⟩) NB101_102.out _).trans (((cell_far (p := ⟨gb102, _, none⟩) NB101_102.out _).trans (hHeld.2.1)))))), ((cell_far (p := ⟨gb102, _, none⟩) NB101_102.out _).trans (((cell_far (p := ⟨gb102, _, none⟩) NB101_102.out _).trans (((cell_far (p := ⟨gb102, _, none⟩) NB101_102.out _).trans (hHeld.2.2))))))⟩ (fun hHeld => ?_)
 clear hK K
 refine done_ (done_of HT_.out (by kernel_rfl)) ?_
 try go_wp2
 refine bodyPost_ret (results_cell_row rfl _ _ gb102 25 #[.int .i64 a0_0, .slice Ao10 t103.length co10, .slice Ao9 t106.length co9] (0, 0) _ rfl (by refine zk ?_; refine blk_put (cs := #[.int .i64 a0_0, .slice Ao10 t103.length co10, .slice none 0 0]) ?_ 2 _ rfl; refine zk ?_; refine blk_put (cs := #[.int .i64 a0_0, .slice none 0 0, .slice none 0 0]) ?_ 1 _ rfl; refine zk ?_; refine blk_put (cs := #[.int .i64 0, .slice none 0 0, .slice none 0 0]) ?_ 0 _ rfl; refine zk ?_; exact BK102.out) Tryd.underlying25 rfl (by kernel_rfl)) rfl ?_
 exact ⟨_, _, zw, by (with_reducible repeat (first | apply Kd.R_alloc | apply Kd.R_drewN | apply Kd.R_drew)); exact Kd.R_mono (Kd.R_far (p := ⟨gb102, 2, none⟩) (Kd.R_far (p := ⟨gb102, 1, none⟩) (Kd.R_far (p := ⟨gb102, 0, none⟩) (Kd.R_types HO105.out BK102.out (by decide)) (fun _ hk => hk.2) (.int .i64 a0_0)) (fun _ hk => hk.2) (.slice Ao10 t103.length co10)) (fun _ hk => hk.2) (.slice Ao9 t106.length co9)) (fun _ hk => hk.1.2), by (with_reducible repeat (first | apply Kd.R_alloc | apply Kd.R_drewN | apply Kd.R_drew)); exact Kd.R_mono (Kd.R_far (p := ⟨gb102, 2, none⟩) (Kd.R_far (p := ⟨gb102, 1, none⟩) (Kd.R_far (p := ⟨gb102, 0, none⟩) (Kd.R_types HO108.out BK102.out (by decide)) (fun _ hk => hk.2) (.int .i64 a0_0)) (fun _ hk => hk.2) (.slice Ao10 t103.length co10)) (fun _ hk => hk.2) (.slice Ao9 t106.length co9)) (fun _ hk => hk.1.2), zb⟩


-- ==== PE0

theorem eqA33 (d : Nat) (w : World) (x0 y0 : ByteArray) (x1 y1 : Int) :
 (Op.equalIn (d + 2) 33 (.agg #[.string x0, .int .i64 x1]) (.agg #[.string y0, .int .i64 y1])).run Tryd.prog w = .ok (x0.toList == y0.toList && (x1 == y1)) w := by
 refine eqA_of Tryd.underlying33 (by kernel_rfl) ?_
 refine eqf_cons (by rfl) (by go_simp; rfl) (by go_simp; rfl) (by go_simp) ?_
 exact eqf_last (by rfl) (by go_simp; rfl) (by go_simp; rfl) (by go_simp)

-- ==== PF72

def match_variable.f (k : Nat) (a0_0 : ByteArray) (a0_1 : Int) : Option (Bool) := (name_Kind.f k a0_0).bind fun t102 => (some (t102 == 2))
theorem match_variable.mono : ∀ a0 a1 k, LeO (match_variable.f k a0 a1) (match_variable.f (k + 1) a0 a1) := by
 intro a0 a1 k
 unfold match_variable.f
 repeat' first
  | (with_reducible exact name_Kind.mono _ _)
  | (with_reducible exact LeO.refl _)
  | (with_reducible exact LeO.none _)
  | (with_reducible refine LeO.ite ?_ ?_)
  | (with_reducible refine LeO.bind ?_ (fun _ => ?_))
theorem match_variable.calls (k : Nat) (a0_0 : ByteArray) (a0_1 : Int) (r : Bool) (w : World) (h : match_variable.f k a0_0 a0_1 = some r) :
 Calls Tryd.prog 72 #[.agg #[.string a0_0, .int .i64 a0_1]] w fun e w' => e = .returned (.bool r) ∧ Below w.heap.size w w' := by
 have hu33 := Tryd.underlying33
 have HB := zM (Below.refl w.heap.size w)
 have H : ((name_Kind.f k a0_0).bind fun t102 => (some (t102 == 2))) = some r := h
 clear h
 replace H := zB H
 obtain ⟨t102, A20, H⟩ := H
 try dsimp only at H
 have A2 := zM A20
 clear A20
 obtain rfl := zS H
 go_enter Tryd.func72, Tryd.ntmps72
 go_wp2_with (first | ((with_reducible refine gate_dst (N := 1) rfl ?_); refine box_event ?hg (N := 1) ?hd (cs := #[.string a0_0, .int .i64 a0_1]) (t := 33) ?hr ?_; (case hd => rfl); (case hg => rfl); (case hr => first | (go_simp; done) | (go_simp; rfl)); intro gb101 hg w3 hbox hb; have BK101 := zM (hbox); have GW101 := zM (zh hg : w.heap.size ≤ gb101); have GE101 := zM (zh hg : w.heap.size ≤ gb101); replace HB := zM (below_step zb hb); clear hb hbox hg; have hcz4_0 : w3.cell? ⟨gb101, 0, none⟩ = some (.string a0_0) := (zX BK101.out 0).trans rfl; have hcz4_1 : w3.cell? ⟨gb101, 1, none⟩ = some (.int .i64 a0_1) := (zX BK101.out 1).trans rfl; have hfz4_0 := zY BK101.out 0; have hfz4_1 := zY BK101.out 1) | ((with_reducible refine gate_callee (f := 34) rfl ?_); refine goesL_ (some 5) rfl rfl Tryd.func34 (by kernel_rfl) rfl #[.string a0_0] rfl zl ?_; (with_reducible refine (name_Kind.calls k a0_0 t102 _ A2.out).mono ?_); rintro e w' ⟨rfl, ⟨nd, rfl⟩⟩; refine ⟨_, rfl, ?_⟩))
 go_ret
 exact ⟨zw, zb⟩


-- ==== PF73

def match_end.l0 : Nat → List (S33) → Int → Int → Option (Int)
 | 0, _, _, _ => none
 | k + 1, x0, x1, x5 => if x5 > 0 then (if 0 ≤ x1 then (if x1 < (x0.length : Int) then (match_end.l0 k x0 (wrap64 (x1 + 1)) (wrap64 (x5 + (wrap64 (((rd_T33 x0 x1).f1) - 1))))) else (none)) else (none)) else (some x1)
def match_end.f (k : Nat) (l0 : List (S33)) (a1 : Int) : Option (Int) := match_end.l0 k l0 a1 1
theorem match_end.mono_l : ∀ k, (∀ y0 y1 y2, LeO (match_end.l0 k y0 y1 y2) (match_end.l0 (k + 1) y0 y1 y2))
 | 0 => fun _ _ _ r h => by simp [match_end.l0] at h
 | k + 1 => by
  have ih0 := match_end.mono_l k
  ·
   intro y0 y1 y2
   unfold match_end.l0
   repeat' first
   | (with_reducible exact ih0 _ _ _)
   | (with_reducible exact LeO.refl _)
   | (with_reducible exact LeO.none _)
   | (with_reducible refine LeO.ite ?_ ?_)
   | (with_reducible refine LeO.bind ?_ (fun _ => ?_))
theorem match_end.mono : ∀ a0 a1 k, LeO (match_end.f k a0 a1) (match_end.f (k + 1) a0 a1) := by
 intro a0 a1 k
 have ih0 := match_end.mono_l k
 unfold match_end.f
 repeat' first
  | (with_reducible exact ih0 _ _ _)
  | (with_reducible exact LeO.refl _)
  | (with_reducible exact LeO.none _)
  | (with_reducible refine LeO.ite ?_ ?_)
  | (with_reducible refine LeO.bind ?_ (fun _ => ?_))
theorem match_end.calls (k : Nat) (A0 : Option Addr) (c0 : Nat) (l0 : List (S33)) (a1 : Int) (r : Int) (w : World) (hr0 : Kd.C k33 w A0 l0.length l0) (hc0 : l0.length ≤ c0) (h : match_end.f k l0 a1 = some r) :
 Calls Tryd.prog 73 #[.slice A0 l0.length c0, .int .i64 a1] w fun e w' => e = .returned (.int .i64 r) ∧ Drawn0 w w' := by
 have HR0 := zM hr0
 have HC0 := zM hc0
 clear hr0 hc0
 have H : (match_end.l0 k l0 a1 1) = some r := h
 clear h
 have H' := zM H
 clear H
 go_enter Tryd.func73, Tryd.ntmps73
 go_wp2
 go_loopg [1, 5] k (fun kq v1 v5 w' => ∃ (x1_1 : Int) (x5_1 : Int), v1 = .int .i64 x1_1 ∧ v5 = .int .i64 x5_1 ∧ Aside0 (match_end.l0 kq l0 x1_1 x5_1 = some r) ∧ Aside0 (kq ≤ k) ∧ Drawn0 w w')
 case atStart => exact ⟨(a1), (1), zy, zy, H', ⟨Nat.le_refl _⟩, zd⟩
 case round =>
  clear H'
  try clear p2
  obtain ⟨x1_1, x5_1, rfl, rfl, HA, HK1, ⟨m1, rfl⟩⟩ := hrel
  cases gk with
  | zero => exact absurd HA.out (by simp [match_end.l0])
  | succ k1 =>
   have H := HA.out
   clear HA
   simp only [match_end.l0] at H
   by_cases c3 : x5_1 > 0
   ·
    rw [if_pos c3] at H
    have c3b0 : decide (0 < x5_1) = true := zQ c3
    clear c3
    by_cases c4 : 0 ≤ x1_1
    ·
     rw [if_pos c4] at H
     have c4b0 : decide (0 ≤ x1_1) = true := zQ c4
     clear c4
     by_cases c5 : x1_1 < (l0.length : Int)
     ·
      rw [if_pos c5] at H
      have c5b0 : decide (x1_1 < (l0.length : Int)) = true := zQ c5
      clear c5
      have H' := zM H
      clear H
      have p101 : 0 ≤ (x1_1 : Int) := zT zv
      have q101 : x1_1 < (l0.length : Int) := zT zv
      obtain ⟨ad101, e101, hx101_0, hx101_1⟩ := at_T33 HR0.out x1_1 p101 q101
      cases e101
      replace p101 := eq_true p101
      replace q101 := eq_true q101
      go_wp2
      go_roundg k1
      case measure => have := HK1.out; omega
      case rel => exact ⟨(wrap64 (x1_1 + 1)), (wrap64 (x5_1 + (wrap64 (((rd_T33 l0 x1_1).f1) - 1)))), zy, zy, H', ⟨by have := HK1.out; omega⟩, zd⟩
     ·
      rw [if_neg c5] at H
      exact absurd H (by simp)
    ·
     rw [if_neg c4] at H
     exact absurd H (by simp)
   ·
    rw [if_neg c3] at H
    have c3b0 : decide (0 < x5_1) = false := zR c3
    clear c3
    obtain rfl := zS H
    go_wp2
    go_ret
    exact ⟨zy, zd⟩


-- ==== PF74

attribute [local go_sem high] eqA33
def api_Cell_74.l0 : Nat → List (S33) → List (S33) → Int → Int → Option (Bool)
 | 0, _, _, _, _ => none
 | k + 1, x0, x1, x12, x13 => if x13 < x12 then (if 0 ≤ x13 then (if x13 < (x0.length : Int) then (if x13 < (x1.length : Int) then (if (!((((rd_T33 x0 x13).f0).toList) == (((rd_T33 x1 x13).f0).toList)) || (!(((rd_T33 x0 x13).f1) == ((rd_T33 x1 x13).f1)))) = true then (some false) else (api_Cell_74.l0 k x0 x1 x12 (wrap64 (x13 + 1)))) else (none)) else (none)) else (none)) else (some true)
def api_Cell_74.f (k : Nat) (l0 : List (S33)) (l1 : List (S33)) : Option (Bool) := if (l0.length : Int) = (l1.length : Int) then (api_Cell_74.l0 k l0 l1 (l0.length : Int) 0) else (some false)
theorem api_Cell_74.mono_l : ∀ k, (∀ y0 y1 y2 y3, LeO (api_Cell_74.l0 k y0 y1 y2 y3) (api_Cell_74.l0 (k + 1) y0 y1 y2 y3))
 | 0 => fun _ _ _ _ r h => by simp [api_Cell_74.l0] at h
 | k + 1 => by
  have ih0 := api_Cell_74.mono_l k
  ·
   intro y0 y1 y2 y3
   unfold api_Cell_74.l0
   repeat' first
   | (with_reducible exact ih0 _ _ _ _)
   | (with_reducible exact LeO.refl _)
   | (with_reducible exact LeO.none _)
   | (with_reducible refine LeO.ite ?_ ?_)
   | (with_reducible refine LeO.bind ?_ (fun _ => ?_))
theorem api_Cell_74.mono : ∀ a0 a1 k, LeO (api_Cell_74.f k a0 a1) (api_Cell_74.f (k + 1) a0 a1) := by
 intro a0 a1 k
 have ih0 := api_Cell_74.mono_l k
 unfold api_Cell_74.f
 repeat' first
  | (with_reducible exact ih0 _ _ _ _)
  | (with_reducible exact LeO.refl _)
  | (with_reducible exact LeO.none _)
  | (with_reducible refine LeO.ite ?_ ?_)
  | (with_reducible refine LeO.bind ?_ (fun _ => ?_))
theorem api_Cell_74.calls (k : Nat) (A0 : Option Addr) (c0 : Nat) (l0 : List (S33)) (A1 : Option Addr) (c1 : Nat) (l1 : List (S33)) (r : Bool) (w : World) (hr0 : Kd.C k33 w A0 l0.length l0) (hc0 : l0.length ≤ c0) (hr1 : Kd.C k33 w A1 l1.length l1) (hc1 : l1.length ≤ c1) (h : api_Cell_74.f k l0 l1 = some r) :
 Calls Tryd.prog 74 #[.slice A0 l0.length c0, .slice A1 l1.length c1] w fun e w' => e = .returned (.bool r) ∧ Drawn0 w w' := by
 have hu33 := Tryd.underlying33
 have HR0 := zM hr0
 have HC0 := zM hc0
 clear hr0 hc0
 have HR1 := zM hr1
 have HC1 := zM hc1
 clear hr1 hc1
 have H : (if (l0.length : Int) = (l1.length : Int) then (api_Cell_74.l0 k l0 l1 (l0.length : Int) 0) else (some false)) = some r := h
 clear h
 by_cases c3 : (l0.length : Int) = (l1.length : Int)
 ·
  rw [if_pos c3] at H
  have c3b0 : ((l0.length : Int) == (l1.length : Int)) = true := zG c3
  have c3b1 : ((l0.length : Int) != (l1.length : Int)) = false := zH c3
  have c3b2 : (l0.length == l1.length) = true := by first | simpa using c3 | (simp at c3 ⊢; omega)
  clear c3
  have H' := zM H
  clear H
  go_enter Tryd.func74, Tryd.ntmps74
  go_wp2
  repeat (go_quiet (fail); try go_wp2)
  go_loopg [13] k (fun kq v13 w' => ∃ (x13_1 : Int), v13 = .int .i64 x13_1 ∧ Aside0 (api_Cell_74.l0 kq l0 l1 (l0.length : Int) x13_1 = some r) ∧ Aside0 (kq ≤ k) ∧ Drawn0 w w')
  case atStart => exact ⟨(0), zy, H', ⟨Nat.le_refl _⟩, zd⟩
  case round =>
   clear H'
   try clear c1
   try clear p2
   try clear c3
   try clear c3b0
   try clear c3b1
   try clear c3b2
   obtain ⟨x13_1, rfl, HA, HK1, ⟨m1, rfl⟩⟩ := hrel
   cases gk with
   | zero => exact absurd HA.out (by simp [api_Cell_74.l0])
   | succ k1 =>
    have H := HA.out
    clear HA
    simp only [api_Cell_74.l0] at H
    by_cases c4 : x13_1 < (l0.length : Int)
    ·
     rw [if_pos c4] at H
     have c4b0 : decide (x13_1 < (l0.length : Int)) = true := zQ c4
     clear c4
     by_cases c5 : 0 ≤ x13_1
     ·
      rw [if_pos c5] at H
      have c5b0 : decide (0 ≤ x13_1) = true := zQ c5
      clear c5
      by_cases c6 : x13_1 < (l0.length : Int)
      ·
       rw [if_pos c6] at H
       have c6b0 : decide (x13_1 < (l0.length : Int)) = true := zQ c6
       clear c6
       by_cases c7 : x13_1 < (l1.length : Int)
       ·
        rw [if_pos c7] at H
        have c7b0 : decide (x13_1 < (l1.length : Int)) = true := zQ c7
        clear c7
        by_cases c8 : (!((((rd_T33 l0 x13_1).f0).toList) == (((rd_T33 l1 x13_1).f0).toList)) || (!(((rd_T33 l0 x13_1).f1) == ((rd_T33 l1 x13_1).f1)))) = true
        ·
         rw [if_pos c8] at H
         have c8b0 : (!((((rd_T33 l0 x13_1).f0).toList) == (((rd_T33 l1 x13_1).f0).toList)) || (!(((rd_T33 l0 x13_1).f1) == ((rd_T33 l1 x13_1).f1)))) = true := c8
         clear c8
         obtain rfl := zS H
         have p101 : 0 ≤ (x13_1 : Int) := zT zv
         have q101 : x13_1 < (l0.length : Int) := zT zv
         obtain ⟨ad101, e101, hx101_0, hx101_1⟩ := at_T33 HR0.out x13_1 p101 q101
         cases e101
         replace p101 := eq_true p101
         replace q101 := eq_true q101
         have p102 : 0 ≤ (x13_1 : Int) := zT zv
         have q102 : x13_1 < (l1.length : Int) := zT zv
         obtain ⟨ad102, e102, hx102_0, hx102_1⟩ := at_T33 HR1.out x13_1 p102 q102
         cases e102
         replace p102 := eq_true p102
         replace q102 := eq_true q102
         go_wp2
         repeat (go_quiet (fail); try go_wp2)
         go_ret
         exact ⟨zy, zd⟩
        ·
         rw [if_neg c8] at H
         have c8b0 : (!((((rd_T33 l0 x13_1).f0).toList) == (((rd_T33 l1 x13_1).f0).toList)) || (!(((rd_T33 l0 x13_1).f1) == ((rd_T33 l1 x13_1).f1)))) = false := by simpa using c8
         clear c8
         have H' := zM H
         clear H
         have p101 : 0 ≤ (x13_1 : Int) := zT zv
         have q101 : x13_1 < (l0.length : Int) := zT zv
         obtain ⟨ad101, e101, hx101_0, hx101_1⟩ := at_T33 HR0.out x13_1 p101 q101
         cases e101
         replace p101 := eq_true p101
         replace q101 := eq_true q101
         have p102 : 0 ≤ (x13_1 : Int) := zT zv
         have q102 : x13_1 < (l1.length : Int) := zT zv
         obtain ⟨ad102, e102, hx102_0, hx102_1⟩ := at_T33 HR1.out x13_1 p102 q102
         cases e102
         replace p102 := eq_true p102
         replace q102 := eq_true q102
         go_wp2
         repeat (go_quiet (fail); try go_wp2)
         go_roundg k1
         case measure => have := HK1.out; omega
         case rel => exact ⟨(wrap64 (x13_1 + 1)), zy, H', ⟨by have := HK1.out; omega⟩, zd⟩
       ·
        rw [if_neg c7] at H
        exact absurd H (by simp)
      ·
       rw [if_neg c6] at H
       exact absurd H (by simp)
     ·
      rw [if_neg c5] at H
      exact absurd H (by simp)
    ·
     rw [if_neg c4] at H
     have c4b0 : decide (x13_1 < (l0.length : Int)) = false := zR c4
     clear c4
     obtain rfl := zS H
     go_wp2
     repeat (go_quiet (fail); try go_wp2)
     go_ret
     exact ⟨zy, zd⟩
 ·
  rw [if_neg c3] at H
  have c3b0 : ((l0.length : Int) == (l1.length : Int)) = false := zE c3
  have c3b1 : ((l0.length : Int) != (l1.length : Int)) = true := zF c3
  have c3b2 : (l0.length == l1.length) = false := by first | simpa using c3 | (simp at c3 ⊢; omega)
  obtain rfl := zS H
  go_enter Tryd.func74, Tryd.ntmps74
  go_wp2
  repeat (go_quiet (fail); try go_wp2)
  go_ret
  exact ⟨zy, zd⟩


-- ==== PF25

attribute [local go_sem high] eqA33
def aumbryref04_Same.l0 : Nat → List (S33) → List (S33) → Int → Int → Option (Bool)
 | 0, _, _, _, _ => none
 | k + 1, x0, x1, x12, x13 => if x13 < x12 then (if 0 ≤ x13 then (if x13 < (x0.length : Int) then (if x13 < (x1.length : Int) then (if (!((((rd_T33 x0 x13).f0).toList) == (((rd_T33 x1 x13).f0).toList)) || (!(((rd_T33 x0 x13).f1) == ((rd_T33 x1 x13).f1)))) = true then (some false) else (aumbryref04_Same.l0 k x0 x1 x12 (wrap64 (x13 + 1)))) else (none)) else (none)) else (none)) else (some true)
def aumbryref04_Same.f (k : Nat) (l0 : List (S33)) (l1 : List (S33)) : Option (Bool) := if (l0.length : Int) = (l1.length : Int) then (aumbryref04_Same.l0 k l0 l1 (l0.length : Int) 0) else (some false)
theorem aumbryref04_Same.mono_l : ∀ k, (∀ y0 y1 y2 y3, LeO (aumbryref04_Same.l0 k y0 y1 y2 y3) (aumbryref04_Same.l0 (k + 1) y0 y1 y2 y3))
 | 0 => fun _ _ _ _ r h => by simp [aumbryref04_Same.l0] at h
 | k + 1 => by
  have ih0 := aumbryref04_Same.mono_l k
  ·
   intro y0 y1 y2 y3
   unfold aumbryref04_Same.l0
   repeat' first
   | (with_reducible exact ih0 _ _ _ _)
   | (with_reducible exact LeO.refl _)
   | (with_reducible exact LeO.none _)
   | (with_reducible refine LeO.ite ?_ ?_)
   | (with_reducible refine LeO.bind ?_ (fun _ => ?_))
theorem aumbryref04_Same.mono : ∀ a0 a1 k, LeO (aumbryref04_Same.f k a0 a1) (aumbryref04_Same.f (k + 1) a0 a1) := by
 intro a0 a1 k
 have ih0 := aumbryref04_Same.mono_l k
 unfold aumbryref04_Same.f
 repeat' first
  | (with_reducible exact ih0 _ _ _ _)
  | (with_reducible exact LeO.refl _)
  | (with_reducible exact LeO.none _)
  | (with_reducible refine LeO.ite ?_ ?_)
  | (with_reducible refine LeO.bind ?_ (fun _ => ?_))
theorem aumbryref04_Same.calls (k : Nat) (A0 : Option Addr) (c0 : Nat) (l0 : List (S33)) (A1 : Option Addr) (c1 : Nat) (l1 : List (S33)) (r : Bool) (w : World) (hr0 : Kd.C k33 w A0 l0.length l0) (hc0 : l0.length ≤ c0) (hr1 : Kd.C k33 w A1 l1.length l1) (hc1 : l1.length ≤ c1) (h : aumbryref04_Same.f k l0 l1 = some r) :
 Calls Tryd.prog 25 #[.slice A0 l0.length c0, .slice A1 l1.length c1] w fun e w' => e = .returned (.bool r) ∧ Drawn0 w w' := by
 have hu33 := Tryd.underlying33
 have HR0 := zM hr0
 have HC0 := zM hc0
 clear hr0 hc0
 have HR1 := zM hr1
 have HC1 := zM hc1
 clear hr1 hc1
 have H : (if (l0.length : Int) = (l1.length : Int) then (aumbryref04_Same.l0 k l0 l1 (l0.length : Int) 0) else (some false)) = some r := h
 clear h
 by_cases c3 : (l0.length : Int) = (l1.length : Int)
 ·
  rw [if_pos c3] at H
  have c3b0 : ((l0.length : Int) == (l1.length : Int)) = true := zG c3
  have c3b1 : ((l0.length : Int) != (l1.length : Int)) = false := zH c3
  have c3b2 : (l0.length == l1.length) = true := by first | simpa using c3 | (simp at c3 ⊢; omega)
  clear c3
  have H' := zM H
  clear H
  go_enter Tryd.func25, Tryd.ntmps25
  go_wp2
  repeat (go_quiet (fail); try go_wp2)
  go_loopg [13] k (fun kq v13 w' => ∃ (x13_1 : Int), v13 = .int .i64 x13_1 ∧ Aside0 (aumbryref04_Same.l0 kq l0 l1 (l0.length : Int) x13_1 = some r) ∧ Aside0 (kq ≤ k) ∧ Drawn0 w w')
  case atStart => exact ⟨(0), zy, H', ⟨Nat.le_refl _⟩, zd⟩
  case round =>
   clear H'
   try clear c1
   try clear c2
   try clear p2
   try clear c3
   try clear c3b0
   try clear c3b1
   try clear c3b2
   obtain ⟨x13_1, rfl, HA, HK1, ⟨m1, rfl⟩⟩ := hrel
   cases gk with
   | zero => exact absurd HA.out (by simp [aumbryref04_Same.l0])
   | succ k1 =>
    have H := HA.out
    clear HA
    simp only [aumbryref04_Same.l0] at H
    by_cases c4 : x13_1 < (l0.length : Int)
    ·
     rw [if_pos c4] at H
     have c4b0 : decide (x13_1 < (l0.length : Int)) = true := zQ c4
     clear c4
     by_cases c5 : 0 ≤ x13_1
     ·
      rw [if_pos c5] at H
      have c5b0 : decide (0 ≤ x13_1) = true := zQ c5
      clear c5
      by_cases c6 : x13_1 < (l0.length : Int)
      ·
       rw [if_pos c6] at H
       have c6b0 : decide (x13_1 < (l0.length : Int)) = true := zQ c6
       clear c6
       by_cases c7 : x13_1 < (l1.length : Int)
       ·
        rw [if_pos c7] at H
        have c7b0 : decide (x13_1 < (l1.length : Int)) = true := zQ c7
        clear c7
        by_cases c8 : (!((((rd_T33 l0 x13_1).f0).toList) == (((rd_T33 l1 x13_1).f0).toList)) || (!(((rd_T33 l0 x13_1).f1) == ((rd_T33 l1 x13_1).f1)))) = true
        ·
         rw [if_pos c8] at H
         have c8b0 : (!((((rd_T33 l0 x13_1).f0).toList) == (((rd_T33 l1 x13_1).f0).toList)) || (!(((rd_T33 l0 x13_1).f1) == ((rd_T33 l1 x13_1).f1)))) = true := c8
         clear c8
         obtain rfl := zS H
         have p101 : 0 ≤ (x13_1 : Int) := zT zv
         have q101 : x13_1 < (l0.length : Int) := zT zv
         obtain ⟨ad101, e101, hx101_0, hx101_1⟩ := at_T33 HR0.out x13_1 p101 q101
         cases e101
         replace p101 := eq_true p101
         replace q101 := eq_true q101
         have p102 : 0 ≤ (x13_1 : Int) := zT zv
         have q102 : x13_1 < (l1.length : Int) := zT zv
         obtain ⟨ad102, e102, hx102_0, hx102_1⟩ := at_T33 HR1.out x13_1 p102 q102
         cases e102
         replace p102 := eq_true p102
         replace q102 := eq_true q102
         go_wp2
         repeat (go_quiet (fail); try go_wp2)
         go_ret
         exact ⟨zy, zd⟩
        ·
         rw [if_neg c8] at H
         have c8b0 : (!((((rd_T33 l0 x13_1).f0).toList) == (((rd_T33 l1 x13_1).f0).toList)) || (!(((rd_T33 l0 x13_1).f1) == ((rd_T33 l1 x13_1).f1)))) = false := by simpa using c8
         clear c8
         have H' := zM H
         clear H
         have p101 : 0 ≤ (x13_1 : Int) := zT zv
         have q101 : x13_1 < (l0.length : Int) := zT zv
         obtain ⟨ad101, e101, hx101_0, hx101_1⟩ := at_T33 HR0.out x13_1 p101 q101
         cases e101
         replace p101 := eq_true p101
         replace q101 := eq_true q101
         have p102 : 0 ≤ (x13_1 : Int) := zT zv
         have q102 : x13_1 < (l1.length : Int) := zT zv
         obtain ⟨ad102, e102, hx102_0, hx102_1⟩ := at_T33 HR1.out x13_1 p102 q102
         cases e102
         replace p102 := eq_true p102
         replace q102 := eq_true q102
         go_wp2
         repeat (go_quiet (fail); try go_wp2)
         go_roundg k1
         case measure => have := HK1.out; omega
         case rel => exact ⟨(wrap64 (x13_1 + 1)), zy, H', ⟨by have := HK1.out; omega⟩, zd⟩
       ·
        rw [if_neg c7] at H
        exact absurd H (by simp)
      ·
       rw [if_neg c6] at H
       exact absurd H (by simp)
     ·
      rw [if_neg c5] at H
      exact absurd H (by simp)
    ·
     rw [if_neg c4] at H
     have c4b0 : decide (x13_1 < (l0.length : Int)) = false := zR c4
     clear c4
     obtain rfl := zS H
     go_wp2
     repeat (go_quiet (fail); try go_wp2)
     go_ret
     exact ⟨zy, zd⟩
 ·
  rw [if_neg c3] at H
  have c3b0 : ((l0.length : Int) == (l1.length : Int)) = false := zE c3
  have c3b1 : ((l0.length : Int) != (l1.length : Int)) = true := zF c3
  have c3b2 : (l0.length == l1.length) = false := by first | simpa using c3 | (simp at c3 ⊢; omega)
  obtain rfl := zS H
  go_enter Tryd.func25, Tryd.ntmps25
  go_wp2
  repeat (go_quiet (fail); try go_wp2)
  go_ret
  exact ⟨zy, zd⟩


-- ==== PF17

def aumbryref06_Same.f (k : Nat) (a0_0 : Int) (l0_1 : List (S33)) (l0_2 : List (S33)) (a1_0 : Int) (l1_1 : List (S33)) (l1_2 : List (S33)) : Option (Bool) := if a0_0 = a1_0 then ((aumbryref04_Same.f k l0_1 l1_1).bind fun t103 => (if t103 = true then ((aumbryref04_Same.f k l0_2 l1_2).bind fun t104 => (some t104)) else (some false))) else (some false)
theorem aumbryref06_Same.mono : ∀ a0 a1 a2 a3 a4 a5 k, LeO (aumbryref06_Same.f k a0 a1 a2 a3 a4 a5) (aumbryref06_Same.f (k + 1) a0 a1 a2 a3 a4 a5) := by
 intro a0 a1 a2 a3 a4 a5 k
 unfold aumbryref06_Same.f
 repeat' first
  | (with_reducible exact aumbryref04_Same.mono _ _ _)
  | (with_reducible exact LeO.refl _)
  | (with_reducible exact LeO.none _)
  | (with_reducible refine LeO.ite ?_ ?_)
  | (with_reducible refine LeO.bind ?_ (fun _ => ?_))
theorem aumbryref06_Same.calls (k : Nat) (a0_0 : Int) (A0_1 : Option Addr) (c0_1 : Nat) (l0_1 : List (S33)) (A0_2 : Option Addr) (c0_2 : Nat) (l0_2 : List (S33)) (a1_0 : Int) (A1_1 : Option Addr) (c1_1 : Nat) (l1_1 : List (S33)) (A1_2 : Option Addr) (c1_2 : Nat) (l1_2 : List (S33)) (r : Bool) (w : World) (hr0_1 : Kd.C k33 w A0_1 l0_1.length l0_1) (hc0_1 : l0_1.length ≤ c0_1) (hr0_2 : Kd.C k33 w A0_2 l0_2.length l0_2) (hc0_2 : l0_2.length ≤ c0_2) (hr1_1 : Kd.C k33 w A1_1 l1_1.length l1_1) (hc1_1 : l1_1.length ≤ c1_1) (hr1_2 : Kd.C k33 w A1_2 l1_2.length l1_2) (hc1_2 : l1_2.length ≤ c1_2) (h : aumbryref06_Same.f k a0_0 l0_1 l0_2 a1_0 l1_1 l1_2 = some r) :
 Calls Tryd.prog 17 #[.agg #[.int .i64 a0_0, .slice A0_1 l0_1.length c0_1, .slice A0_2 l0_2.length c0_2], .agg #[.int .i64 a1_0, .slice A1_1 l1_1.length c1_1, .slice A1_2 l1_2.length c1_2]] w fun e w' => e = .returned (.bool r) ∧ Below w.heap.size w w' := by
 have hu25 := Tryd.underlying25
 have HR0_1 := zM hr0_1
 have HC0_1 := zM hc0_1
 clear hr0_1 hc0_1
 have HR0_2 := zM hr0_2
 have HC0_2 := zM hc0_2
 clear hr0_2 hc0_2
 have HR1_1 := zM hr1_1
 have HC1_1 := zM hc1_1
 clear hr1_1 hc1_1
 have HR1_2 := zM hr1_2
 have HC1_2 := zM hc1_2
 clear hr1_2 hc1_2
 have HB := zM (Below.refl w.heap.size w)
 have H : (if a0_0 = a1_0 then ((aumbryref04_Same.f k l0_1 l1_1).bind fun t103 => (if t103 = true then ((aumbryref04_Same.f k l0_2 l1_2).bind fun t104 => (some t104)) else (some false))) else (some false)) = some r := h
 clear h
 by_cases c3 : a0_0 = a1_0
 ·
  rw [if_pos c3] at H
  have c3b0 : (a0_0 == a1_0) = true := zG c3
  have c3b1 : (a0_0 != a1_0) = false := zH c3
  clear c3
  replace H := zB H
  obtain ⟨t103, A40, H⟩ := H
  try dsimp only at H
  have A4 := zM A40
  clear A40
  by_cases c5 : t103 = true
  ·
   subst c5
   rw [if_pos rfl] at H
   replace H := zB H
   obtain ⟨t104, A60, H⟩ := H
   try dsimp only at H
   have A6 := zM A60
   clear A60
   obtain rfl := zS H
   go_enter Tryd.func17, Tryd.ntmps17
   go_wp2_with (first | ((with_reducible refine gate_dst (N := 2) rfl ?_); refine box_event ?hg (N := 2) ?hd (cs := #[.int .i64 a0_0, .slice A0_1 l0_1.length c0_1, .slice A0_2 l0_2.length c0_2]) (t := 25) ?hr ?_; (case hd => rfl); (case hg => rfl); (case hr => first | (go_simp; done) | (go_simp; rfl)); intro gb101 hg w7 hbox hb; have BK101 := zM (hbox); have GW101 := zM (zh hg : w.heap.size ≤ gb101); have GE101 := zM (zh hg : w.heap.size ≤ gb101); replace HB := zM (below_step zb hb); clear hb hbox hg) | ((with_reducible refine gate_dst (N := 3) rfl ?_); refine box_event ?hg (N := 3) ?hd (cs := #[.int .i64 a1_0, .slice A1_1 l1_1.length c1_1, .slice A1_2 l1_2.length c1_2]) (t := 25) ?hr ?_; (case hd => rfl); (case hg => rfl); (case hr => first | (go_simp; done) | (go_simp; rfl)); intro gb102 hg w8 hbox hb; have BK102 := zM (hbox); have GW102 := zM (zh hg : w.heap.size ≤ gb102); have GE102 := zM (zh hg : w.heap.size ≤ gb102); replace HB := zM (below_step zb hb); have NB101_102 := zM ((by rw [hg]; exact Nat.ne_of_lt (blk_lt (zk BK101.out)) : gb101 ≠ gb102)); have NB102_101 := zM ((by rw [hg]; exact Nat.ne_of_gt (blk_lt (zk BK101.out)) : gb102 ≠ gb101)); replace BK101 := zM (blk_below (zk BK101.out) hb); clear hb hbox hg; have hnb9 := NB101_102.out; have hnc9 := NB102_101.out; have hcz10_0 : w8.cell? ⟨gb101, 0, none⟩ = some (.int .i64 a0_0) := (zX BK101.out 0).trans rfl; have hcz10_1 : w8.cell? ⟨gb101, 1, none⟩ = some (.slice A0_1 l0_1.length c0_1) := (zX BK101.out 1).trans rfl; have hcz10_2 : w8.cell? ⟨gb101, 2, none⟩ = some (.slice A0_2 l0_2.length c0_2) := (zX BK101.out 2).trans rfl; have hfz10_0 := zY BK101.out 0; have hfz10_1 := zY BK101.out 1; have hfz10_2 := zY BK101.out 2; have hcz11_0 : w8.cell? ⟨gb102, 0, none⟩ = some (.int .i64 a1_0) := (zX BK102.out 0).trans rfl; have hcz11_1 : w8.cell? ⟨gb102, 1, none⟩ = some (.slice A1_1 l1_1.length c1_1) := (zX BK102.out 1).trans rfl; have hcz11_2 : w8.cell? ⟨gb102, 2, none⟩ = some (.slice A1_2 l1_2.length c1_2) := (zX BK102.out 2).trans rfl; have hfz11_0 := zY BK102.out 0; have hfz11_1 := zY BK102.out 1; have hfz11_2 := zY BK102.out 2) | (go_at_call 25; (with_reducible refine (aumbryref04_Same.calls k _ _ l0_1 _ _ l1_1 true _ ?side1 ?side2 ?side3 ?side4 A4.out).mono ?_); (case side1 => exact Kd.C_below HR0_1.out zb); (case side2 => exact HC0_1.out); (case side3 => exact Kd.C_below HR1_1.out zb); (case side4 => exact HC1_1.out); rintro e w' ⟨rfl, ⟨nd, rfl⟩⟩) | (go_at_call 25; (with_reducible refine (aumbryref04_Same.calls k _ _ l0_2 _ _ l1_2 t104 _ ?side1 ?side2 ?side3 ?side4 A6.out).mono ?_); (case side1 => exact Kd.C_below (Kd.C_below HR0_2.out zb) zg); (case side2 => exact HC0_2.out); (case side3 => exact Kd.C_below (Kd.C_below HR1_2.out zb) zg); (case side4 => exact HC1_2.out); rintro e w' ⟨rfl, ⟨nd, rfl⟩⟩))
   go_ret
   exact ⟨zw, zb⟩
  ·
   replace c5 := zI c5
   subst c5
   rw [if_neg (show ¬ (false = true) by decide)] at H
   obtain rfl := zS H
   go_enter Tryd.func17, Tryd.ntmps17
   go_wp2_with (first | ((with_reducible refine gate_dst (N := 2) rfl ?_); refine box_event ?hg (N := 2) ?hd (cs := #[.int .i64 a0_0, .slice A0_1 l0_1.length c0_1, .slice A0_2 l0_2.length c0_2]) (t := 25) ?hr ?_; (case hd => rfl); (case hg => rfl); (case hr => first | (go_simp; done) | (go_simp; rfl)); intro gb101 hg w12 hbox hb; have BK101 := zM (hbox); have GW101 := zM (zh hg : w.heap.size ≤ gb101); have GE101 := zM (zh hg : w.heap.size ≤ gb101); replace HB := zM (below_step zb hb); clear hb hbox hg) | ((with_reducible refine gate_dst (N := 3) rfl ?_); refine box_event ?hg (N := 3) ?hd (cs := #[.int .i64 a1_0, .slice A1_1 l1_1.length c1_1, .slice A1_2 l1_2.length c1_2]) (t := 25) ?hr ?_; (case hd => rfl); (case hg => rfl); (case hr => first | (go_simp; done) | (go_simp; rfl)); intro gb102 hg w13 hbox hb; have BK102 := zM (hbox); have GW102 := zM (zh hg : w.heap.size ≤ gb102); have GE102 := zM (zh hg : w.heap.size ≤ gb102); replace HB := zM (below_step zb hb); have NB101_102 := zM ((by rw [hg]; exact Nat.ne_of_lt (blk_lt (zk BK101.out)) : gb101 ≠ gb102)); have NB102_101 := zM ((by rw [hg]; exact Nat.ne_of_gt (blk_lt (zk BK101.out)) : gb102 ≠ gb101)); replace BK101 := zM (blk_below (zk BK101.out) hb); clear hb hbox hg; have hnb14 := NB101_102.out; have hnc14 := NB102_101.out; have hcz15_0 : w13.cell? ⟨gb101, 0, none⟩ = some (.int .i64 a0_0) := (zX BK101.out 0).trans rfl; have hcz15_1 : w13.cell? ⟨gb101, 1, none⟩ = some (.slice A0_1 l0_1.length c0_1) := (zX BK101.out 1).trans rfl; have hcz15_2 : w13.cell? ⟨gb101, 2, none⟩ = some (.slice A0_2 l0_2.length c0_2) := (zX BK101.out 2).trans rfl; have hfz15_0 := zY BK101.out 0; have hfz15_1 := zY BK101.out 1; have hfz15_2 := zY BK101.out 2; have hcz16_0 : w13.cell? ⟨gb102, 0, none⟩ = some (.int .i64 a1_0) := (zX BK102.out 0).trans rfl; have hcz16_1 : w13.cell? ⟨gb102, 1, none⟩ = some (.slice A1_1 l1_1.length c1_1) := (zX BK102.out 1).trans rfl; have hcz16_2 : w13.cell? ⟨gb102, 2, none⟩ = some (.slice A1_2 l1_2.length c1_2) := (zX BK102.out 2).trans rfl; have hfz16_0 := zY BK102.out 0; have hfz16_1 := zY BK102.out 1; have hfz16_2 := zY BK102.out 2) | (go_at_call 25; (with_reducible refine (aumbryref04_Same.calls k _ _ l0_1 _ _ l1_1 false _ ?side1 ?side2 ?side3 ?side4 A4.out).mono ?_); (case side1 => exact Kd.C_below HR0_1.out zb); (case side2 => exact HC0_1.out); (case side3 => exact Kd.C_below HR1_1.out zb); (case side4 => exact HC1_1.out); rintro e w' ⟨rfl, ⟨nd, rfl⟩⟩))
   go_ret
   exact ⟨zw, zb⟩
 ·
  rw [if_neg c3] at H
  have c3b0 : (a0_0 == a1_0) = false := zE c3
  have c3b1 : (a0_0 != a1_0) = true := zF c3
  obtain rfl := zS H
  go_enter Tryd.func17, Tryd.ntmps17
  go_wp2_with (first | ((with_reducible refine gate_dst (N := 2) rfl ?_); refine box_event ?hg (N := 2) ?hd (cs := #[.int .i64 a0_0, .slice A0_1 l0_1.length c0_1, .slice A0_2 l0_2.length c0_2]) (t := 25) ?hr ?_; (case hd => rfl); (case hg => rfl); (case hr => first | (go_simp; done) | (go_simp; rfl)); intro gb101 hg w17 hbox hb; have BK101 := zM (hbox); have GW101 := zM (zh hg : w.heap.size ≤ gb101); have GE101 := zM (zh hg : w.heap.size ≤ gb101); replace HB := zM (below_step zb hb); clear hb hbox hg) | ((with_reducible refine gate_dst (N := 3) rfl ?_); refine box_event ?hg (N := 3) ?hd (cs := #[.int .i64 a1_0, .slice A1_1 l1_1.length c1_1, .slice A1_2 l1_2.length c1_2]) (t := 25) ?hr ?_; (case hd => rfl); (case hg => rfl); (case hr => first | (go_simp; done) | (go_simp; rfl)); intro gb102 hg w18 hbox hb; have BK102 := zM (hbox); have GW102 := zM (zh hg : w.heap.size ≤ gb102); have GE102 := zM (zh hg : w.heap.size ≤ gb102); replace HB := zM (below_step zb hb); have NB101_102 := zM ((by rw [hg]; exact Nat.ne_of_lt (blk_lt (zk BK101.out)) : gb101 ≠ gb102)); have NB102_101 := zM ((by rw [hg]; exact Nat.ne_of_gt (blk_lt (zk BK101.out)) : gb102 ≠ gb101)); replace BK101 := zM (blk_below (zk BK101.out) hb); clear hb hbox hg; have hnb19 := NB101_102.out; have hnc19 := NB102_101.out; have hcz20_0 : w18.cell? ⟨gb101, 0, none⟩ = some (.int .i64 a0_0) := (zX BK101.out 0).trans rfl; have hcz20_1 : w18.cell? ⟨gb101, 1, none⟩ = some (.slice A0_1 l0_1.length c0_1) := (zX BK101.out 1).trans rfl; have hcz20_2 : w18.cell? ⟨gb101, 2, none⟩ = some (.slice A0_2 l0_2.length c0_2) := (zX BK101.out 2).trans rfl; have hfz20_0 := zY BK101.out 0; have hfz20_1 := zY BK101.out 1; have hfz20_2 := zY BK101.out 2; have hcz21_0 : w18.cell? ⟨gb102, 0, none⟩ = some (.int .i64 a1_0) := (zX BK102.out 0).trans rfl; have hcz21_1 : w18.cell? ⟨gb102, 1, none⟩ = some (.slice A1_1 l1_1.length c1_1) := (zX BK102.out 1).trans rfl; have hcz21_2 : w18.cell? ⟨gb102, 2, none⟩ = some (.slice A1_2 l1_2.length c1_2) := (zX BK102.out 2).trans rfl; have hfz21_0 := zY BK102.out 0; have hfz21_1 := zY BK102.out 1; have hfz21_2 := zY BK102.out 2))
  go_ret
  exact ⟨zw, zb⟩


-- ==== PF61

mutual
def aumbryref03_Kind.j0 : Nat → ByteArray → Bool → Option (Int)
 | 0, _, _ => none
 | k + 1, x0, x15 => if x15 = true then (some 0) else (aumbryref03_Kind.l0 k x0 true true 0)
def aumbryref03_Kind.l0 : Nat → ByteArray → Bool → Bool → Int → Option (Int)
 | 0, _, _, _, _ => none
 | k + 1, x0, x3, x4, x5 => if x5 < (x0.size : Int) then (if 0 ≤ x5 then (if (bt x0 x5) ≥ 48 then (if (bt x0 x5) ≤ 57 then (if x3 = true then (if (bt x0 x5) ≥ 97 then (if (bt x0 x5) ≤ 122 then (if x4 = true then (if (bt x0 x5) ≥ 65 then (if (bt x0 x5) ≤ 90 then (aumbryref03_Kind.l0 k x0 true true (wrap64 (x5 + 1))) else (aumbryref03_Kind.l0 k x0 true (decide (x5 > 0)) (wrap64 (x5 + 1)))) else (aumbryref03_Kind.l0 k x0 true (decide (x5 > 0)) (wrap64 (x5 + 1)))) else (aumbryref03_Kind.l0 k x0 true false (wrap64 (x5 + 1)))) else (if x4 = true then (if (bt x0 x5) ≥ 65 then (if (bt x0 x5) ≤ 90 then (aumbryref03_Kind.l0 k x0 (decide (x5 > 0)) true (wrap64 (x5 + 1))) else (aumbryref03_Kind.l0 k x0 (decide (x5 > 0)) (decide (x5 > 0)) (wrap64 (x5 + 1)))) else (aumbryref03_Kind.l0 k x0 (decide (x5 > 0)) (decide (x5 > 0)) (wrap64 (x5 + 1)))) else (aumbryref03_Kind.l0 k x0 (decide (x5 > 0)) false (wrap64 (x5 + 1))))) else (if x4 = true then (if (bt x0 x5) ≥ 65 then (if (bt x0 x5) ≤ 90 then (aumbryref03_Kind.l0 k x0 (decide (x5 > 0)) true (wrap64 (x5 + 1))) else (aumbryref03_Kind.l0 k x0 (decide (x5 > 0)) (decide (x5 > 0)) (wrap64 (x5 + 1)))) else (aumbryref03_Kind.l0 k x0 (decide (x5 > 0)) (decide (x5 > 0)) (wrap64 (x5 + 1)))) else (aumbryref03_Kind.l0 k x0 (decide (x5 > 0)) false (wrap64 (x5 + 1))))) else (if x4 = true then (if (bt x0 x5) ≥ 65 then (if (bt x0 x5) ≤ 90 then (aumbryref03_Kind.l0 k x0 false true (wrap64 (x5 + 1))) else (aumbryref03_Kind.l0 k x0 false (decide (x5 > 0)) (wrap64 (x5 + 1)))) else (aumbryref03_Kind.l0 k x0 false (decide (x5 > 0)) (wrap64 (x5 + 1)))) else (aumbryref03_Kind.l0 k x0 false false (wrap64 (x5 + 1))))) else (if x3 = true then (if (bt x0 x5) ≥ 97 then (if (bt x0 x5) ≤ 122 then (if x4 = true then (if (bt x0 x5) ≥ 65 then (if (bt x0 x5) ≤ 90 then (aumbryref03_Kind.l0 k x0 true true (wrap64 (x5 + 1))) else (aumbryref03_Kind.l0 k x0 true false (wrap64 (x5 + 1)))) else (aumbryref03_Kind.l0 k x0 true false (wrap64 (x5 + 1)))) else (aumbryref03_Kind.l0 k x0 true false (wrap64 (x5 + 1)))) else (if x4 = true then (if (bt x0 x5) ≥ 65 then (if (bt x0 x5) ≤ 90 then (aumbryref03_Kind.l0 k x0 false true (wrap64 (x5 + 1))) else (aumbryref03_Kind.l0 k x0 false false (wrap64 (x5 + 1)))) else (aumbryref03_Kind.l0 k x0 false false (wrap64 (x5 + 1)))) else (aumbryref03_Kind.l0 k x0 false false (wrap64 (x5 + 1))))) else (if x4 = true then (if (bt x0 x5) ≥ 65 then (if (bt x0 x5) ≤ 90 then (aumbryref03_Kind.l0 k x0 false true (wrap64 (x5 + 1))) else (aumbryref03_Kind.l0 k x0 false false (wrap64 (x5 + 1)))) else (aumbryref03_Kind.l0 k x0 false false (wrap64 (x5 + 1)))) else (aumbryref03_Kind.l0 k x0 false false (wrap64 (x5 + 1))))) else (if x4 = true then (if (bt x0 x5) ≥ 65 then (if (bt x0 x5) ≤ 90 then (aumbryref03_Kind.l0 k x0 false true (wrap64 (x5 + 1))) else (aumbryref03_Kind.l0 k x0 false false (wrap64 (x5 + 1)))) else (aumbryref03_Kind.l0 k x0 false false (wrap64 (x5 + 1)))) else (aumbryref03_Kind.l0 k x0 false false (wrap64 (x5 + 1)))))) else (if x3 = true then (if (bt x0 x5) ≥ 97 then (if (bt x0 x5) ≤ 122 then (if x4 = true then (if (bt x0 x5) ≥ 65 then (if (bt x0 x5) ≤ 90 then (aumbryref03_Kind.l0 k x0 true true (wrap64 (x5 + 1))) else (aumbryref03_Kind.l0 k x0 true false (wrap64 (x5 + 1)))) else (aumbryref03_Kind.l0 k x0 true false (wrap64 (x5 + 1)))) else (aumbryref03_Kind.l0 k x0 true false (wrap64 (x5 + 1)))) else (if x4 = true then (if (bt x0 x5) ≥ 65 then (if (bt x0 x5) ≤ 90 then (aumbryref03_Kind.l0 k x0 false true (wrap64 (x5 + 1))) else (aumbryref03_Kind.l0 k x0 false false (wrap64 (x5 + 1)))) else (aumbryref03_Kind.l0 k x0 false false (wrap64 (x5 + 1)))) else (aumbryref03_Kind.l0 k x0 false false (wrap64 (x5 + 1))))) else (if x4 = true then (if (bt x0 x5) ≥ 65 then (if (bt x0 x5) ≤ 90 then (aumbryref03_Kind.l0 k x0 false true (wrap64 (x5 + 1))) else (aumbryref03_Kind.l0 k x0 false false (wrap64 (x5 + 1)))) else (aumbryref03_Kind.l0 k x0 false false (wrap64 (x5 + 1)))) else (aumbryref03_Kind.l0 k x0 false false (wrap64 (x5 + 1))))) else (if x4 = true then (if (bt x0 x5) ≥ 65 then (if (bt x0 x5) ≤ 90 then (aumbryref03_Kind.l0 k x0 false true (wrap64 (x5 + 1))) else (aumbryref03_Kind.l0 k x0 false false (wrap64 (x5 + 1)))) else (aumbryref03_Kind.l0 k x0 false false (wrap64 (x5 + 1)))) else (aumbryref03_Kind.l0 k x0 false false (wrap64 (x5 + 1)))))) else (none)) else (if x3 = true then (some 1) else (if x4 = true then (some 2) else (some 0)))
end
def aumbryref03_Kind.f (k : Nat) (a0 : ByteArray) : Option (Int) := if (a0.size : Int) < 1 then (aumbryref03_Kind.j0 k a0 true) else (aumbryref03_Kind.j0 k a0 (decide ((a0.size : Int) > 8)))
theorem aumbryref03_Kind.mono_l : ∀ k, (∀ y0 y1, LeO (aumbryref03_Kind.j0 k y0 y1) (aumbryref03_Kind.j0 (k + 1) y0 y1)) ∧ (∀ y0 y1 y2 y3, LeO (aumbryref03_Kind.l0 k y0 y1 y2 y3) (aumbryref03_Kind.l0 (k + 1) y0 y1 y2 y3))
 | 0 => ⟨fun _ _ r h => by simp [aumbryref03_Kind.j0] at h, fun _ _ _ _ r h => by simp [aumbryref03_Kind.l0] at h⟩
 | k + 1 => by
  obtain ⟨ih0, ih1⟩ := aumbryref03_Kind.mono_l k
  refine ⟨?_, ?_⟩
  ·
   intro y0 y1
   unfold aumbryref03_Kind.j0
   repeat' first
   | (with_reducible exact ih0 _ _)
   | (with_reducible exact ih1 _ _ _ _)
   | (with_reducible exact LeO.refl _)
   | (with_reducible exact LeO.none _)
   | (with_reducible refine LeO.ite ?_ ?_)
   | (with_reducible refine LeO.bind ?_ (fun _ => ?_))
  ·
   intro y0 y1 y2 y3
   unfold aumbryref03_Kind.l0
   repeat' first
   | (with_reducible exact ih0 _ _)
   | (with_reducible exact ih1 _ _ _ _)
   | (with_reducible exact LeO.refl _)
   | (with_reducible exact LeO.none _)
   | (with_reducible refine LeO.ite ?_ ?_)
   | (with_reducible refine LeO.bind ?_ (fun _ => ?_))
theorem aumbryref03_Kind.mono : ∀ a0 k, LeO (aumbryref03_Kind.f k a0) (aumbryref03_Kind.f (k + 1) a0) := by
 intro a0 k
 obtain ⟨ih0, ih1⟩ := aumbryref03_Kind.mono_l k
 unfold aumbryref03_Kind.f
 repeat' first
  | (with_reducible exact ih0 _ _)
  | (with_reducible exact ih1 _ _ _ _)
  | (with_reducible exact LeO.refl _)
  | (with_reducible exact LeO.none _)
  | (with_reducible refine LeO.ite ?_ ?_)
  | (with_reducible refine LeO.bind ?_ (fun _ => ?_))
theorem aumbryref03_Kind.calls (k : Nat) (a0 : ByteArray) (r : Int) (w : World) (h : aumbryref03_Kind.f k a0 = some r) :
 Calls Tryd.prog 61 #[.string a0] w fun e w' => e = .returned (.int .i64 r) ∧ Drawn0 w w' := by
 have H : (if (a0.size : Int) < 1 then (aumbryref03_Kind.j0 k a0 true) else (aumbryref03_Kind.j0 k a0 (decide ((a0.size : Int) > 8)))) = some r := h
 clear h
 cases k with
 | zero => exact absurd H (by by_cases c : (a0.size : Int) < 1 <;> simp [aumbryref03_Kind.j0, c])
 | succ k =>
 simp only [aumbryref03_Kind.j0] at H
 by_cases c1 : (a0.size : Int) < 1
 ·
  rw [if_pos c1] at H
  simp only [if_true] at H
  obtain rfl := zS H
  have d1 : decide ((a0.size : Int) < 1) = true := zQ c1
  have d2 : decide (a0.size < 1) = true := zQ (by omega)
  go_enter Tryd.func61, Tryd.ntmps61
  go_wp2
  go_ret
  exact ⟨rfl, zd⟩
 rw [if_neg c1] at H
 have d1 : decide ((a0.size : Int) < 1) = false := zR c1
 have d2 : decide (a0.size < 1) = false := zR (by omega)
 by_cases c2 : (a0.size : Int) > 8
 ·
  rw [if_pos (zQ c2)] at H
  obtain rfl := zS H
  have d3 : decide ((a0.size : Int) > 8) = true := zQ c2
  have d4 : decide (8 < a0.size) = true := zQ (by omega)
  go_enter Tryd.func61, Tryd.ntmps61
  go_wp2
  go_ret
  exact ⟨rfl, zd⟩
 rw [if_neg (by simpa using c2)] at H
 have d3 : decide ((a0.size : Int) > 8) = false := zR c2
 have d4 : decide (8 < a0.size) = false := zR (by omega)
 have HA := zM H
 clear H
 go_enter Tryd.func61, Tryd.ntmps61
 go_wp2
 clear d1 d2 d3 d4
 go_loopg [3, 4, 5] a0.size (fun kq v3 v4 v5 w' => ∃ (x3 x4 : Bool) (x5 : Int) (kk : Nat), v3 = .bool x3 ∧ v4 = .bool x4 ∧ v5 = .int .i64 x5 ∧ Aside0 (0 ≤ x5 ∧ x5 + kq = (a0.size : Int)) ∧ Aside0 (aumbryref03_Kind.l0 kk a0 x3 x4 x5 = some r) ∧ Drawn0 w w')
 case atStart => exact ⟨true, true, 0, k, rfl, rfl, rfl, ⟨by omega⟩, HA, zd⟩
 case round =>
  clear HA
  obtain ⟨x3, x4, x5, kk, rfl, rfl, rfl, HX, HA, ⟨m2, rfl⟩⟩ := hrel
  cases kk with
  | zero => exact absurd HA.out (by simp [aumbryref03_Kind.l0])
  | succ kk =>
  have H := HA.out
  simp only [aumbryref03_Kind.l0] at H
  clear HA
  cases gk with
  | succ k2 =>
   have hi : 0 ≤ x5 ∧ x5 < (a0.size : Int) := by have := HX.out; omega
   rw [if_pos hi.2, if_pos hi.1] at H
   have hx7 := bt_at a0 x5
   have p7 : (0 ≤ x5) = True := eq_true hi.1
   have q7 : (x5 < (a0.size : Int)) = True := eq_true hi.2
   have q8 : decide (x5 < (a0.size : Int)) = true := zQ hi.2
   have cls : bt a0 x5 < 48 ∨ (48 ≤ bt a0 x5 ∧ bt a0 x5 ≤ 57) ∨ (57 < bt a0 x5 ∧ bt a0 x5 < 65) ∨ (65 ≤ bt a0 x5 ∧ bt a0 x5 ≤ 90) ∨ (90 < bt a0 x5 ∧ bt a0 x5 < 97) ∨ (97 ≤ bt a0 x5 ∧ bt a0 x5 ≤ 122) ∨ 122 < bt a0 x5 := by omega
   have hup : wrap64 (x5 + 1) = x5 + 1 := by have := HX.out; have := c2; unfold wrap64; omega
   rcases cls with h | h | h | h | h | h | h
   all_goals
    (first | have d1 : decide (48 ≤ bt a0 x5) = true := zQ (by omega) | have d1 : decide (48 ≤ bt a0 x5) = false := zR (by omega))
    (first | have d2 : decide (bt a0 x5 ≤ 57) = true := zQ (by omega) | have d2 : decide (bt a0 x5 ≤ 57) = false := zR (by omega))
    (first | have d3 : decide (97 ≤ bt a0 x5) = true := zQ (by omega) | have d3 : decide (97 ≤ bt a0 x5) = false := zR (by omega))
    (first | have d4 : decide (bt a0 x5 ≤ 122) = true := zQ (by omega) | have d4 : decide (bt a0 x5 ≤ 122) = false := zR (by omega))
    (first | have d5 : decide (65 ≤ bt a0 x5) = true := zQ (by omega) | have d5 : decide (65 ≤ bt a0 x5) = false := zR (by omega))
    (first | have d6 : decide (bt a0 x5 ≤ 90) = true := zQ (by omega) | have d6 : decide (bt a0 x5 ≤ 90) = false := zR (by omega))
    (first | rw [if_pos (show bt a0 x5 ≥ 48 by omega)] at H | rw [if_neg (show ¬ bt a0 x5 ≥ 48 by omega)] at H)
    (try (first | rw [if_pos (show bt a0 x5 ≤ 57 by omega)] at H | rw [if_neg (show ¬ bt a0 x5 ≤ 57 by omega)] at H))
    (try (first | (have e3 : (bt a0 x5 ≥ 97) = True := eq_true (by omega); simp only [e3, if_true] at H; clear e3) | (have e3 : (bt a0 x5 ≥ 97) = False := eq_false (by omega); simp only [e3, if_false] at H; clear e3)))
    (try (first | (have e4 : (bt a0 x5 ≤ 122) = True := eq_true (by omega); simp only [e4, if_true] at H; clear e4) | (have e4 : (bt a0 x5 ≤ 122) = False := eq_false (by omega); simp only [e4, if_false] at H; clear e4)))
    (try (first | (have e5 : (bt a0 x5 ≥ 65) = True := eq_true (by omega); simp only [e5, if_true] at H; clear e5) | (have e5 : (bt a0 x5 ≥ 65) = False := eq_false (by omega); simp only [e5, if_false] at H; clear e5)))
    (try (first | (have e6 : (bt a0 x5 ≤ 90) = True := eq_true (by omega); simp only [e6, if_true] at H; clear e6) | (have e6 : (bt a0 x5 ≤ 90) = False := eq_false (by omega); simp only [e6, if_false] at H; clear e6)))
    clear h
    cases x3 <;> cases x4 <;> simp only [if_true, if_false, Bool.false_eq_true] at H
    all_goals
     go_wp2
     go_roundg k2
     case measure => have := HX.out; omega
     case rel => exact ⟨_, _, _, kk, zy, zy, zy, ⟨by rw [hup]; have := HX.out; omega⟩, ⟨H⟩, zd⟩
  | zero =>
   have hx : x5 = (a0.size : Int) := by have := HX.out; omega
   subst hx
   rw [if_neg (by omega)] at H
   have q8 : decide ((a0.size : Int) < (a0.size : Int)) = false := zR (by omega)
   cases x3 <;> cases x4 <;> simp only [if_true, if_false, Bool.false_eq_true] at H
   all_goals
    obtain rfl := zS H
    go_wp2
    go_ret
    exact ⟨rfl, zd⟩


-- ==== PF62

mutual
def aumbryref04_Behind.j0 : Nat → List (S33) → Int → Bool → Option (Int)
 | 0, _, _, _ => none
 | k + 1, x0, x1, x14 => if x14 = true then (some (-1)) else (if 0 ≤ x1 then (if x1 < (x0.length : Int) then (aumbryref04_Behind.l0 k x0 (wrap64 (x1 + 1)) ((rd_T33 x0 x1).f1) 0) else (none)) else (none))
def aumbryref04_Behind.l0 : Nat → List (S33) → Int → Int → Int → Option (Int)
 | 0, _, _, _, _ => none
 | k + 1, x0, x1, x5, x6 => if x6 < x5 then (if x1 ≥ 0 then ((aumbryref04_Behind.f k x0 x1).bind fun t102 => (aumbryref04_Behind.l0 k x0 t102 x5 (wrap64 (x6 + 1)))) else (some x1)) else (some x1)
def aumbryref04_Behind.f : Nat → List (S33) → Int → Option (Int)
 | 0, _, _ => none
 | k + 1, l0, a1 => if a1 < 0 then (aumbryref04_Behind.j0 k l0 a1 true) else (aumbryref04_Behind.j0 k l0 a1 (decide (a1 ≥ (l0.length : Int))))
end
theorem aumbryref04_Behind.mono_l : ∀ k, (∀ y0 y1, LeO (aumbryref04_Behind.f k y0 y1) (aumbryref04_Behind.f (k + 1) y0 y1)) ∧ (∀ y0 y1 y2, LeO (aumbryref04_Behind.j0 k y0 y1 y2) (aumbryref04_Behind.j0 (k + 1) y0 y1 y2)) ∧ (∀ y0 y1 y2 y3, LeO (aumbryref04_Behind.l0 k y0 y1 y2 y3) (aumbryref04_Behind.l0 (k + 1) y0 y1 y2 y3))
 | 0 => ⟨fun _ _ r h => by simp [aumbryref04_Behind.f] at h, fun _ _ _ r h => by simp [aumbryref04_Behind.j0] at h, fun _ _ _ _ r h => by simp [aumbryref04_Behind.l0] at h⟩
 | k + 1 => by
  obtain ⟨ih0, ih1, ih2⟩ := aumbryref04_Behind.mono_l k
  refine ⟨?_, ?_, ?_⟩
  ·
   intro y0 y1
   unfold aumbryref04_Behind.f
   repeat' first
   | (with_reducible exact ih0 _ _)
   | (with_reducible exact ih1 _ _ _)
   | (with_reducible exact ih2 _ _ _ _)
   | (with_reducible exact LeO.refl _)
   | (with_reducible exact LeO.none _)
   | (with_reducible refine LeO.ite ?_ ?_)
   | (with_reducible refine LeO.bind ?_ (fun _ => ?_))
  ·
   intro y0 y1 y2
   unfold aumbryref04_Behind.j0
   repeat' first
   | (with_reducible exact ih0 _ _)
   | (with_reducible exact ih1 _ _ _)
   | (with_reducible exact ih2 _ _ _ _)
   | (with_reducible exact LeO.refl _)
   | (with_reducible exact LeO.none _)
   | (with_reducible refine LeO.ite ?_ ?_)
   | (with_reducible refine LeO.bind ?_ (fun _ => ?_))
  ·
   intro y0 y1 y2 y3
   unfold aumbryref04_Behind.l0
   repeat' first
   | (with_reducible exact ih0 _ _)
   | (with_reducible exact ih1 _ _ _)
   | (with_reducible exact ih2 _ _ _ _)
   | (with_reducible exact LeO.refl _)
   | (with_reducible exact LeO.none _)
   | (with_reducible refine LeO.ite ?_ ?_)
   | (with_reducible refine LeO.bind ?_ (fun _ => ?_))
theorem aumbryref04_Behind.mono : ∀ a0 a1 k, LeO (aumbryref04_Behind.f k a0 a1) (aumbryref04_Behind.f (k + 1) a0 a1) := by
 intro a0 a1 k
 obtain ⟨ih0, ih1, ih2⟩ := aumbryref04_Behind.mono_l k
 exact ih0 a0 a1
theorem aumbryref04_Behind.calls (k : Nat) : ∀ (A0 : Option Addr) (c0 : Nat) (l0 : List (S33)) (a1 : Int) (r : Int) (w : World) (hr0 : Kd.C k33 w A0 l0.length l0) (hc0 : l0.length ≤ c0) (h : aumbryref04_Behind.f k l0 a1 = some r),
 Calls Tryd.prog 62 #[.slice A0 l0.length c0, .int .i64 a1] w fun e w' => e = .returned (.int .i64 r) ∧ Drawn0 w w' := by
 induction k using Nat.strongRecOn with
 | _ k ih =>
 intro A0 c0 l0 a1 r w hr0 hc0 h
 cases k with
 | zero => exact absurd h (by simp [aumbryref04_Behind.f])
 | succ k =>
 simp only [aumbryref04_Behind.f] at h
 have HR0 := zM hr0
 have HC0 := zM hc0
 clear hr0 hc0
 have H : (if a1 < 0 then (aumbryref04_Behind.j0 k l0 a1 true) else (aumbryref04_Behind.j0 k l0 a1 (decide (a1 ≥ (l0.length : Int))))) = some r := h
 clear h
 have HC3 := zM H
 clear H
 go_enter Tryd.func62, Tryd.ntmps62
 go_upto_region 1 with (fail)
 go_cut [14] (fun v14 wc => ∃ (kq : Nat) (x14_2 : Bool), v14 = .bool x14_2 ∧ Aside0 (aumbryref04_Behind.j0 kq l0 a1 x14_2 = some r) ∧ Aside0 (kq ≤ k) ∧ Drawn0 w wc)
 case first =>
  have H := HC3.out
  clear HC3
  by_cases c4 : a1 < 0
  ·
   rw [if_pos c4] at H
   have c4b0 : decide (a1 < 0) = true := zQ c4
   clear c4
   (first | rw [c4b0] | (simp only [i64_w, i32_w]; rw [c4b0]) | skip)
   have H' := zM H
   clear H
   go_wp2
   go_meet
   case rel => exact ⟨_, (true), zy, H', ⟨by first | omega | exact Nat.le_refl _⟩, zd⟩
  ·
   rw [if_neg c4] at H
   have c4b0 : decide (a1 < 0) = false := zR c4
   clear c4
   (first | rw [c4b0] | (simp only [i64_w, i32_w]; rw [c4b0]) | skip)
   have H' := zM H
   clear H
   go_wp2
   go_meet
   case rel => exact ⟨_, (decide (a1 ≥ (l0.length : Int))), zy, H', ⟨by first | omega | exact Nat.le_refl _⟩, zd⟩
 case rest =>
  clear HC3
  try clear p2
  try clear c4
  try clear c4b0
  obtain ⟨kq, x14_2, rfl, HA, HJ2, ⟨mc2, rfl⟩⟩ := hcut
  cases kq with
  | zero => exact absurd HA.out (by simp [aumbryref04_Behind.j0])
  | succ kj2 =>
   have H := HA.out
   clear HA
   simp only [aumbryref04_Behind.j0] at H
   by_cases c5 : x14_2 = true
   ·
    subst c5
    rw [if_pos rfl] at H
    obtain rfl := zS H
    go_wp2
    go_ret
    exact ⟨zy, zd⟩
   ·
    replace c5 := zI c5
    subst c5
    rw [if_neg (show ¬ (false = true) by decide)] at H
    by_cases c6 : 0 ≤ a1
    ·
     rw [if_pos c6] at H
     have c6b0 : decide (0 ≤ a1) = true := zQ c6
     clear c6
     by_cases c7 : a1 < (l0.length : Int)
     ·
      rw [if_pos c7] at H
      have c7b0 : decide (a1 < (l0.length : Int)) = true := zQ c7
      clear c7
      have H' := zM H
      clear H
      have p101 : 0 ≤ (a1 : Int) := zT zv
      have q101 : a1 < (l0.length : Int) := zT zv
      obtain ⟨ad101, e101, hx101_0, hx101_1⟩ := at_T33 HR0.out a1 p101 q101
      cases e101
      replace p101 := eq_true p101
      replace q101 := eq_true q101
      go_wp2
      go_loopg [1, 6] kj2 (fun kq v1 v6 w' => ∃ (x1_2 : Int) (x6_2 : Int), v1 = .int .i64 x1_2 ∧ v6 = .int .i64 x6_2 ∧ Aside0 (aumbryref04_Behind.l0 kq l0 x1_2 ((rd_T33 l0 a1).f1) x6_2 = some r) ∧ Aside0 (kq ≤ kj2) ∧ Drawn0 w w')
      case atStart => exact ⟨(wrap64 (a1 + 1)), (0), zy, zy, H', ⟨Nat.le_refl _⟩, zd⟩
      case round =>
       clear H'
       try clear p1
       try clear q1
       try clear hx1
       try clear c2
       try clear p2
       try clear c4
       try clear c4b0
       try clear c5
       try clear c6
       try clear c6b0
       try clear p6
       try clear c7
       try clear c7b0
       try clear hx101_0
       try clear hx101_1
       try clear p101
       try clear p2
       try clear q101
       obtain ⟨x1_2, x6_2, rfl, rfl, HA, HK2, ⟨m2, rfl⟩⟩ := hrel
       cases gk with
       | zero => exact absurd HA.out (by simp [aumbryref04_Behind.l0])
       | succ k2 =>
        have H := HA.out
        clear HA
        simp only [aumbryref04_Behind.l0] at H
        by_cases c8 : x6_2 < ((rd_T33 l0 a1).f1)
        ·
         rw [if_pos c8] at H
         have c8b0 : decide (x6_2 < ((rd_T33 l0 a1).f1)) = true := zQ c8
         clear c8
         by_cases c9 : x1_2 ≥ 0
         ·
          rw [if_pos c9] at H
          have c9b0 : decide (0 ≤ x1_2) = true := zQ c9
          clear c9
          replace H := zB H
          obtain ⟨t102, A100, H⟩ := H
          try dsimp only at H
          have A10 := zM A100
          clear A100
          have H' := zM H
          clear H
          go_wp2_with (first | ((with_reducible refine gate_callee (f := 62) rfl ?_); refine goesL_ (some 33) rfl rfl Tryd.func62 (by kernel_rfl) rfl #[.slice (some ad101) l0.length c0, .int .i64 x1_2] rfl zl ?_; (with_reducible refine (ih k2 (by have := HJ2.out; have := HK2.out; omega) _ _ l0 x1_2 t102 _ ?side1 ?side2 A10.out).mono ?_); (case side1 => exact Kd.C_below HR0.out zg); (case side2 => exact HC0.out); rintro e w' ⟨rfl, ⟨nd, rfl⟩⟩; refine ⟨_, rfl, ?_⟩))
          go_roundg k2
          case measure => have := HJ2.out; have := HK2.out; omega
          case rel => exact ⟨(t102), (wrap64 (x6_2 + 1)), zy, zy, H', ⟨by have := HJ2.out; have := HK2.out; omega⟩, zd⟩
         ·
          rw [if_neg c9] at H
          have c9b0 : decide (0 ≤ x1_2) = false := zR c9
          clear c9
          obtain rfl := zS H
          go_wp2
          go_ret
          exact ⟨zy, zd⟩
        ·
         rw [if_neg c8] at H
         have c8b0 : decide (x6_2 < ((rd_T33 l0 a1).f1)) = false := zR c8
         clear c8
         obtain rfl := zS H
         go_wp2
         go_ret
         exact ⟨zy, zd⟩
     ·
      rw [if_neg c7] at H
      exact absurd H (by simp)
    ·
     rw [if_neg c6] at H
     exact absurd H (by simp)


-- ==== PF37

def aumbryref04_Check.l0 : Nat → List (S33) → Int → Int → Option (Int)
 | 0, _, _, _ => none
 | k + 1, x0, x9, x10 => if x10 < x9 then (if 0 ≤ x10 then (if x10 < (x0.length : Int) then ((aumbryref03_Kind.f k ((rd_T33 x0 x10).f0)).bind fun t103 => (if t103 = 0 then (some 4) else (if ((rd_T33 x0 x10).f1) < 0 then (some 5) else (if ((rd_T33 x0 x10).f1) > 4 then (some 5) else (if t103 = 2 then (if ((rd_T33 x0 x10).f1) = 0 then (aumbryref04_Check.l0 k x0 x9 (wrap64 (x10 + 1))) else (some 5)) else (aumbryref04_Check.l0 k x0 x9 (wrap64 (x10 + 1)))))))) else (none)) else (none)) else ((aumbryref04_Behind.f k x0 0).bind fun t101 => (if t101 = (x0.length : Int) then (some 0) else (some 3)))
def aumbryref04_Check.f (k : Nat) (l0 : List (S33)) : Option (Int) := if (l0.length : Int) > 64 then (some 6) else (aumbryref04_Check.l0 k l0 (l0.length : Int) 0)
theorem aumbryref04_Check.mono_l : ∀ k, (∀ y0 y1 y2, LeO (aumbryref04_Check.l0 k y0 y1 y2) (aumbryref04_Check.l0 (k + 1) y0 y1 y2))
 | 0 => fun _ _ _ r h => by simp [aumbryref04_Check.l0] at h
 | k + 1 => by
  have ih0 := aumbryref04_Check.mono_l k
  ·
   intro y0 y1 y2
   unfold aumbryref04_Check.l0
   repeat' first
   | (with_reducible exact ih0 _ _ _)
   | (with_reducible exact aumbryref03_Kind.mono _ _)
   | (with_reducible exact aumbryref04_Behind.mono _ _ _)
   | (with_reducible exact LeO.refl _)
   | (with_reducible exact LeO.none _)
   | (with_reducible refine LeO.ite ?_ ?_)
   | (with_reducible refine LeO.bind ?_ (fun _ => ?_))
theorem aumbryref04_Check.mono : ∀ a0 k, LeO (aumbryref04_Check.f k a0) (aumbryref04_Check.f (k + 1) a0) := by
 intro a0 k
 have ih0 := aumbryref04_Check.mono_l k
 unfold aumbryref04_Check.f
 repeat' first
  | (with_reducible exact ih0 _ _ _)
  | (with_reducible exact aumbryref03_Kind.mono _ _)
  | (with_reducible exact aumbryref04_Behind.mono _ _ _)
  | (with_reducible exact LeO.refl _)
  | (with_reducible exact LeO.none _)
  | (with_reducible refine LeO.ite ?_ ?_)
  | (with_reducible refine LeO.bind ?_ (fun _ => ?_))
theorem aumbryref04_Check.calls (k : Nat) (A0 : Option Addr) (c0 : Nat) (l0 : List (S33)) (r : Int) (w : World) (hr0 : Kd.C k33 w A0 l0.length l0) (hc0 : l0.length ≤ c0) (h : aumbryref04_Check.f k l0 = some r) :
 Calls Tryd.prog 37 #[.slice A0 l0.length c0] w fun e w' => e = .returned (.int .i64 r) ∧ Drawn0 w w' := by
 have HR0 := zM hr0
 have HC0 := zM hc0
 clear hr0 hc0
 have H : (if (l0.length : Int) > 64 then (some 6) else (aumbryref04_Check.l0 k l0 (l0.length : Int) 0)) = some r := h
 clear h
 by_cases c2 : (l0.length : Int) > 64
 ·
  rw [if_pos c2] at H
  have c2b0 : decide (64 < (l0.length : Int)) = true := zQ c2
  have c2b1 : decide (64 < l0.length) = true := zQ (by omega)
  clear c2
  obtain rfl := zS H
  go_enter Tryd.func37, Tryd.ntmps37
  go_wp2
  go_ret
  exact ⟨zy, zd⟩
 ·
  rw [if_neg c2] at H
  have c2b0 : decide (64 < (l0.length : Int)) = false := zR c2
  have c2b1 : decide (64 < l0.length) = false := zR (by omega)
  clear c2
  have H' := zM H
  clear H
  go_enter Tryd.func37, Tryd.ntmps37
  go_wp2
  go_loopg [10] k (fun kq v10 w' => ∃ (x10_1 : Int), v10 = .int .i64 x10_1 ∧ Aside0 (aumbryref04_Check.l0 kq l0 (l0.length : Int) x10_1 = some r) ∧ Aside0 (kq ≤ k) ∧ Drawn0 w w')
  case atStart => exact ⟨(0), zy, H', ⟨Nat.le_refl _⟩, zd⟩
  case round =>
   clear H'
   try clear c2
   try clear c2b0
   try clear c2b1
   try clear p2
   obtain ⟨x10_1, rfl, HA, HK1, ⟨m1, rfl⟩⟩ := hrel
   cases gk with
   | zero => exact absurd HA.out (by simp [aumbryref04_Check.l0])
   | succ k1 =>
    have H := HA.out
    clear HA
    simp only [aumbryref04_Check.l0] at H
    by_cases c3 : x10_1 < (l0.length : Int)
    ·
     rw [if_pos c3] at H
     have c3b0 : decide (x10_1 < (l0.length : Int)) = true := zQ c3
     clear c3
     by_cases c4 : 0 ≤ x10_1
     ·
      rw [if_pos c4] at H
      have c4b0 : decide (0 ≤ x10_1) = true := zQ c4
      clear c4
      by_cases c5 : x10_1 < (l0.length : Int)
      ·
       rw [if_pos c5] at H
       have c5b0 : decide (x10_1 < (l0.length : Int)) = true := zQ c5
       clear c5
       replace H := zB H
       obtain ⟨t103, A60, H⟩ := H
       try dsimp only at H
       have A6 := zM A60
       clear A60
       by_cases c7 : t103 = 0
       ·
        rw [if_pos c7] at H
        have c7b0 : (t103 == 0) = true := zG c7
        have c7b1 : (t103 != 0) = false := zH c7
        clear c7
        obtain rfl := zS H
        have p102 : 0 ≤ (x10_1 : Int) := zT zv
        have q102 : x10_1 < (l0.length : Int) := zT zv
        obtain ⟨ad102, e102, hx102_0, hx102_1⟩ := at_T33 HR0.out x10_1 p102 q102
        cases e102
        replace p102 := eq_true p102
        replace q102 := eq_true q102
        go_wp2_with (first | ((with_reducible refine gate_callee (f := 61) rfl ?_); refine goesL_ (some 18) rfl rfl Tryd.func61 (by kernel_rfl) rfl #[.string ((rd_T33 l0 x10_1).f0)] rfl zl ?_; (with_reducible refine (aumbryref03_Kind.calls k1 ((rd_T33 l0 x10_1).f0) t103 _ A6.out).mono ?_); rintro e w' ⟨rfl, ⟨nd, rfl⟩⟩; refine ⟨_, rfl, ?_⟩))
        go_ret
        exact ⟨zy, zd⟩
       ·
        rw [if_neg c7] at H
        have c7b0 : (t103 == 0) = false := zE c7
        have c7b1 : (t103 != 0) = true := zF c7
        by_cases c8 : ((rd_T33 l0 x10_1).f1) < 0
        ·
         rw [if_pos c8] at H
         have c8b0 : decide (((rd_T33 l0 x10_1).f1) < 0) = true := zQ c8
         clear c8
         obtain rfl := zS H
         have p102 : 0 ≤ (x10_1 : Int) := zT zv
         have q102 : x10_1 < (l0.length : Int) := zT zv
         obtain ⟨ad102, e102, hx102_0, hx102_1⟩ := at_T33 HR0.out x10_1 p102 q102
         cases e102
         replace p102 := eq_true p102
         replace q102 := eq_true q102
         go_wp2_with (first | ((with_reducible refine gate_callee (f := 61) rfl ?_); refine goesL_ (some 18) rfl rfl Tryd.func61 (by kernel_rfl) rfl #[.string ((rd_T33 l0 x10_1).f0)] rfl zl ?_; (with_reducible refine (aumbryref03_Kind.calls k1 ((rd_T33 l0 x10_1).f0) t103 _ A6.out).mono ?_); rintro e w' ⟨rfl, ⟨nd, rfl⟩⟩; refine ⟨_, rfl, ?_⟩; have p104 : 0 ≤ (x10_1 : Int) := zT zv; have q104 : x10_1 < (l0.length : Int) := zT zv; obtain ⟨ad104, e104, hx104_0, hx104_1⟩ := at_T33 HR0.out x10_1 p104 q104; obtain rfl : ad102 = ad104 := (by injection e104); replace p104 := eq_true p104; replace q104 := eq_true q104))
         go_ret
         exact ⟨zy, zd⟩
        ·
         rw [if_neg c8] at H
         have c8b0 : decide (((rd_T33 l0 x10_1).f1) < 0) = false := zR c8
         clear c8
         by_cases c9 : ((rd_T33 l0 x10_1).f1) > 4
         ·
          rw [if_pos c9] at H
          have c9b0 : decide (4 < ((rd_T33 l0 x10_1).f1)) = true := zQ c9
          clear c9
          obtain rfl := zS H
          have p102 : 0 ≤ (x10_1 : Int) := zT zv
          have q102 : x10_1 < (l0.length : Int) := zT zv
          obtain ⟨ad102, e102, hx102_0, hx102_1⟩ := at_T33 HR0.out x10_1 p102 q102
          cases e102
          replace p102 := eq_true p102
          replace q102 := eq_true q102
          go_wp2_with (first | ((with_reducible refine gate_callee (f := 61) rfl ?_); refine goesL_ (some 18) rfl rfl Tryd.func61 (by kernel_rfl) rfl #[.string ((rd_T33 l0 x10_1).f0)] rfl zl ?_; (with_reducible refine (aumbryref03_Kind.calls k1 ((rd_T33 l0 x10_1).f0) t103 _ A6.out).mono ?_); rintro e w' ⟨rfl, ⟨nd, rfl⟩⟩; refine ⟨_, rfl, ?_⟩; have p104 : 0 ≤ (x10_1 : Int) := zT zv; have q104 : x10_1 < (l0.length : Int) := zT zv; obtain ⟨ad104, e104, hx104_0, hx104_1⟩ := at_T33 HR0.out x10_1 p104 q104; obtain rfl : ad102 = ad104 := (by injection e104); replace p104 := eq_true p104; replace q104 := eq_true q104; have p105 : 0 ≤ (x10_1 : Int) := zT zv; have q105 : x10_1 < (l0.length : Int) := zT zv; obtain ⟨ad105, e105, hx105_0, hx105_1⟩ := at_T33 HR0.out x10_1 p105 q105; obtain rfl : ad102 = ad105 := (by injection e105); replace p105 := eq_true p105; replace q105 := eq_true q105))
          go_ret
          exact ⟨zy, zd⟩
         ·
          rw [if_neg c9] at H
          have c9b0 : decide (4 < ((rd_T33 l0 x10_1).f1)) = false := zR c9
          clear c9
          by_cases c10 : t103 = 2
          ·
           rw [if_pos c10] at H
           have c10b0 : (t103 == 2) = true := zG c10
           have c10b1 : (t103 != 2) = false := zH c10
           clear c10
           by_cases c11 : ((rd_T33 l0 x10_1).f1) = 0
           ·
            rw [if_pos c11] at H
            have c11b0 : (((rd_T33 l0 x10_1).f1) == 0) = true := zG c11
            have c11b1 : (((rd_T33 l0 x10_1).f1) != 0) = false := zH c11
            clear c11
            have H' := zM H
            clear H
            have p102 : 0 ≤ (x10_1 : Int) := zT zv
            have q102 : x10_1 < (l0.length : Int) := zT zv
            obtain ⟨ad102, e102, hx102_0, hx102_1⟩ := at_T33 HR0.out x10_1 p102 q102
            cases e102
            replace p102 := eq_true p102
            replace q102 := eq_true q102
            go_wp2_with (first | ((with_reducible refine gate_callee (f := 61) rfl ?_); refine goesL_ (some 18) rfl rfl Tryd.func61 (by kernel_rfl) rfl #[.string ((rd_T33 l0 x10_1).f0)] rfl zl ?_; (with_reducible refine (aumbryref03_Kind.calls k1 ((rd_T33 l0 x10_1).f0) t103 _ A6.out).mono ?_); rintro e w' ⟨rfl, ⟨nd, rfl⟩⟩; refine ⟨_, rfl, ?_⟩; have p104 : 0 ≤ (x10_1 : Int) := zT zv; have q104 : x10_1 < (l0.length : Int) := zT zv; obtain ⟨ad104, e104, hx104_0, hx104_1⟩ := at_T33 HR0.out x10_1 p104 q104; obtain rfl : ad102 = ad104 := (by injection e104); replace p104 := eq_true p104; replace q104 := eq_true q104; have p105 : 0 ≤ (x10_1 : Int) := zT zv; have q105 : x10_1 < (l0.length : Int) := zT zv; obtain ⟨ad105, e105, hx105_0, hx105_1⟩ := at_T33 HR0.out x10_1 p105 q105; obtain rfl : ad102 = ad105 := (by injection e105); replace p105 := eq_true p105; replace q105 := eq_true q105; have p106 : 0 ≤ (x10_1 : Int) := zT zv; have q106 : x10_1 < (l0.length : Int) := zT zv; obtain ⟨ad106, e106, hx106_0, hx106_1⟩ := at_T33 HR0.out x10_1 p106 q106; obtain rfl : ad102 = ad106 := (by injection e106); replace p106 := eq_true p106; replace q106 := eq_true q106))
            go_roundg k1
            case measure => have := HK1.out; omega
            case rel => exact ⟨(wrap64 (x10_1 + 1)), zy, H', ⟨by have := HK1.out; omega⟩, zd⟩
           ·
            rw [if_neg c11] at H
            have c11b0 : (((rd_T33 l0 x10_1).f1) == 0) = false := zE c11
            have c11b1 : (((rd_T33 l0 x10_1).f1) != 0) = true := zF c11
            obtain rfl := zS H
            have p102 : 0 ≤ (x10_1 : Int) := zT zv
            have q102 : x10_1 < (l0.length : Int) := zT zv
            obtain ⟨ad102, e102, hx102_0, hx102_1⟩ := at_T33 HR0.out x10_1 p102 q102
            cases e102
            replace p102 := eq_true p102
            replace q102 := eq_true q102
            go_wp2_with (first | ((with_reducible refine gate_callee (f := 61) rfl ?_); refine goesL_ (some 18) rfl rfl Tryd.func61 (by kernel_rfl) rfl #[.string ((rd_T33 l0 x10_1).f0)] rfl zl ?_; (with_reducible refine (aumbryref03_Kind.calls k1 ((rd_T33 l0 x10_1).f0) t103 _ A6.out).mono ?_); rintro e w' ⟨rfl, ⟨nd, rfl⟩⟩; refine ⟨_, rfl, ?_⟩; have p104 : 0 ≤ (x10_1 : Int) := zT zv; have q104 : x10_1 < (l0.length : Int) := zT zv; obtain ⟨ad104, e104, hx104_0, hx104_1⟩ := at_T33 HR0.out x10_1 p104 q104; obtain rfl : ad102 = ad104 := (by injection e104); replace p104 := eq_true p104; replace q104 := eq_true q104; have p105 : 0 ≤ (x10_1 : Int) := zT zv; have q105 : x10_1 < (l0.length : Int) := zT zv; obtain ⟨ad105, e105, hx105_0, hx105_1⟩ := at_T33 HR0.out x10_1 p105 q105; obtain rfl : ad102 = ad105 := (by injection e105); replace p105 := eq_true p105; replace q105 := eq_true q105; have p106 : 0 ≤ (x10_1 : Int) := zT zv; have q106 : x10_1 < (l0.length : Int) := zT zv; obtain ⟨ad106, e106, hx106_0, hx106_1⟩ := at_T33 HR0.out x10_1 p106 q106; obtain rfl : ad102 = ad106 := (by injection e106); replace p106 := eq_true p106; replace q106 := eq_true q106))
            go_ret
            exact ⟨zy, zd⟩
          ·
           rw [if_neg c10] at H
           have c10b0 : (t103 == 2) = false := zE c10
           have c10b1 : (t103 != 2) = true := zF c10
           have H' := zM H
           clear H
           have p102 : 0 ≤ (x10_1 : Int) := zT zv
           have q102 : x10_1 < (l0.length : Int) := zT zv
           obtain ⟨ad102, e102, hx102_0, hx102_1⟩ := at_T33 HR0.out x10_1 p102 q102
           cases e102
           replace p102 := eq_true p102
           replace q102 := eq_true q102
           go_wp2_with (first | ((with_reducible refine gate_callee (f := 61) rfl ?_); refine goesL_ (some 18) rfl rfl Tryd.func61 (by kernel_rfl) rfl #[.string ((rd_T33 l0 x10_1).f0)] rfl zl ?_; (with_reducible refine (aumbryref03_Kind.calls k1 ((rd_T33 l0 x10_1).f0) t103 _ A6.out).mono ?_); rintro e w' ⟨rfl, ⟨nd, rfl⟩⟩; refine ⟨_, rfl, ?_⟩; have p104 : 0 ≤ (x10_1 : Int) := zT zv; have q104 : x10_1 < (l0.length : Int) := zT zv; obtain ⟨ad104, e104, hx104_0, hx104_1⟩ := at_T33 HR0.out x10_1 p104 q104; obtain rfl : ad102 = ad104 := (by injection e104); replace p104 := eq_true p104; replace q104 := eq_true q104; have p105 : 0 ≤ (x10_1 : Int) := zT zv; have q105 : x10_1 < (l0.length : Int) := zT zv; obtain ⟨ad105, e105, hx105_0, hx105_1⟩ := at_T33 HR0.out x10_1 p105 q105; obtain rfl : ad102 = ad105 := (by injection e105); replace p105 := eq_true p105; replace q105 := eq_true q105))
           go_roundg k1
           case measure => have := HK1.out; omega
           case rel => exact ⟨(wrap64 (x10_1 + 1)), zy, H', ⟨by have := HK1.out; omega⟩, zd⟩
      ·
       rw [if_neg c5] at H
       exact absurd H (by simp)
     ·
      rw [if_neg c4] at H
      exact absurd H (by simp)
    ·
     rw [if_neg c3] at H
     have c3b0 : decide (x10_1 < (l0.length : Int)) = false := zR c3
     clear c3
     replace H := zB H
     obtain ⟨t101, A120, H⟩ := H
     try dsimp only at H
     have A12 := zM A120
     clear A120
     by_cases c13 : t101 = (l0.length : Int)
     ·
      rw [if_pos c13] at H
      have c13b0 : (t101 == (l0.length : Int)) = true := zG c13
      have c13b1 : (t101 != (l0.length : Int)) = false := zH c13
      clear c13
      obtain rfl := zS H
      go_wp2_with (first | ((with_reducible refine gate_callee (f := 62) rfl ?_); refine goesL_ (some 49) rfl rfl Tryd.func62 (by kernel_rfl) rfl #[.slice A0 l0.length c0, .int .i64 0] rfl zl ?_; (with_reducible refine (aumbryref04_Behind.calls k1 _ _ l0 0 t101 _ ?side1 ?side2 A12.out).mono ?_); (case side1 => exact Kd.C_below HR0.out zg); (case side2 => exact HC0.out); rintro e w' ⟨rfl, ⟨nd, rfl⟩⟩; refine ⟨_, rfl, ?_⟩))
      go_ret
      exact ⟨zy, zd⟩
     ·
      rw [if_neg c13] at H
      have c13b0 : (t101 == (l0.length : Int)) = false := zE c13
      have c13b1 : (t101 != (l0.length : Int)) = true := zF c13
      obtain rfl := zS H
      go_wp2_with (first | ((with_reducible refine gate_callee (f := 62) rfl ?_); refine goesL_ (some 49) rfl rfl Tryd.func62 (by kernel_rfl) rfl #[.slice A0 l0.length c0, .int .i64 0] rfl zl ?_; (with_reducible refine (aumbryref04_Behind.calls k1 _ _ l0 0 t101 _ ?side1 ?side2 A12.out).mono ?_); (case side1 => exact Kd.C_below HR0.out zg); (case side2 => exact HC0.out); rintro e w' ⟨rfl, ⟨nd, rfl⟩⟩; refine ⟨_, rfl, ?_⟩))
      go_ret
      exact ⟨zy, zd⟩


-- ==== PF82

def aumbryref04_sign.f (a0 : Int) : Option (Bool) := if a0 ≥ 97 then (if a0 ≤ 122 then (some true) else (if a0 ≥ 65 then (if a0 ≤ 90 then (some true) else (if a0 ≥ 48 then (some (decide (a0 ≤ 57))) else (some false))) else (if a0 ≥ 48 then (some (decide (a0 ≤ 57))) else (some false)))) else (if a0 ≥ 65 then (if a0 ≤ 90 then (some true) else (if a0 ≥ 48 then (some (decide (a0 ≤ 57))) else (some false))) else (if a0 ≥ 48 then (some (decide (a0 ≤ 57))) else (some false)))
theorem aumbryref04_sign.calls (a0 : Int) (r : Bool) (w : World) (h : aumbryref04_sign.f a0 = some r) :
 Calls Tryd.prog 82 #[.int .u8 a0] w fun e w' => e = .returned (.bool r) ∧ Drawn0 w w' := by
 have H : (if a0 ≥ 97 then (if a0 ≤ 122 then (some true) else (if a0 ≥ 65 then (if a0 ≤ 90 then (some true) else (if a0 ≥ 48 then (some (decide (a0 ≤ 57))) else (some false))) else (if a0 ≥ 48 then (some (decide (a0 ≤ 57))) else (some false)))) else (if a0 ≥ 65 then (if a0 ≤ 90 then (some true) else (if a0 ≥ 48 then (some (decide (a0 ≤ 57))) else (some false))) else (if a0 ≥ 48 then (some (decide (a0 ≤ 57))) else (some false)))) = some r := h
 clear h
 by_cases c2 : a0 ≥ 97
 ·
  rw [if_pos c2] at H
  have c2b0 : decide (97 ≤ a0) = true := zQ c2
  clear c2
  by_cases c3 : a0 ≤ 122
  ·
   rw [if_pos c3] at H
   have c3b0 : decide (a0 ≤ 122) = true := zQ c3
   clear c3
   obtain rfl := zS H
   go_enter Tryd.func82, Tryd.ntmps82
   go_wp2
   go_ret
   exact ⟨zy, zd⟩
  ·
   rw [if_neg c3] at H
   have c3b0 : decide (a0 ≤ 122) = false := zR c3
   clear c3
   by_cases c4 : a0 ≥ 65
   ·
    rw [if_pos c4] at H
    have c4b0 : decide (65 ≤ a0) = true := zQ c4
    clear c4
    by_cases c5 : a0 ≤ 90
    ·
     rw [if_pos c5] at H
     have c5b0 : decide (a0 ≤ 90) = true := zQ c5
     clear c5
     obtain rfl := zS H
     go_enter Tryd.func82, Tryd.ntmps82
     go_wp2
     go_ret
     exact ⟨zy, zd⟩
    ·
     rw [if_neg c5] at H
     have c5b0 : decide (a0 ≤ 90) = false := zR c5
     clear c5
     by_cases c6 : a0 ≥ 48
     ·
      rw [if_pos c6] at H
      have c6b0 : decide (48 ≤ a0) = true := zQ c6
      clear c6
      obtain rfl := zS H
      go_enter Tryd.func82, Tryd.ntmps82
      go_wp2
      go_ret
      exact ⟨zy, zd⟩
     ·
      rw [if_neg c6] at H
      have c6b0 : decide (48 ≤ a0) = false := zR c6
      clear c6
      obtain rfl := zS H
      go_enter Tryd.func82, Tryd.ntmps82
      go_wp2
      go_ret
      exact ⟨zy, zd⟩
   ·
    rw [if_neg c4] at H
    have c4b0 : decide (65 ≤ a0) = false := zR c4
    clear c4
    by_cases c7 : a0 ≥ 48
    ·
     rw [if_pos c7] at H
     have c7b0 : decide (48 ≤ a0) = true := zQ c7
     clear c7
     obtain rfl := zS H
     go_enter Tryd.func82, Tryd.ntmps82
     go_wp2
     go_ret
     exact ⟨zy, zd⟩
    ·
     rw [if_neg c7] at H
     have c7b0 : decide (48 ≤ a0) = false := zR c7
     clear c7
     obtain rfl := zS H
     go_enter Tryd.func82, Tryd.ntmps82
     go_wp2
     go_ret
     exact ⟨zy, zd⟩
 ·
  rw [if_neg c2] at H
  have c2b0 : decide (97 ≤ a0) = false := zR c2
  clear c2
  by_cases c8 : a0 ≥ 65
  ·
   rw [if_pos c8] at H
   have c8b0 : decide (65 ≤ a0) = true := zQ c8
   clear c8
   by_cases c9 : a0 ≤ 90
   ·
    rw [if_pos c9] at H
    have c9b0 : decide (a0 ≤ 90) = true := zQ c9
    clear c9
    obtain rfl := zS H
    go_enter Tryd.func82, Tryd.ntmps82
    go_wp2
    go_ret
    exact ⟨zy, zd⟩
   ·
    rw [if_neg c9] at H
    have c9b0 : decide (a0 ≤ 90) = false := zR c9
    clear c9
    by_cases c10 : a0 ≥ 48
    ·
     rw [if_pos c10] at H
     have c10b0 : decide (48 ≤ a0) = true := zQ c10
     clear c10
     obtain rfl := zS H
     go_enter Tryd.func82, Tryd.ntmps82
     go_wp2
     go_ret
     exact ⟨zy, zd⟩
    ·
     rw [if_neg c10] at H
     have c10b0 : decide (48 ≤ a0) = false := zR c10
     clear c10
     obtain rfl := zS H
     go_enter Tryd.func82, Tryd.ntmps82
     go_wp2
     go_ret
     exact ⟨zy, zd⟩
  ·
   rw [if_neg c8] at H
   have c8b0 : decide (65 ≤ a0) = false := zR c8
   clear c8
   by_cases c11 : a0 ≥ 48
   ·
    rw [if_pos c11] at H
    have c11b0 : decide (48 ≤ a0) = true := zQ c11
    clear c11
    obtain rfl := zS H
    go_enter Tryd.func82, Tryd.ntmps82
    go_wp2
    go_ret
    exact ⟨zy, zd⟩
   ·
    rw [if_neg c11] at H
    have c11b0 : decide (48 ≤ a0) = false := zR c11
    clear c11
    obtain rfl := zS H
    go_enter Tryd.func82, Tryd.ntmps82
    go_wp2
    go_ret
    exact ⟨zy, zd⟩


-- ==== PF70

def aumbryref04_Kids.l0 : Nat → List (S33) → List (List (S33)) → Int → Option ((List (List (S33))))
 | 0, _, _, _ => none
 | k + 1, x0, x3, x4 => if x4 < (x0.length : Int) then ((aumbryref04_Behind.f k x0 x4).bind fun t101 => (if 0 ≤ x4 then (if x4 ≤ t101 then (if t101 ≤ (x0.length : Int) then ((aumbryref04_Copy.f ((x0.take (t101 : Int).toNat).drop (x4 : Int).toNat)).bind fun t106 => (if x3.length < 5864062014805 then ((aumbryref04_Behind.f k x0 x4).bind fun t112 => (aumbryref04_Kids.l0 k x0 (x3 ++ [t106]) t112)) else (none))) else (none)) else (none)) else (none))) else (some x3)
def aumbryref04_Kids.f (k : Nat) (l0 : List (S33)) : Option ((List (List (S33)))) := aumbryref04_Kids.l0 k l0 ([] : List (List (S33))) 1
theorem aumbryref04_Kids.mono_l : ∀ k, (∀ y0 y1 y2, LeO (aumbryref04_Kids.l0 k y0 y1 y2) (aumbryref04_Kids.l0 (k + 1) y0 y1 y2))
 | 0 => fun _ _ _ r h => by simp [aumbryref04_Kids.l0] at h
 | k + 1 => by
  have ih0 := aumbryref04_Kids.mono_l k
  ·
   intro y0 y1 y2
   unfold aumbryref04_Kids.l0
   repeat' first
   | (with_reducible exact ih0 _ _ _)
   | (with_reducible exact aumbryref04_Behind.mono _ _ _)
   | (with_reducible exact LeO.refl _)
   | (with_reducible exact LeO.none _)
   | (with_reducible refine LeO.ite ?_ ?_)
   | (with_reducible refine LeO.bind ?_ (fun _ => ?_))
theorem aumbryref04_Kids.mono : ∀ a0 k, LeO (aumbryref04_Kids.f k a0) (aumbryref04_Kids.f (k + 1) a0) := by
 intro a0 k
 have ih0 := aumbryref04_Kids.mono_l k
 unfold aumbryref04_Kids.f
 repeat' first
  | (with_reducible exact ih0 _ _ _)
  | (with_reducible exact aumbryref04_Behind.mono _ _ _)
  | (with_reducible exact LeO.refl _)
  | (with_reducible exact LeO.none _)
  | (with_reducible refine LeO.ite ?_ ?_)
  | (with_reducible refine LeO.bind ?_ (fun _ => ?_))
theorem aumbryref04_Kids.calls (k : Nat) (A0 : Option Addr) (c0 : Nat) (l0 : List (S33)) (r : List (List (S33))) (w : World) (hr0 : Kd.C k33 w A0 l0.length l0) (hc0 : l0.length ≤ c0) (h : aumbryref04_Kids.f k l0 = some r) :
 Calls Tryd.prog 70 #[.slice A0 l0.length c0] w fun e w' => ∃ v0_ : Value, e = .returned (v0_) ∧ Kd.S (Kd.slice 33 k33) 23 w' w.heap.size (fun _ => True) v0_ r ∧ Below w.heap.size w w' := by
 have HR0 := zM hr0
 have HC0 := zM hc0
 clear hr0 hc0
 have HB := zM (Below.refl w.heap.size w)
 have H : (aumbryref04_Kids.l0 k l0 ([] : List (List (S33))) 1) = some r := h
 clear h
 have H' := zM H
 clear H
 go_enter Tryd.func70, Tryd.ntmps70
 go_wp2
 go_loopg [3, 4] k (fun kq v3 v4 w' => ∃ (x3_1 : List (List (S33))) (x4_1 : Int), v4 = .int .i64 x4_1 ∧ Aside0 (aumbryref04_Kids.l0 kq l0 x3_1 x4_1 = some r) ∧ Aside0 (kq ≤ k) ∧ Aside0 (Kd.S (Kd.slice 33 k33) 23 w' w.heap.size (fun _ => True) v3 x3_1) ∧ Aside0 (Below w.heap.size w w'))
 case atStart => exact ⟨(([] : List (List (S33)))), (1), zy, H', ⟨Nat.le_refl _⟩, ⟨by first | exact Kd.S_nil _ _ _ _ _ | exact Kd.N_nil _ _ _ _ _ | exact Kd.V_nil _ _ _ _ _ | exact Kd.Q_nil _ _ _ _ _ | exact Kd.R_nil _ _ _ _ _⟩, ⟨zb⟩⟩
 case round =>
  clear H'
  obtain ⟨x3_1, x4_1, rfl, HA, HK1, HO_3, HB⟩ := hrel
  cases gk with
  | zero => exact absurd HA.out (by simp [aumbryref04_Kids.l0])
  | succ k1 =>
   have H := HA.out
   clear HA
   simp only [aumbryref04_Kids.l0] at H
   by_cases c2 : x4_1 < (l0.length : Int)
   ·
    rw [if_pos c2] at H
    have c2b0 : decide (x4_1 < (l0.length : Int)) = true := zQ c2
    clear c2
    replace H := zB H
    obtain ⟨t101, A30, H⟩ := H
    try dsimp only at H
    have A3 := zM A30
    clear A30
    by_cases c4 : 0 ≤ x4_1
    ·
     rw [if_pos c4] at H
     have c4b0 := eq_true c4
     have c4b1 : decide (0 ≤ x4_1) = true := zQ c4
     clear c4
     by_cases c5 : x4_1 ≤ t101
     ·
      rw [if_pos c5] at H
      have c5b0 := eq_true c5
      have c5b1 : decide (x4_1 ≤ t101) = true := zQ c5
      clear c5
      by_cases c6 : t101 ≤ (l0.length : Int)
      ·
       rw [if_pos c6] at H
       have c6b0 := eq_true c6
       have c6b1 : decide (t101 ≤ (l0.length : Int)) = true := zQ c6
       clear c6
       obtain ⟨y102, hy102⟩ : ∃ y_ : List (S33), y_ = ((l0.take (t101 : Int).toNat).drop (x4_1 : Int).toNat) := ⟨_, rfl⟩
       replace H : ((aumbryref04_Copy.f y102).bind fun t106 => (if x3_1.length < 5864062014805 then ((aumbryref04_Behind.f k1 l0 x4_1).bind fun t112 => (aumbryref04_Kids.l0 k1 l0 (x3_1 ++ [t106]) t112)) else (none))) = some r := by first | (rw [hy102]; with_reducible exact H) | (have H2_ := (Option.bind_some _ _).symm.trans H; rw [hy102]; with_reducible exact H2_) | (have H2_ := (Option.bind_some _ _).symm.trans H; with_reducible exact H2_) | with_reducible exact H | (rw [hy102]; exact H) | exact H
       have Ny102 := zM hy102
       clear hy102
       replace H := zB H
       obtain ⟨t106, A70, H⟩ := H
       try dsimp only at H
       have A7 := zM A70
       clear A70
       by_cases c8 : x3_1.length < 5864062014805
       ·
        rw [if_pos c8] at H
        have LMc8 := zM c8
        clear c8
        obtain ⟨y109, hy109⟩ : ∃ y_ : List (List (S33)), y_ = (x3_1 ++ [t106]) := ⟨_, rfl⟩
        replace H : ((aumbryref04_Behind.f k1 l0 x4_1).bind fun t112 => (aumbryref04_Kids.l0 k1 l0 y109 t112)) = some r := by first | (rw [hy109]; with_reducible exact H) | (have H2_ := (Option.bind_some _ _).symm.trans H; rw [hy109]; with_reducible exact H2_) | (have H2_ := (Option.bind_some _ _).symm.trans H; with_reducible exact H2_) | with_reducible exact H | (rw [hy109]; exact H) | exact H
        have Ny109 := zM hy109
        clear hy109
        replace H := zB H
        obtain ⟨t112, A90, H⟩ := H
        try dsimp only at H
        have A9 := zM A90
        clear A90
        have H' := zM H
        clear H
        go_wp2_with (first | ((with_reducible refine gate_callee (f := 62) rfl ?_); refine goesL_ (some 17) rfl rfl Tryd.func62 (by kernel_rfl) rfl #[.slice A0 l0.length c0, .int .i64 x4_1] rfl zl ?_; (with_reducible refine (aumbryref04_Behind.calls k1 _ _ l0 x4_1 t101 _ ?side1 ?side2 A3.out).mono ?_); (case side1 => exact Kd.C_below HR0.out zb); (case side2 => exact HC0.out); rintro e w' ⟨rfl, ⟨nd, rfl⟩⟩; refine ⟨_, rfl, ?_⟩; have q10 : (t101 : Int) ≤ ((l0.length : Int) : Int) := zT zv; obtain ⟨i010, hi010, _, hsz10, _⟩ := info_parts info33; have hroom10 : l0.length ≤ c0 := HC0.out; have hC10 : Kd.C k33 _ A0 l0.length l0 := HR0.out; have ql10 : (x4_1 : Int) ≤ (t101 : Int) := zT zv; have q010 : (0 : Int) ≤ (x4_1 : Int) := zT zv; have hcut10 := cut_mid (P := Tryd.prog) 23 33 .i64 .i64 Tryd.underlying23 hi010 2 hsz10 A0 l0.length c0 x4_1 t101 q010 ql10 q10 hroom10; have hr10 := Kd.C_mid (lo := (x4_1 : Int).toNat) (hi := (t101 : Int).toNat) (c := c0) hC10 (by omega) (by omega) hroom10; obtain ⟨A10, hA10⟩ : ∃ Aq_, Aq_ = (if c0 = (x4_1 : Int).toNat then A0 else (A0 : Option Addr).map (·.add ((x4_1 : Int).toNat * 2))) := ⟨_, rfl⟩; obtain ⟨c10, hc10⟩ : ∃ cq_, cq_ = c0 - (x4_1 : Int).toNat := ⟨_, rfl⟩; have hy10 : y102.length = (t101 : Int).toNat - (x4_1 : Int).toNat := (by rw [Ny102.out, List.length_drop, List.length_take] <;> omega); rw [show ((l0).take (t101 : Int).toNat).drop (x4_1 : Int).toNat = y102 from Ny102.out.symm] at hr10; replace hr10 : Kd.C k33 _ A10 y102.length y102 := (by rw [hA10]; exact hr10); rw [← hy10, ← hA10, ← hc10] at hcut10; have HR105 := zM hr10; have HC105 := zM (show y102.length ≤ c10 from by rw [hy10, hc10]; exact Nat.sub_le_sub_right (Nat.le_trans (by omega) hroom10) _); clear hr10 hC10 hroom10 hi010 hsz10 hc10; have KY10 := zM hy10; have KA10 := zM hA10; clear hy10 hA10; replace q10 := eq_true q10) | ((with_reducible refine gate_callee (f := 23) rfl ?_); refine goesL_ (some 19) rfl rfl Tryd.func23 (by kernel_rfl) rfl #[.slice A10 y102.length c10] rfl zl ?_; (with_reducible refine (aumbryref04_Copy.calls _ _ y102 t106 _ ?side1 ?side2 A7.out).mono ?_); (case side1 => exact Kd.C_below (Kd.C_below HR105.out zb) zg); (case side2 => exact HC105.out); rintro e w11 ⟨v107, rfl, ho0, hb⟩; refine ⟨_, rfl, ?_⟩; replace HO_3 := zM (Kd.S_elder' (Kd.S_below HO_3.out zg) (Kd.R_base ho0) hb); have HO108 := zM (Kd.R_lower ho0 (below_size zb)); replace HB := zM (below_step zb hb); (try clear hb); (try clear ho0); obtain ⟨Ao13, co13, eo13⟩ := Kd.R_slice HO108.out; subst eo13) | ((with_reducible refine gate_builtin (b := .append) (xs := #[.tmp 12, .tmp 20]) rfl ?_); at_builtin; refine Kd.S_append (Kd.slice 33 k33) (w0 := w) w.heap.size rfl (.tmp 12) (.tmp 20) 102 23 (.slice none 0 0) 24 rfl Tryd.underlying102 info23 rfl (by decide) (by omega) u3 x3_1 t106 [.slice Ao13 t106.length co13] (fun _ => True) (fun k_ => some k_ = (.slice Ao13 t106.length co13 : Value).ownBlock) rfl rfl ?aP (fun k_ hk_ => ((Kd.R_mono (ok' := fun k_ => ((fun _ => True)) k_ ∧ some k_ ≠ (u3 : Value).ownBlock) (Kd.R_apart' (HO108.out) (Kd.S_typed HO_3.out) (by decide)) (fun k_ hk => ⟨trivial, hk.2⟩))).1 k_ hk_.symm) ?aF ?aO ?aB ?aS ?aL ?_; (case aP => exact Kd.M_row (Kd.R_mono (Kd.R_tight rfl (Kd.R_mono (ok' := fun k_ => ((fun _ => True)) k_ ∧ some k_ ≠ (u3 : Value).ownBlock) (Kd.R_apart' (HO108.out) (Kd.S_typed HO_3.out) (by decide)) (fun k_ hk => ⟨trivial, hk.2⟩))) (fun _ h_ => h_))); (case aB => exact zb); (case aF => exact (fun _ _ => trivial)); (case aO => exact (by (with_reducible repeat (first | apply Kd.S_alloc | apply Kd.S_drewN | apply Kd.S_drew)); exact Kd.S_mono HO_3.out (fun k_ hk => ⟨trivial, fun e_ => hk.2 e_⟩))); (case aS => exact (below_size zb)); (case aL => have := LMc8.out; omega); intro v110 w12 ho hb hg hat; rw [← Ny109.out] at ho; replace HB := zM (hb); have HO111 := zM (ho); clear HO108 HO_3; clear ho hb hg hat) | ((with_reducible refine gate_callee (f := 62) rfl ?_); refine goesL_ (some 11) rfl rfl Tryd.func62 (by kernel_rfl) rfl #[.slice A0 l0.length c0, .int .i64 x4_1] rfl zl ?_; (with_reducible refine (aumbryref04_Behind.calls k1 _ _ l0 x4_1 t112 _ ?side1 ?side2 A9.out).mono ?_); (case side1 => exact Kd.C_below HR0.out zb); (case side2 => exact HC0.out); rintro e w' ⟨rfl, ⟨nd, rfl⟩⟩; refine ⟨_, rfl, ?_⟩))
        go_roundg k1
        case measure => have := HK1.out; omega
        case rel => exact ⟨(y109), (t112), zy, H', ⟨by have := HK1.out; omega⟩, ⟨Kd.S_below HO111.out zg⟩, ⟨zb⟩⟩
       ·
        rw [if_neg c8] at H
        exact absurd H (by simp)
      ·
       rw [if_neg c6] at H
       exact absurd H (by simp)
     ·
      rw [if_neg c5] at H
      exact absurd H (by simp)
    ·
     rw [if_neg c4] at H
     exact absurd H (by simp)
   ·
    rw [if_neg c2] at H
    have c2b0 : decide (x4_1 < (l0.length : Int)) = false := zR c2
    clear c2
    obtain rfl := zS H
    go_wp2
    go_ret
    exact ⟨_, zw, Kd.S_below HO_3.out zg, zb⟩


-- ==== PF49

mutual
def aumbryref04_Text.l0 : Nat → ByteArray → List (List (S33)) → Int → Int → Option (ByteArray)
 | 0, _, _, _, _ => none
 | k + 1, x3, x4, x13, x14 => if x14 < x13 then (if x14 = 0 then (if x3.size + 1 ≤ 9223372036854775807 then (if 0 ≤ x14 then (if x14 < (x4.length : Int) then ((aumbryref04_Text.f k (rd_L3 x4 x14)).bind fun t106 => (if (x3 ++ (⟨#[40]⟩ : ByteArray)).size + t106.size ≤ 9223372036854775807 then (aumbryref04_Text.l0 k ((x3 ++ (⟨#[40]⟩ : ByteArray)) ++ t106) x4 x13 (wrap64 (x14 + 1))) else (none))) else (none)) else (none)) else (none)) else (if x3.size + 1 ≤ 9223372036854775807 then (if 0 ≤ x14 then (if x14 < (x4.length : Int) then ((aumbryref04_Text.f k (rd_L3 x4 x14)).bind fun t108 => (if (x3 ++ (⟨#[44]⟩ : ByteArray)).size + t108.size ≤ 9223372036854775807 then (aumbryref04_Text.l0 k ((x3 ++ (⟨#[44]⟩ : ByteArray)) ++ t108) x4 x13 (wrap64 (x14 + 1))) else (none))) else (none)) else (none)) else (none))) else (if (x4.length : Int) > 0 then (if x3.size + 1 ≤ 9223372036854775807 then (some (x3 ++ (⟨#[41]⟩ : ByteArray))) else (none)) else (some x3))
def aumbryref04_Text.f : Nat → List (S33) → Option (ByteArray)
 | 0, _ => none
 | k + 1, l0 => if 0 < (l0.length : Int) then ((aumbryref04_Kids.f k l0).bind fun t102 => (aumbryref04_Text.l0 k ((rd_T33 l0 0).f0) t102 (t102.length : Int) 0)) else (none)
end
theorem aumbryref04_Text.mono_l : ∀ k, (∀ y0, LeO (aumbryref04_Text.f k y0) (aumbryref04_Text.f (k + 1) y0)) ∧ (∀ y0 y1 y2 y3, LeO (aumbryref04_Text.l0 k y0 y1 y2 y3) (aumbryref04_Text.l0 (k + 1) y0 y1 y2 y3))
 | 0 => ⟨fun _ r h => by simp [aumbryref04_Text.f] at h, fun _ _ _ _ r h => by simp [aumbryref04_Text.l0] at h⟩
 | k + 1 => by
  obtain ⟨ih0, ih1⟩ := aumbryref04_Text.mono_l k
  refine ⟨?_, ?_⟩
  ·
   intro y0
   unfold aumbryref04_Text.f
   repeat' first
   | (with_reducible exact ih0 _)
   | (with_reducible exact ih1 _ _ _ _)
   | (with_reducible exact aumbryref04_Kids.mono _ _)
   | (with_reducible exact LeO.refl _)
   | (with_reducible exact LeO.none _)
   | (with_reducible refine LeO.ite ?_ ?_)
   | (with_reducible refine LeO.bind ?_ (fun _ => ?_))
  ·
   intro y0 y1 y2 y3
   unfold aumbryref04_Text.l0
   repeat' first
   | (with_reducible exact ih0 _)
   | (with_reducible exact ih1 _ _ _ _)
   | (with_reducible exact aumbryref04_Kids.mono _ _)
   | (with_reducible exact LeO.refl _)
   | (with_reducible exact LeO.none _)
   | (with_reducible refine LeO.ite ?_ ?_)
   | (with_reducible refine LeO.bind ?_ (fun _ => ?_))
theorem aumbryref04_Text.mono : ∀ a0 k, LeO (aumbryref04_Text.f k a0) (aumbryref04_Text.f (k + 1) a0) := by
 intro a0 k
 obtain ⟨ih0, ih1⟩ := aumbryref04_Text.mono_l k
 exact ih0 a0
theorem aumbryref04_Text.calls (k : Nat) : ∀ (A0 : Option Addr) (c0 : Nat) (l0 : List (S33)) (r : ByteArray) (w : World) (hr0 : Kd.C k33 w A0 l0.length l0) (hc0 : l0.length ≤ c0) (h : aumbryref04_Text.f k l0 = some r),
 Calls Tryd.prog 49 #[.slice A0 l0.length c0] w fun e w' => e = .returned (.string r) ∧ Below w.heap.size w w' := by
 induction k using Nat.strongRecOn with
 | _ k ih =>
 intro A0 c0 l0 r w hr0 hc0 h
 cases k with
 | zero => exact absurd h (by simp [aumbryref04_Text.f])
 | succ k =>
 simp only [aumbryref04_Text.f] at h
 have HR0 := zM hr0
 have HC0 := zM hc0
 clear hr0 hc0
 have HB := zM (Below.refl w.heap.size w)
 have H : (if 0 < (l0.length : Int) then ((aumbryref04_Kids.f k l0).bind fun t102 => (aumbryref04_Text.l0 k ((rd_T33 l0 0).f0) t102 (t102.length : Int) 0)) else (none)) = some r := h
 clear h
 by_cases c2 : 0 < (l0.length : Int)
 ·
  rw [if_pos c2] at H
  have c2b0 : decide (0 < (l0.length : Int)) = true := zQ c2
  have c2b1 : decide (0 < l0.length) = true := zQ (by omega)
  clear c2
  replace H := zB H
  obtain ⟨t102, A30, H⟩ := H
  try dsimp only at H
  have A3 := zM A30
  clear A30
  have H' := zM H
  clear H
  have p101 : 0 ≤ (0 : Int) := (by omega)
  have q101 : 0 < (l0.length : Int) := zT zv
  obtain ⟨ad101, e101, hx101_0, hx101_1⟩ := at_T33 HR0.out 0 p101 q101
  cases e101
  have qi101 : (0 < l0.length) = True := eq_true (by omega)
  (try rw [show ((0 : Int)).toNat = 0 from rfl] at hx101_0)
  (try rw [show 0 * 2 = 0 from rfl] at hx101_0)
  (try rw [Addr.add_zero'] at hx101_0)
  (try rw [show ((0 : Int)).toNat = 0 from rfl] at hx101_1)
  (try rw [show 0 * 2 = 0 from rfl] at hx101_1)
  (try rw [Addr.add_zero'] at hx101_1)
  replace p101 := eq_true p101
  replace q101 := eq_true q101
  go_enter Tryd.func49, Tryd.ntmps49
  go_wp2_with (first | ((with_reducible refine gate_callee (f := 70) rfl ?_); refine goesL_ (some 11) rfl rfl Tryd.func70 (by kernel_rfl) rfl #[.slice (some ad101) l0.length c0] rfl zl ?_; (with_reducible refine (aumbryref04_Kids.calls k _ _ l0 t102 _ ?side1 ?side2 A3.out).mono ?_); (case side1 => exact Kd.C_below HR0.out zg); (case side2 => exact HC0.out); rintro e w4 ⟨v103, rfl, ho0, hb⟩; refine ⟨_, rfl, ?_⟩; have HO104 := zM (Kd.S_lower ho0 (below_size zb)); replace HB := zM (below_step zb hb); (try clear hb); (try clear ho0); obtain ⟨Ao5, co5, eo5⟩ := Kd.S_slice HO104.out; subst eo5))
  go_loopg [3, 14] k (fun kq v3 v14 w' => ∃ (x3_1 : ByteArray) (x14_1 : Int), v3 = .string x3_1 ∧ v14 = .int .i64 x14_1 ∧ Aside0 (aumbryref04_Text.l0 kq x3_1 t102 (t102.length : Int) x14_1 = some r) ∧ Aside0 (kq ≤ k) ∧ Aside0 (Kd.S (Kd.slice 33 k33) 23 w' w.heap.size (fun _ => True) (.slice Ao5 t102.length co5) t102) ∧ Aside0 (Below w.heap.size w w'))
  case atStart => exact ⟨((rd_T33 l0 0).f0), (0), zy, zy, H', ⟨Nat.le_refl _⟩, ⟨Kd.S_below HO104.out zg⟩, ⟨zb⟩⟩
  case round =>
   clear H'
   try clear p1
   try clear q1
   try clear hx1
   try clear qi1
   try clear c2
   try clear c2b0
   try clear c2b1
   try clear p2
   try clear c4
   try clear hx101_0
   try clear hx101_1
   try clear p101
   try clear q101
   obtain ⟨x3_1, x14_1, rfl, rfl, HA, HK1, HO_4, HB⟩ := hrel
   cases gk with
   | zero => exact absurd HA.out (by simp [aumbryref04_Text.l0])
   | succ k1 =>
    have H := HA.out
    clear HA
    simp only [aumbryref04_Text.l0] at H
    by_cases c6 : x14_1 < (t102.length : Int)
    ·
     rw [if_pos c6] at H
     have c6b0 : decide (x14_1 < (t102.length : Int)) = true := zQ c6
     clear c6
     by_cases c7 : x14_1 = 0
     ·
      rw [if_pos c7] at H
      have c7b0 : (x14_1 == 0) = true := zG c7
      have c7b1 : (x14_1 != 0) = false := zH c7
      clear c7
      by_cases c8 : x3_1.size + 1 ≤ 9223372036854775807
      ·
       rw [if_pos c8] at H
       have c8b0 := eq_true c8
       have c8b1 : decide (x3_1.size + 1 ≤ 9223372036854775807) = true := zQ c8
       try have c8b2 : (9223372036854775807 < x3_1.size + 1) = False := eq_false (Nat.not_lt.2 c8)
       by_cases c9 : 0 ≤ x14_1
       ·
        rw [if_pos c9] at H
        have c9b0 : decide (0 ≤ x14_1) = true := zQ c9
        clear c9
        by_cases c10 : x14_1 < (t102.length : Int)
        ·
         rw [if_pos c10] at H
         have c10b0 : decide (x14_1 < (t102.length : Int)) = true := zQ c10
         clear c10
         replace H := zB H
         obtain ⟨t106, A110, H⟩ := H
         try dsimp only at H
         have A11 := zM A110
         clear A110
         by_cases c12 : (x3_1 ++ (⟨#[40]⟩ : ByteArray)).size + t106.size ≤ 9223372036854775807
         ·
          rw [if_pos c12] at H
          have c12b0 := eq_true c12
          have c12b1 : decide ((x3_1 ++ (⟨#[40]⟩ : ByteArray)).size + t106.size ≤ 9223372036854775807) = true := zQ c12
          try have c12b2 : (9223372036854775807 < (x3_1 ++ (⟨#[40]⟩ : ByteArray)).size + t106.size) = False := eq_false (Nat.not_lt.2 c12)
          try have c12b3 : (9223372036854775807 < x3_1.size + 1 + t106.size) = False := eq_false (Nat.not_lt.2 (by have h_ := c12; rw [ByteArray.size_append] at h_; exact h_))
          have H' := zM H
          clear H
          have p105 : 0 ≤ (x14_1 : Int) := zT zv
          have q105 : x14_1 < (t102.length : Int) := zT zv
          obtain ⟨ad105, A105_0, c105_0, e105, hx105_0, hl105_0, hi105_0⟩ := at_L3 (Kd.S_reads' HO_4.out).2.2 x14_1 p105 q105
          cases e105
          obtain ⟨ce105, hce105, hMe105, hcc105⟩ := Kd.S_get HO_4.out [] x14_1 p105 (by first | exact q105 | exact zT zv | (have e_ := (Kd.S_reads' HO_4.out).1; omega))
          obtain ⟨ve105_0, rfl, ge105_0⟩ := hMe105
          have hv105_0 := hcc105 0 _ rfl
          rw [Nat.add_zero, show ((Kd.slice 33 k33)).sz = 1 from rfl, Nat.mul_one] at hv105_0
          replace hv105_0 := zS (hv105_0.symm.trans hx105_0)
          rw [hv105_0] at ge105_0
          have HL105_0 := zM (show Kd.R k33 33 _ _ _ _ (rd_L3 t102 x14_1) from ge105_0)
          clear hv105_0 ge105_0
          clear hcc105 hce105
          have HR105_0 := zM hi105_0
          have HC105_0 := zM hl105_0
          clear hi105_0 hl105_0
          replace p105 := eq_true p105
          replace q105 := eq_true q105
          go_wp2_with (first | ((with_reducible refine gate_callee (f := 49) rfl ?_); refine goesL_ (some 28) rfl rfl Tryd.func49 (by kernel_rfl) rfl #[.slice A105_0 (rd_L3 t102 x14_1).length c105_0] rfl zl ?_; (with_reducible refine (ih k1 (by have := HK1.out; omega) _ _ (rd_L3 t102 x14_1) t106 _ ?side1 ?side2 A11.out).mono ?_); (case side1 => repeat (first | exact (by repeat (first | (with_reducible exact HR105_0.out) | (with_reducible first | refine Kd.C_alloc ?_ _ | refine Kd.C_drewN ?_ _ | refine Kd.C_drew ?_) | exact HR105_0.out)) | (with_reducible first | refine Kd.C_alloc ?_ _ | refine Kd.C_drewN ?_ _ | refine Kd.C_drew ?_))); (case side2 => exact HC105_0.out); rintro e w13 ⟨rfl, hb⟩; refine ⟨_, rfl, ?_⟩; replace HO_4 := zM (Kd.S_below (Kd.S_below HO_4.out zg) hb); replace HL105_0 := zM (Kd.R_below (zr HL105_0.out) hb); replace HR105_0 := zM (Kd.C_below (by repeat (first | (with_reducible exact HR105_0.out) | (with_reducible first | refine Kd.C_alloc ?_ _ | refine Kd.C_drewN ?_ _ | refine Kd.C_drew ?_) | exact HR105_0.out)) hb); replace HB := zM (below_step zb hb); (try clear hb)))
          go_roundg k1
          case measure => have := HK1.out; omega
          case rel => exact ⟨((x3_1 ++ (⟨#[40]⟩ : ByteArray)) ++ t106), (wrap64 (x14_1 + 1)), zy, zy, H', ⟨by have := HK1.out; omega⟩, ⟨Kd.S_below HO_4.out zg⟩, ⟨zb⟩⟩
         ·
          rw [if_neg c12] at H
          exact absurd H (by simp)
        ·
         rw [if_neg c10] at H
         exact absurd H (by simp)
       ·
        rw [if_neg c9] at H
        exact absurd H (by simp)
      ·
       rw [if_neg c8] at H
       exact absurd H (by simp)
     ·
      rw [if_neg c7] at H
      have c7b0 : (x14_1 == 0) = false := zE c7
      have c7b1 : (x14_1 != 0) = true := zF c7
      by_cases c14 : x3_1.size + 1 ≤ 9223372036854775807
      ·
       rw [if_pos c14] at H
       have c14b0 := eq_true c14
       have c14b1 : decide (x3_1.size + 1 ≤ 9223372036854775807) = true := zQ c14
       try have c14b2 : (9223372036854775807 < x3_1.size + 1) = False := eq_false (Nat.not_lt.2 c14)
       by_cases c15 : 0 ≤ x14_1
       ·
        rw [if_pos c15] at H
        have c15b0 : decide (0 ≤ x14_1) = true := zQ c15
        clear c15
        by_cases c16 : x14_1 < (t102.length : Int)
        ·
         rw [if_pos c16] at H
         have c16b0 : decide (x14_1 < (t102.length : Int)) = true := zQ c16
         clear c16
         replace H := zB H
         obtain ⟨t108, A170, H⟩ := H
         try dsimp only at H
         have A17 := zM A170
         clear A170
         by_cases c18 : (x3_1 ++ (⟨#[44]⟩ : ByteArray)).size + t108.size ≤ 9223372036854775807
         ·
          rw [if_pos c18] at H
          have c18b0 := eq_true c18
          have c18b1 : decide ((x3_1 ++ (⟨#[44]⟩ : ByteArray)).size + t108.size ≤ 9223372036854775807) = true := zQ c18
          try have c18b2 : (9223372036854775807 < (x3_1 ++ (⟨#[44]⟩ : ByteArray)).size + t108.size) = False := eq_false (Nat.not_lt.2 c18)
          try have c18b3 : (9223372036854775807 < x3_1.size + 1 + t108.size) = False := eq_false (Nat.not_lt.2 (by have h_ := c18; rw [ByteArray.size_append] at h_; exact h_))
          have H' := zM H
          clear H
          have p107 : 0 ≤ (x14_1 : Int) := zT zv
          have q107 : x14_1 < (t102.length : Int) := zT zv
          obtain ⟨ad107, A107_0, c107_0, e107, hx107_0, hl107_0, hi107_0⟩ := at_L3 (Kd.S_reads' HO_4.out).2.2 x14_1 p107 q107
          cases e107
          obtain ⟨ce107, hce107, hMe107, hcc107⟩ := Kd.S_get HO_4.out [] x14_1 p107 (by first | exact q107 | exact zT zv | (have e_ := (Kd.S_reads' HO_4.out).1; omega))
          obtain ⟨ve107_0, rfl, ge107_0⟩ := hMe107
          have hv107_0 := hcc107 0 _ rfl
          rw [Nat.add_zero, show ((Kd.slice 33 k33)).sz = 1 from rfl, Nat.mul_one] at hv107_0
          replace hv107_0 := zS (hv107_0.symm.trans hx107_0)
          rw [hv107_0] at ge107_0
          have HL107_0 := zM (show Kd.R k33 33 _ _ _ _ (rd_L3 t102 x14_1) from ge107_0)
          clear hv107_0 ge107_0
          clear hcc107 hce107
          have HR107_0 := zM hi107_0
          have HC107_0 := zM hl107_0
          clear hi107_0 hl107_0
          replace p107 := eq_true p107
          replace q107 := eq_true q107
          go_wp2_with (first | ((with_reducible refine gate_callee (f := 49) rfl ?_); refine goesL_ (some 28) rfl rfl Tryd.func49 (by kernel_rfl) rfl #[.slice A107_0 (rd_L3 t102 x14_1).length c107_0] rfl zl ?_; (with_reducible refine (ih k1 (by have := HK1.out; omega) _ _ (rd_L3 t102 x14_1) t108 _ ?side1 ?side2 A17.out).mono ?_); (case side1 => repeat (first | exact (by repeat (first | (with_reducible exact HR107_0.out) | (with_reducible first | refine Kd.C_alloc ?_ _ | refine Kd.C_drewN ?_ _ | refine Kd.C_drew ?_) | exact HR107_0.out)) | (with_reducible first | refine Kd.C_alloc ?_ _ | refine Kd.C_drewN ?_ _ | refine Kd.C_drew ?_))); (case side2 => exact HC107_0.out); rintro e w19 ⟨rfl, hb⟩; refine ⟨_, rfl, ?_⟩; replace HO_4 := zM (Kd.S_below (Kd.S_below HO_4.out zg) hb); replace HL107_0 := zM (Kd.R_below (zr HL107_0.out) hb); replace HR107_0 := zM (Kd.C_below (by repeat (first | (with_reducible exact HR107_0.out) | (with_reducible first | refine Kd.C_alloc ?_ _ | refine Kd.C_drewN ?_ _ | refine Kd.C_drew ?_) | exact HR107_0.out)) hb); replace HB := zM (below_step zb hb); (try clear hb)))
          go_roundg k1
          case measure => have := HK1.out; omega
          case rel => exact ⟨((x3_1 ++ (⟨#[44]⟩ : ByteArray)) ++ t108), (wrap64 (x14_1 + 1)), zy, zy, H', ⟨by have := HK1.out; omega⟩, ⟨Kd.S_below HO_4.out zg⟩, ⟨zb⟩⟩
         ·
          rw [if_neg c18] at H
          exact absurd H (by simp)
        ·
         rw [if_neg c16] at H
         exact absurd H (by simp)
       ·
        rw [if_neg c15] at H
        exact absurd H (by simp)
      ·
       rw [if_neg c14] at H
       exact absurd H (by simp)
    ·
     rw [if_neg c6] at H
     have c6b0 : decide (x14_1 < (t102.length : Int)) = false := zR c6
     clear c6
     by_cases c20 : (t102.length : Int) > 0
     ·
      rw [if_pos c20] at H
      have c20b0 : decide (0 < (t102.length : Int)) = true := zQ c20
      have c20b1 : decide (0 < t102.length) = true := zQ (by omega)
      clear c20
      by_cases c21 : x3_1.size + 1 ≤ 9223372036854775807
      ·
       rw [if_pos c21] at H
       have c21b0 := eq_true c21
       have c21b1 : decide (x3_1.size + 1 ≤ 9223372036854775807) = true := zQ c21
       try have c21b2 : (9223372036854775807 < x3_1.size + 1) = False := eq_false (Nat.not_lt.2 c21)
       obtain rfl := zS H
       go_wp2
       go_ret
       exact ⟨zw, zb⟩
      ·
       rw [if_neg c21] at H
       exact absurd H (by simp)
     ·
      rw [if_neg c20] at H
      have c20b0 : decide (0 < (t102.length : Int)) = false := zR c20
      have c20b1 : decide (0 < t102.length) = false := zR (by omega)
      clear c20
      obtain rfl := zS H
      go_wp2
      go_ret
      exact ⟨zw, zb⟩
 ·
  rw [if_neg c2] at H
  exact absurd H (by simp)


-- ==== PF40

def aumbryref03_Has.l0 : Nat → List ByteArray → ByteArray → Int → Int → Option (Bool)
 | 0, _, _, _, _ => none
 | k + 1, x0, x1, x7, x8 => if x8 < x7 then (if 0 ≤ x8 then (if x8 < (x0.length : Int) then (if (rdOf ByteArray.empty x0 x8).toList = x1.toList then (some true) else (aumbryref03_Has.l0 k x0 x1 x7 (wrap64 (x8 + 1)))) else (none)) else (none)) else (some false)
def aumbryref03_Has.f (k : Nat) (l0 : List ByteArray) (a1 : ByteArray) : Option (Bool) := aumbryref03_Has.l0 k l0 a1 (l0.length : Int) 0
theorem aumbryref03_Has.mono_l : ∀ k, (∀ y0 y1 y2 y3, LeO (aumbryref03_Has.l0 k y0 y1 y2 y3) (aumbryref03_Has.l0 (k + 1) y0 y1 y2 y3))
 | 0 => fun _ _ _ _ r h => by simp [aumbryref03_Has.l0] at h
 | k + 1 => by
  have ih0 := aumbryref03_Has.mono_l k
  ·
   intro y0 y1 y2 y3
   unfold aumbryref03_Has.l0
   repeat' first
   | (with_reducible exact ih0 _ _ _ _)
   | (with_reducible exact LeO.refl _)
   | (with_reducible exact LeO.none _)
   | (with_reducible refine LeO.ite ?_ ?_)
   | (with_reducible refine LeO.bind ?_ (fun _ => ?_))
theorem aumbryref03_Has.mono : ∀ a0 a1 k, LeO (aumbryref03_Has.f k a0 a1) (aumbryref03_Has.f (k + 1) a0 a1) := by
 intro a0 a1 k
 have ih0 := aumbryref03_Has.mono_l k
 unfold aumbryref03_Has.f
 repeat' first
  | (with_reducible exact ih0 _ _ _ _)
  | (with_reducible exact LeO.refl _)
  | (with_reducible exact LeO.none _)
  | (with_reducible refine LeO.ite ?_ ?_)
  | (with_reducible refine LeO.bind ?_ (fun _ => ?_))
theorem aumbryref03_Has.calls (k : Nat) (A0 : Option Addr) (c0 : Nat) (l0 : List ByteArray) (a1 : ByteArray) (r : Bool) (w : World) (hr0 : Kd.C Kd.string w A0 l0.length l0) (hc0 : l0.length ≤ c0) (h : aumbryref03_Has.f k l0 a1 = some r) :
 Calls Tryd.prog 40 #[.slice A0 l0.length c0, .string a1] w fun e w' => e = .returned (.bool r) ∧ Drawn0 w w' := by
 have HR0 := zM hr0
 have HC0 := zM hc0
 clear hr0 hc0
 have H : (aumbryref03_Has.l0 k l0 a1 (l0.length : Int) 0) = some r := h
 clear h
 have H' := zM H
 clear H
 go_enter Tryd.func40, Tryd.ntmps40
 go_wp2
 go_loopg [8] k (fun kq v8 w' => ∃ (x8_1 : Int), v8 = .int .i64 x8_1 ∧ Aside0 (aumbryref03_Has.l0 kq l0 a1 (l0.length : Int) x8_1 = some r) ∧ Aside0 (kq ≤ k) ∧ Drawn0 w w')
 case atStart => exact ⟨(0), zy, H', ⟨Nat.le_refl _⟩, zd⟩
 case round =>
  clear H'
  try clear p2
  obtain ⟨x8_1, rfl, HA, HK1, ⟨m1, rfl⟩⟩ := hrel
  cases gk with
  | zero => exact absurd HA.out (by simp [aumbryref03_Has.l0])
  | succ k1 =>
   have H := HA.out
   clear HA
   simp only [aumbryref03_Has.l0] at H
   by_cases c3 : x8_1 < (l0.length : Int)
   ·
    rw [if_pos c3] at H
    have c3b0 : decide (x8_1 < (l0.length : Int)) = true := zQ c3
    clear c3
    by_cases c4 : 0 ≤ x8_1
    ·
     rw [if_pos c4] at H
     have c4b0 : decide (0 ≤ x8_1) = true := zQ c4
     clear c4
     by_cases c5 : x8_1 < (l0.length : Int)
     ·
      rw [if_pos c5] at H
      have c5b0 : decide (x8_1 < (l0.length : Int)) = true := zQ c5
      clear c5
      by_cases c6 : (rdOf ByteArray.empty l0 x8_1).toList = a1.toList
      ·
       rw [if_pos c6] at H
       have c6b0 : ((rdOf ByteArray.empty l0 x8_1).toList == a1.toList) = true := zG c6
       have c6b1 : ((rdOf ByteArray.empty l0 x8_1).toList != a1.toList) = false := zH c6
       clear c6
       obtain rfl := zS H
       have p101 : 0 ≤ (x8_1 : Int) := zT zv
       have q101 : x8_1 < (l0.length : Int) := zT zv
       obtain ⟨ad101, e101, hx101_0⟩ := Kd.at_string HR0.out x8_1 p101 q101
       cases e101
       replace p101 := eq_true p101
       replace q101 := eq_true q101
       go_wp2
       go_ret
       exact ⟨zy, zd⟩
      ·
       rw [if_neg c6] at H
       have c6b0 : ((rdOf ByteArray.empty l0 x8_1).toList == a1.toList) = false := zE c6
       have c6b1 : ((rdOf ByteArray.empty l0 x8_1).toList != a1.toList) = true := zF c6
       have H' := zM H
       clear H
       have p101 : 0 ≤ (x8_1 : Int) := zT zv
       have q101 : x8_1 < (l0.length : Int) := zT zv
       obtain ⟨ad101, e101, hx101_0⟩ := Kd.at_string HR0.out x8_1 p101 q101
       cases e101
       replace p101 := eq_true p101
       replace q101 := eq_true q101
       go_wp2
       go_roundg k1
       case measure => have := HK1.out; omega
       case rel => exact ⟨(wrap64 (x8_1 + 1)), zy, H', ⟨by have := HK1.out; omega⟩, zd⟩
     ·
      rw [if_neg c5] at H
      exact absurd H (by simp)
    ·
     rw [if_neg c4] at H
     exact absurd H (by simp)
   ·
    rw [if_neg c3] at H
    have c3b0 : decide (x8_1 < (l0.length : Int)) = false := zR c3
    clear c3
    obtain rfl := zS H
    go_wp2
    go_ret
    exact ⟨zy, zd⟩


-- ==== PF39

def aumbryref04_Vars.l0 : Nat → List (S33) → List ByteArray → Int → Int → Option (List ByteArray)
 | 0, _, _, _, _ => none
 | k + 1, x0, x3, x6, x7 => if x7 < x6 then (if 0 ≤ x7 then (if x7 < (x0.length : Int) then ((aumbryref03_Kind.f k ((rd_T33 x0 x7).f0)).bind fun t102 => (if t102 = 2 then ((aumbryref03_Has.f k x3 ((rd_T33 x0 x7).f0)).bind fun t104 => (if t104 = true then (aumbryref04_Vars.l0 k x0 x3 x6 (wrap64 (x7 + 1))) else (if x3.length < 8796093022208 then (aumbryref04_Vars.l0 k x0 (x3 ++ [(rd_T33 x0 x7).f0]) x6 (wrap64 (x7 + 1))) else (none)))) else (aumbryref04_Vars.l0 k x0 x3 x6 (wrap64 (x7 + 1))))) else (none)) else (none)) else (some x3)
def aumbryref04_Vars.f (k : Nat) (l0 : List (S33)) : Option (List ByteArray) := aumbryref04_Vars.l0 k l0 ([] : List ByteArray) (l0.length : Int) 0
theorem aumbryref04_Vars.mono_l : ∀ k, (∀ y0 y1 y2 y3, LeO (aumbryref04_Vars.l0 k y0 y1 y2 y3) (aumbryref04_Vars.l0 (k + 1) y0 y1 y2 y3))
 | 0 => fun _ _ _ _ r h => by simp [aumbryref04_Vars.l0] at h
 | k + 1 => by
  have ih0 := aumbryref04_Vars.mono_l k
  ·
   intro y0 y1 y2 y3
   unfold aumbryref04_Vars.l0
   repeat' first
   | (with_reducible exact ih0 _ _ _ _)
   | (with_reducible exact aumbryref03_Has.mono _ _ _)
   | (with_reducible exact aumbryref03_Kind.mono _ _)
   | (with_reducible exact LeO.refl _)
   | (with_reducible exact LeO.none _)
   | (with_reducible refine LeO.ite ?_ ?_)
   | (with_reducible refine LeO.bind ?_ (fun _ => ?_))
theorem aumbryref04_Vars.mono : ∀ a0 k, LeO (aumbryref04_Vars.f k a0) (aumbryref04_Vars.f (k + 1) a0) := by
 intro a0 k
 have ih0 := aumbryref04_Vars.mono_l k
 unfold aumbryref04_Vars.f
 repeat' first
  | (with_reducible exact ih0 _ _ _ _)
  | (with_reducible exact aumbryref03_Has.mono _ _ _)
  | (with_reducible exact aumbryref03_Kind.mono _ _)
  | (with_reducible exact LeO.refl _)
  | (with_reducible exact LeO.none _)
  | (with_reducible refine LeO.ite ?_ ?_)
  | (with_reducible refine LeO.bind ?_ (fun _ => ?_))
theorem aumbryref04_Vars.calls (k : Nat) (A0 : Option Addr) (c0 : Nat) (l0 : List (S33)) (r : List ByteArray) (w : World) (hr0 : Kd.C k33 w A0 l0.length l0) (hc0 : l0.length ≤ c0) (h : aumbryref04_Vars.f k l0 = some r) :
 Calls Tryd.prog 39 #[.slice A0 l0.length c0] w fun e w' => ∃ v0_ : Value, e = .returned (v0_) ∧ Kd.R Kd.string 9 w' w.heap.size (fun _ => True) v0_ r ∧ Below w.heap.size w w' := by
 have HR0 := zM hr0
 have HC0 := zM hc0
 clear hr0 hc0
 have HB := zM (Below.refl w.heap.size w)
 have H : (aumbryref04_Vars.l0 k l0 ([] : List ByteArray) (l0.length : Int) 0) = some r := h
 clear h
 have H' := zM H
 clear H
 go_enter Tryd.func39, Tryd.ntmps39
 go_wp2
 go_loopg [3, 7] k (fun kq v3 v7 w' => ∃ (x3_1 : List ByteArray) (x7_1 : Int), v7 = .int .i64 x7_1 ∧ Aside0 (aumbryref04_Vars.l0 kq l0 x3_1 (l0.length : Int) x7_1 = some r) ∧ Aside0 (kq ≤ k) ∧ Aside0 (Kd.R Kd.string 9 w' w.heap.size (fun _ => True) v3 x3_1) ∧ Aside0 (Below w.heap.size w w'))
 case atStart => exact ⟨(([] : List ByteArray)), (0), zy, H', ⟨Nat.le_refl _⟩, ⟨by first | exact Kd.R_nil _ _ _ _ _ | exact Kd.N_nil _ _ _ _ _ | exact Kd.V_nil _ _ _ _ _ | exact Kd.Q_nil _ _ _ _ _ | exact Kd.S_nil _ _ _ _ _⟩, ⟨zb⟩⟩
 case round =>
  clear H'
  obtain ⟨x3_1, x7_1, rfl, HA, HK1, HO_3, HB⟩ := hrel
  cases gk with
  | zero => exact absurd HA.out (by simp [aumbryref04_Vars.l0])
  | succ k1 =>
   have H := HA.out
   clear HA
   simp only [aumbryref04_Vars.l0] at H
   by_cases c2 : x7_1 < (l0.length : Int)
   ·
    rw [if_pos c2] at H
    have c2b0 : decide (x7_1 < (l0.length : Int)) = true := zQ c2
    clear c2
    by_cases c3 : 0 ≤ x7_1
    ·
     rw [if_pos c3] at H
     have c3b0 : decide (0 ≤ x7_1) = true := zQ c3
     clear c3
     by_cases c4 : x7_1 < (l0.length : Int)
     ·
      rw [if_pos c4] at H
      have c4b0 : decide (x7_1 < (l0.length : Int)) = true := zQ c4
      clear c4
      replace H := zB H
      obtain ⟨t102, A50, H⟩ := H
      try dsimp only at H
      have A5 := zM A50
      clear A50
      by_cases c6 : t102 = 2
      ·
       rw [if_pos c6] at H
       have c6b0 : (t102 == 2) = true := zG c6
       have c6b1 : (t102 != 2) = false := zH c6
       clear c6
       replace H := zB H
       obtain ⟨t104, A70, H⟩ := H
       try dsimp only at H
       have A7 := zM A70
       clear A70
       by_cases c8 : t104 = true
       ·
        subst c8
        rw [if_pos rfl] at H
        have H' := zM H
        clear H
        have p101 : 0 ≤ (x7_1 : Int) := zT zv
        have q101 : x7_1 < (l0.length : Int) := zT zv
        obtain ⟨ad101, e101, hx101_0, hx101_1⟩ := at_T33 HR0.out x7_1 p101 q101
        cases e101
        replace hx101_0 := (HB.out.cell (World.block_lt_of_cell? w _ hx101_0)).trans hx101_0
        replace hx101_1 := (HB.out.cell (World.block_lt_of_cell? w _ hx101_1)).trans hx101_1
        replace p101 := eq_true p101
        replace q101 := eq_true q101
        go_wp2_with (first | ((with_reducible refine gate_callee (f := 61) rfl ?_); refine goesL_ (some 15) rfl rfl Tryd.func61 (by kernel_rfl) rfl #[.string ((rd_T33 l0 x7_1).f0)] rfl zl ?_; (with_reducible refine (aumbryref03_Kind.calls k1 ((rd_T33 l0 x7_1).f0) t102 _ A5.out).mono ?_); rintro e w' ⟨rfl, ⟨nd, rfl⟩⟩; refine ⟨_, rfl, ?_⟩; have p103 : 0 ≤ (x7_1 : Int) := zT zv; have q103 : x7_1 < (l0.length : Int) := zT zv; obtain ⟨ad103, e103, hx103_0, hx103_1⟩ := at_T33 HR0.out x7_1 p103 q103; obtain rfl : ad101 = ad103 := (by injection e103); replace hx103_0 := (HB.out.cell (World.block_lt_of_cell? w _ hx103_0)).trans hx103_0; replace hx103_1 := (HB.out.cell (World.block_lt_of_cell? w _ hx103_1)).trans hx103_1; replace p103 := eq_true p103; replace q103 := eq_true q103; obtain ⟨Ao9, co9, eo9⟩ := Kd.R_slice HO_3.out; subst eo9) | (go_at_call 40; (with_reducible refine (aumbryref03_Has.calls k1 _ _ x3_1 ((rd_T33 l0 x7_1).f0) true _ ?side1 ?side2 A7.out).mono ?_); (case side1 => exact Kd.C_below (Kd.R_reads' HO_3.out).2.2 zg); (case side2 => exact (Kd.R_reads' HO_3.out).2.1); rintro e w' ⟨rfl, ⟨nd, rfl⟩⟩))
        go_roundg k1
        case measure => have := HK1.out; omega
        case rel => exact ⟨(x3_1), (wrap64 (x7_1 + 1)), zy, H', ⟨by have := HK1.out; omega⟩, ⟨zr HO_3.out⟩, ⟨zb⟩⟩
       ·
        replace c8 := zI c8
        subst c8
        rw [if_neg (show ¬ (false = true) by decide)] at H
        by_cases c10 : x3_1.length < 8796093022208
        ·
         rw [if_pos c10] at H
         have LMc10 := zM c10
         clear c10
         obtain ⟨y106, hy106⟩ : ∃ y_ : List ByteArray, y_ = (x3_1 ++ [(rd_T33 l0 x7_1).f0]) := ⟨_, rfl⟩
         replace H : (aumbryref04_Vars.l0 k1 l0 y106 (l0.length : Int) (wrap64 (x7_1 + 1))) = some r := by first | (rw [hy106]; with_reducible exact H) | (have H2_ := (Option.bind_some _ _).symm.trans H; rw [hy106]; with_reducible exact H2_) | (have H2_ := (Option.bind_some _ _).symm.trans H; with_reducible exact H2_) | with_reducible exact H | (rw [hy106]; exact H) | exact H
         have Ny106 := zM hy106
         clear hy106
         have H' := zM H
         clear H
         have p101 : 0 ≤ (x7_1 : Int) := zT zv
         have q101 : x7_1 < (l0.length : Int) := zT zv
         obtain ⟨ad101, e101, hx101_0, hx101_1⟩ := at_T33 HR0.out x7_1 p101 q101
         cases e101
         replace hx101_0 := (HB.out.cell (World.block_lt_of_cell? w _ hx101_0)).trans hx101_0
         replace hx101_1 := (HB.out.cell (World.block_lt_of_cell? w _ hx101_1)).trans hx101_1
         replace p101 := eq_true p101
         replace q101 := eq_true q101
         go_wp2_with (first | ((with_reducible refine gate_callee (f := 61) rfl ?_); refine goesL_ (some 15) rfl rfl Tryd.func61 (by kernel_rfl) rfl #[.string ((rd_T33 l0 x7_1).f0)] rfl zl ?_; (with_reducible refine (aumbryref03_Kind.calls k1 ((rd_T33 l0 x7_1).f0) t102 _ A5.out).mono ?_); rintro e w' ⟨rfl, ⟨nd, rfl⟩⟩; refine ⟨_, rfl, ?_⟩; have p103 : 0 ≤ (x7_1 : Int) := zT zv; have q103 : x7_1 < (l0.length : Int) := zT zv; obtain ⟨ad103, e103, hx103_0, hx103_1⟩ := at_T33 HR0.out x7_1 p103 q103; obtain rfl : ad101 = ad103 := (by injection e103); replace hx103_0 := (HB.out.cell (World.block_lt_of_cell? w _ hx103_0)).trans hx103_0; replace hx103_1 := (HB.out.cell (World.block_lt_of_cell? w _ hx103_1)).trans hx103_1; replace p103 := eq_true p103; replace q103 := eq_true q103; obtain ⟨Ao11, co11, eo11⟩ := Kd.R_slice HO_3.out; subst eo11) | (go_at_call 40; (with_reducible refine (aumbryref03_Has.calls k1 _ _ x3_1 ((rd_T33 l0 x7_1).f0) false _ ?side1 ?side2 A7.out).mono ?_); (case side1 => exact Kd.C_below (Kd.R_reads' HO_3.out).2.2 zg); (case side2 => exact (Kd.R_reads' HO_3.out).2.1); rintro e w' ⟨rfl, ⟨nd, rfl⟩⟩; have p105 : 0 ≤ (x7_1 : Int) := zT zv; have q105 : x7_1 < (l0.length : Int) := zT zv; obtain ⟨ad105, e105, hx105_0, hx105_1⟩ := at_T33 HR0.out x7_1 p105 q105; obtain rfl : ad101 = ad105 := (by injection e105); replace hx105_0 := (HB.out.cell (World.block_lt_of_cell? w _ hx105_0)).trans hx105_0; replace hx105_1 := (HB.out.cell (World.block_lt_of_cell? w _ hx105_1)).trans hx105_1; replace p105 := eq_true p105; replace q105 := eq_true q105) | ((with_reducible refine gate_builtin (b := .append) (xs := #[.tmp 27, .tmp 33]) rfl ?_); at_builtin; refine Kd.R_append Kd.string (w0 := w) w.heap.size rfl (.tmp 27) (.tmp 33) 58 9 (.string ⟨#[]⟩) 16 rfl Tryd.underlying58 info9 rfl (by decide) (by omega) (.slice Ao11 x3_1.length co11) x3_1 ((rd_T33 l0 x7_1).f0) [.string ((rd_T33 l0 x7_1).f0)] (fun _ => True) (fun _ => False) rfl rfl ?aP (fun _ hk => hk.elim) ?aF ?aO ?aB ?aS ?aL ?_; (case aP => exact rfl); (case aB => exact zb); (case aF => exact (fun _ _ => trivial)); (case aO => exact (zr HO_3.out)); (case aS => exact (below_size zb)); (case aL => have := LMc10.out; omega); intro v107 w12 ho hb hg hat; rw [← Ny106.out] at ho; replace HB := zM (hb); have HO108 := zM (ho); clear HO_3; clear ho hb hg hat))
         go_roundg k1
         case measure => have := HK1.out; omega
         case rel => exact ⟨(y106), (wrap64 (x7_1 + 1)), zy, H', ⟨by have := HK1.out; omega⟩, ⟨zr HO108.out⟩, ⟨zb⟩⟩
        ·
         rw [if_neg c10] at H
         exact absurd H (by simp)
      ·
       rw [if_neg c6] at H
       have c6b0 : (t102 == 2) = false := zE c6
       have c6b1 : (t102 != 2) = true := zF c6
       have H' := zM H
       clear H
       have p101 : 0 ≤ (x7_1 : Int) := zT zv
       have q101 : x7_1 < (l0.length : Int) := zT zv
       obtain ⟨ad101, e101, hx101_0, hx101_1⟩ := at_T33 HR0.out x7_1 p101 q101
       cases e101
       replace hx101_0 := (HB.out.cell (World.block_lt_of_cell? w _ hx101_0)).trans hx101_0
       replace hx101_1 := (HB.out.cell (World.block_lt_of_cell? w _ hx101_1)).trans hx101_1
       replace p101 := eq_true p101
       replace q101 := eq_true q101
       go_wp2_with (first | ((with_reducible refine gate_callee (f := 61) rfl ?_); refine goesL_ (some 15) rfl rfl Tryd.func61 (by kernel_rfl) rfl #[.string ((rd_T33 l0 x7_1).f0)] rfl zl ?_; (with_reducible refine (aumbryref03_Kind.calls k1 ((rd_T33 l0 x7_1).f0) t102 _ A5.out).mono ?_); rintro e w' ⟨rfl, ⟨nd, rfl⟩⟩; refine ⟨_, rfl, ?_⟩))
       go_roundg k1
       case measure => have := HK1.out; omega
       case rel => exact ⟨(x3_1), (wrap64 (x7_1 + 1)), zy, H', ⟨by have := HK1.out; omega⟩, ⟨zr HO_3.out⟩, ⟨zb⟩⟩
     ·
      rw [if_neg c4] at H
      exact absurd H (by simp)
    ·
     rw [if_neg c3] at H
     exact absurd H (by simp)
   ·
    rw [if_neg c2] at H
    have c2b0 : decide (x7_1 < (l0.length : Int)) = false := zR c2
    clear c2
    obtain rfl := zS H
    go_wp2
    go_ret
    exact ⟨_, zw, zr HO_3.out, zb⟩

end Go.Proofs.YtpnamhplhdaphaaDoor.P
