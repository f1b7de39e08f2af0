/- Part 6 of what Stay rests on: contracts of the program's functions and plain facts (the print's texts and the session's own, put together). -/
import Derived.Test.YtdacpdhpifocbaaBStay4
namespace Go.Proofs.Ytdacpdhpifocbaa.P
open Go.RowKit Go.Proofs.YtdacpdhpifocbaaW.PrintWords Go.Proofs.YtdacpdhpifocbaaW.PrintLast Go.Proofs.YtdacpdhpifocbaaW.PrintMore
attribute [local go_sem] max2_int min2_int max_two min_two max_three min_three max_four min_four   -- for this text's walks alone
set_option linter.unusedVariables false
set_option linter.unusedSimpArgs false

/-! ### impl_goesOn: function 31 -/
def impl_goesOn.f (a0_0 : Int) (a0_1 : Int) (a1_0 : Int) (a1_1 : Int) (a2_0 : Int) (a2_1 : Int) : Option (Bool) := if (wrap64 (a2_0 - a1_0)) = (wrap64 (a1_0 - a0_0)) then (some ((wrap64 (a2_1 - a1_1)) == (wrap64 (a1_1 - a0_1)))) else (some false)
set_option maxHeartbeats 8000000 in
set_option maxRecDepth 100000 in
theorem impl_goesOn.calls (a0_0 : Int) (a0_1 : Int) (a1_0 : Int) (a1_1 : Int) (a2_0 : Int) (a2_1 : Int) (r : Bool) (w : World) (h : impl_goesOn.f a0_0 a0_1 a1_0 a1_1 a2_0 a2_1 = some r) :
    Calls Try.prog 31 #[.agg #[.int .i64 a0_0, .int .i64 a0_1], .agg #[.int .i64 a1_0, .int .i64 a1_1], .agg #[.int .i64 a2_0, .int .i64 a2_1]] w fun e w' => e = .returned (.bool r) ∧ Below w.heap.size w w' := by
  have hu38 := Try.underlying38
  have HB := Aside0.mk (Below.refl w.heap.size w)
  have H : (if (wrap64 (a2_0 - a1_0)) = (wrap64 (a1_0 - a0_0)) then (some ((wrap64 (a2_1 - a1_1)) == (wrap64 (a1_1 - a0_1)))) else (some false)) = some r := h
  clear h
  by_cases c4 : (wrap64 (a2_0 - a1_0)) = (wrap64 (a1_0 - a0_0))
  · rw [if_pos c4] at H
    have c4b0 : ((wrap64 (a2_0 - a1_0)) == (wrap64 (a1_0 - a0_0))) = true := beq_iff_eq.mpr c4
    have c4b1 : ((wrap64 (a2_0 - a1_0)) != (wrap64 (a1_0 - a0_0))) = false := bne_eq_false_iff_eq.mpr c4
    clear c4
    obtain rfl := Option.some.inj H
    go_enter Try.func31, Try.ntmps31
    go_wp2_with (first | ((with_reducible refine gate_dst (N := 3) rfl ?_); refine box_event ?hg (N := 3) ?hd (cs := #[.int .i64 a0_0, .int .i64 a0_1]) (t := 38) ?hr ?_; (case hd => rfl); (case hg => rfl); (case hr => first | (go_simp; done) | (go_simp; rfl)); intro gb101 hg w5 hbox hb; have n0_ := Aside0.mk (below_step (by repeat (first | (with_reducible first | exact HB.out | apply below_alloc | apply pw_below_drewN | apply below_drew1) | exact HB.out)) hb); have n1_ := Aside0.mk (hbox); have n2_ := Aside0.mk ((by rw [hg]; exact (below_size (by repeat (first | (with_reducible first | exact HB.out | apply below_alloc | apply pw_below_drewN | apply below_drew1) | exact HB.out))) : w.heap.size ≤ gb101)); have n3_ := Aside0.mk ((by rw [hg]; exact (below_size (by repeat (first | (with_reducible first | exact HB.out | apply below_alloc | apply pw_below_drewN | apply below_drew1) | exact HB.out))) : w.heap.size ≤ gb101)); clear HB; have HB := n0_; have BK101 := n1_; have GW101 := n2_; have GE101 := n3_; clear n0_ n1_ n2_ n3_; clear hb hbox hg) | ((with_reducible refine gate_dst (N := 4) rfl ?_); refine box_event ?hg (N := 4) ?hd (cs := #[.int .i64 a1_0, .int .i64 a1_1]) (t := 38) ?hr ?_; (case hd => rfl); (case hg => rfl); (case hr => first | (go_simp; done) | (go_simp; rfl)); intro gb102 hg w6 hbox hb; have n0_ := Aside0.mk (blk_below (g := gb101) (o := .cells #[.int .i64 a0_0, .int .i64 a0_1] 38 (0, 0)) (by (with_reducible repeat (first | refine blk_drewN ?_ _ | refine blk_drew ?_ | refine blk_alloc ?_ _)); exact BK101.out) hb); have n1_ := Aside0.mk (below_step (by repeat (first | (with_reducible first | exact HB.out | apply below_alloc | apply pw_below_drewN | apply below_drew1 | refine below_set ?_ GE101.out) | exact HB.out)) hb); have n2_ := Aside0.mk (hbox); have n3_ := Aside0.mk ((by rw [hg]; exact (below_size (by repeat (first | (with_reducible first | exact HB.out | apply below_alloc | apply pw_below_drewN | apply below_drew1 | refine below_set ?_ GE101.out) | exact HB.out))) : w.heap.size ≤ gb102)); have n4_ := Aside0.mk ((by rw [hg]; exact (below_size (by repeat (first | (with_reducible first | exact HB.out | apply below_alloc | apply pw_below_drewN | apply below_drew1 | refine below_set ?_ GE101.out) | exact HB.out))) : w.heap.size ≤ gb102)); have n5_ := Aside0.mk ((by rw [hg]; exact Nat.ne_of_lt (blk_lt (g := gb101) (o := .cells #[.int .i64 a0_0, .int .i64 a0_1] 38 (0, 0)) (by (with_reducible repeat (first | refine blk_drewN ?_ _ | refine blk_drew ?_ | refine blk_alloc ?_ _)); exact BK101.out)) : gb101 ≠ gb102)); have n6_ := Aside0.mk ((by rw [hg]; exact Nat.ne_of_gt (blk_lt (g := gb101) (o := .cells #[.int .i64 a0_0, .int .i64 a0_1] 38 (0, 0)) (by (with_reducible repeat (first | refine blk_drewN ?_ _ | refine blk_drew ?_ | refine blk_alloc ?_ _)); exact BK101.out)) : gb102 ≠ gb101)); clear BK101; clear HB; have BK101 := n0_; have HB := n1_; have BK102 := n2_; have GW102 := n3_; have GE102 := n4_; have NB101_102 := n5_; have NB102_101 := n6_; clear n0_ n1_ n2_ n3_ n4_ n5_ n6_; clear hb hbox hg) | ((with_reducible refine gate_dst (N := 5) rfl ?_); refine box_event ?hg (N := 5) ?hd (cs := #[.int .i64 a2_0, .int .i64 a2_1]) (t := 38) ?hr ?_; (case hd => rfl); (case hg => rfl); (case hr => first | (go_simp; done) | (go_simp; rfl)); intro gb103 hg w7 hbox hb; have n0_ := Aside0.mk (blk_below (g := gb101) (o := .cells #[.int .i64 a0_0, .int .i64 a0_1] 38 (0, 0)) (by (with_reducible repeat (first | refine blk_drewN ?_ _ | refine blk_drew ?_ | refine blk_alloc ?_ _)); exact BK101.out) hb); have n1_ := Aside0.mk (blk_below (g := gb102) (o := .cells #[.int .i64 a1_0, .int .i64 a1_1] 38 (0, 0)) (by (with_reducible repeat (first | refine blk_drewN ?_ _ | refine blk_drew ?_ | refine blk_alloc ?_ _)); exact BK102.out) hb); have n2_ := Aside0.mk (below_step (by repeat (first | (with_reducible first | exact HB.out | apply below_alloc | apply pw_below_drewN | apply below_drew1 | refine below_set ?_ GE101.out | refine below_set ?_ GE102.out) | exact HB.out)) hb); have n3_ := Aside0.mk (hbox); have n4_ := Aside0.mk ((by rw [hg]; exact (below_size (by repeat (first | (with_reducible first | exact HB.out | apply below_alloc | apply pw_below_drewN | apply below_drew1 | refine below_set ?_ GE101.out | refine below_set ?_ GE102.out) | exact HB.out))) : w.heap.size ≤ gb103)); have n5_ := Aside0.mk ((by rw [hg]; exact (below_size (by repeat (first | (with_reducible first | exact HB.out | apply below_alloc | apply pw_below_drewN | apply below_drew1 | refine below_set ?_ GE101.out | refine below_set ?_ GE102.out) | exact HB.out))) : w.heap.size ≤ gb103)); have n6_ := Aside0.mk ((by rw [hg]; exact Nat.ne_of_lt (blk_lt (g := gb101) (o := .cells #[.int .i64 a0_0, .int .i64 a0_1] 38 (0, 0)) (by (with_reducible repeat (first | refine blk_drewN ?_ _ | refine blk_drew ?_ | refine blk_alloc ?_ _)); exact BK101.out)) : gb101 ≠ gb103)); have n7_ := Aside0.mk ((by rw [hg]; exact Nat.ne_of_gt (blk_lt (g := gb101) (o := .cells #[.int .i64 a0_0, .int .i64 a0_1] 38 (0, 0)) (by (with_reducible repeat (first | refine blk_drewN ?_ _ | refine blk_drew ?_ | refine blk_alloc ?_ _)); exact BK101.out)) : gb103 ≠ gb101)); have n8_ := Aside0.mk ((by rw [hg]; exact Nat.ne_of_lt (blk_lt (g := gb102) (o := .cells #[.int .i64 a1_0, .int .i64 a1_1] 38 (0, 0)) (by (with_reducible repeat (first | refine blk_drewN ?_ _ | refine blk_drew ?_ | refine blk_alloc ?_ _)); exact BK102.out)) : gb102 ≠ gb103)); have n9_ := Aside0.mk ((by rw [hg]; exact Nat.ne_of_gt (blk_lt (g := gb102) (o := .cells #[.int .i64 a1_0, .int .i64 a1_1] 38 (0, 0)) (by (with_reducible repeat (first | refine blk_drewN ?_ _ | refine blk_drew ?_ | refine blk_alloc ?_ _)); exact BK102.out)) : gb103 ≠ gb102)); clear BK101; clear BK102; clear HB; have BK101 := n0_; have BK102 := n1_; have HB := n2_; have BK103 := n3_; have GW103 := n4_; have GE103 := n5_; have NB101_103 := n6_; have NB103_101 := n7_; have NB102_103 := n8_; have NB103_102 := n9_; clear n0_ n1_ n2_ n3_ n4_ n5_ n6_ n7_ n8_ n9_; clear hb hbox hg; have hnb8 := NB103_101.out; have hnc8 := NB101_103.out; have hnb9 := NB103_102.out; have hnc9 := NB102_103.out; have hcz10_0 : w7.cell? ⟨gb103, 0, none⟩ = some (.int .i64 a2_0) := (blk_cell BK103.out 0).trans rfl; have hcz10_1 : w7.cell? ⟨gb103, 1, none⟩ = some (.int .i64 a2_1) := (blk_cell BK103.out 1).trans rfl; have hfz10_0 := blk_frozen BK103.out 0; have hfz10_1 := blk_frozen BK103.out 1; have hnb11 := NB102_101.out; have hnc11 := NB101_102.out; have hcz12_0 : w7.cell? ⟨gb102, 0, none⟩ = some (.int .i64 a1_0) := (blk_cell BK102.out 0).trans rfl; have hcz12_1 : w7.cell? ⟨gb102, 1, none⟩ = some (.int .i64 a1_1) := (blk_cell BK102.out 1).trans rfl; have hfz12_0 := blk_frozen BK102.out 0; have hfz12_1 := blk_frozen BK102.out 1; have hcz13_0 : w7.cell? ⟨gb101, 0, none⟩ = some (.int .i64 a0_0) := (blk_cell BK101.out 0).trans rfl; have hcz13_1 : w7.cell? ⟨gb101, 1, none⟩ = some (.int .i64 a0_1) := (blk_cell BK101.out 1).trans rfl; have hfz13_0 := blk_frozen BK101.out 0; have hfz13_1 := blk_frozen BK101.out 1))
    go_ret
    exact ⟨by first | rfl | (simp [errW_none, errW_some] <;> rfl) | (simp [*, errW_none, errW_some] <;> rfl), by repeat (first | (with_reducible first | exact HB.out | apply below_alloc | apply pw_below_drewN | apply below_drew1 | refine below_set ?_ GE101.out | refine below_set ?_ GE102.out | refine below_set ?_ GE103.out) | exact HB.out)⟩
  · rw [if_neg c4] at H
    have c4b0 : ((wrap64 (a2_0 - a1_0)) == (wrap64 (a1_0 - a0_0))) = false := beq_eq_false_iff_ne.mpr c4
    have c4b1 : ((wrap64 (a2_0 - a1_0)) != (wrap64 (a1_0 - a0_0))) = true := bne_iff_ne.mpr c4
    obtain rfl := Option.some.inj H
    go_enter Try.func31, Try.ntmps31
    go_wp2_with (first | ((with_reducible refine gate_dst (N := 3) rfl ?_); refine box_event ?hg (N := 3) ?hd (cs := #[.int .i64 a0_0, .int .i64 a0_1]) (t := 38) ?hr ?_; (case hd => rfl); (case hg => rfl); (case hr => first | (go_simp; done) | (go_simp; rfl)); intro gb101 hg w14 hbox hb; have n0_ := Aside0.mk (below_step (by repeat (first | (with_reducible first | exact HB.out | apply below_alloc | apply pw_below_drewN | apply below_drew1) | exact HB.out)) hb); have n1_ := Aside0.mk (hbox); have n2_ := Aside0.mk ((by rw [hg]; exact (below_size (by repeat (first | (with_reducible first | exact HB.out | apply below_alloc | apply pw_below_drewN | apply below_drew1) | exact HB.out))) : w.heap.size ≤ gb101)); have n3_ := Aside0.mk ((by rw [hg]; exact (below_size (by repeat (first | (with_reducible first | exact HB.out | apply below_alloc | apply pw_below_drewN | apply below_drew1) | exact HB.out))) : w.heap.size ≤ gb101)); clear HB; have HB := n0_; have BK101 := n1_; have GW101 := n2_; have GE101 := n3_; clear n0_ n1_ n2_ n3_; clear hb hbox hg) | ((with_reducible refine gate_dst (N := 4) rfl ?_); refine box_event ?hg (N := 4) ?hd (cs := #[.int .i64 a1_0, .int .i64 a1_1]) (t := 38) ?hr ?_; (case hd => rfl); (case hg => rfl); (case hr => first | (go_simp; done) | (go_simp; rfl)); intro gb102 hg w15 hbox hb; have n0_ := Aside0.mk (blk_below (g := gb101) (o := .cells #[.int .i64 a0_0, .int .i64 a0_1] 38 (0, 0)) (by (with_reducible repeat (first | refine blk_drewN ?_ _ | refine blk_drew ?_ | refine blk_alloc ?_ _)); exact BK101.out) hb); have n1_ := Aside0.mk (below_step (by repeat (first | (with_reducible first | exact HB.out | apply below_alloc | apply pw_below_drewN | apply below_drew1 | refine below_set ?_ GE101.out) | exact HB.out)) hb); have n2_ := Aside0.mk (hbox); have n3_ := Aside0.mk ((by rw [hg]; exact (below_size (by repeat (first | (with_reducible first | exact HB.out | apply below_alloc | apply pw_below_drewN | apply below_drew1 | refine below_set ?_ GE101.out) | exact HB.out))) : w.heap.size ≤ gb102)); have n4_ := Aside0.mk ((by rw [hg]; exact (below_size (by repeat (first | (with_reducible first | exact HB.out | apply below_alloc | apply pw_below_drewN | apply below_drew1 | refine below_set ?_ GE101.out) | exact HB.out))) : w.heap.size ≤ gb102)); have n5_ := Aside0.mk ((by rw [hg]; exact Nat.ne_of_lt (blk_lt (g := gb101) (o := .cells #[.int .i64 a0_0, .int .i64 a0_1] 38 (0, 0)) (by (with_reducible repeat (first | refine blk_drewN ?_ _ | refine blk_drew ?_ | refine blk_alloc ?_ _)); exact BK101.out)) : gb101 ≠ gb102)); have n6_ := Aside0.mk ((by rw [hg]; exact Nat.ne_of_gt (blk_lt (g := gb101) (o := .cells #[.int .i64 a0_0, .int .i64 a0_1] 38 (0, 0)) (by (with_reducible repeat (first | refine blk_drewN ?_ _ | refine blk_drew ?_ | refine blk_alloc ?_ _)); exact BK101.out)) : gb102 ≠ gb101)); clear BK101; clear HB; have BK101 := n0_; have HB := n1_; have BK102 := n2_; have GW102 := n3_; have GE102 := n4_; have NB101_102 := n5_; have NB102_101 := n6_; clear n0_ n1_ n2_ n3_ n4_ n5_ n6_; clear hb hbox hg) | ((with_reducible refine gate_dst (N := 5) rfl ?_); refine box_event ?hg (N := 5) ?hd (cs := #[.int .i64 a2_0, .int .i64 a2_1]) (t := 38) ?hr ?_; (case hd => rfl); (case hg => rfl); (case hr => first | (go_simp; done) | (go_simp; rfl)); intro gb103 hg w16 hbox hb; have n0_ := Aside0.mk (blk_below (g := gb101) (o := .cells #[.int .i64 a0_0, .int .i64 a0_1] 38 (0, 0)) (by (with_reducible repeat (first | refine blk_drewN ?_ _ | refine blk_drew ?_ | refine blk_alloc ?_ _)); exact BK101.out) hb); have n1_ := Aside0.mk (blk_below (g := gb102) (o := .cells #[.int .i64 a1_0, .int .i64 a1_1] 38 (0, 0)) (by (with_reducible repeat (first | refine blk_drewN ?_ _ | refine blk_drew ?_ | refine blk_alloc ?_ _)); exact BK102.out) hb); have n2_ := Aside0.mk (below_step (by repeat (first | (with_reducible first | exact HB.out | apply below_alloc | apply pw_below_drewN | apply below_drew1 | refine below_set ?_ GE101.out | refine below_set ?_ GE102.out) | exact HB.out)) hb); have n3_ := Aside0.mk (hbox); have n4_ := Aside0.mk ((by rw [hg]; exact (below_size (by repeat (first | (with_reducible first | exact HB.out | apply below_alloc | apply pw_below_drewN | apply below_drew1 | refine below_set ?_ GE101.out | refine below_set ?_ GE102.out) | exact HB.out))) : w.heap.size ≤ gb103)); have n5_ := Aside0.mk ((by rw [hg]; exact (below_size (by repeat (first | (with_reducible first | exact HB.out | apply below_alloc | apply pw_below_drewN | apply below_drew1 | refine below_set ?_ GE101.out | refine below_set ?_ GE102.out) | exact HB.out))) : w.heap.size ≤ gb103)); have n6_ := Aside0.mk ((by rw [hg]; exact Nat.ne_of_lt (blk_lt (g := gb101) (o := .cells #[.int .i64 a0_0, .int .i64 a0_1] 38 (0, 0)) (by (with_reducible repeat (first | refine blk_drewN ?_ _ | refine blk_drew ?_ | refine blk_alloc ?_ _)); exact BK101.out)) : gb101 ≠ gb103)); have n7_ := Aside0.mk ((by rw [hg]; exact Nat.ne_of_gt (blk_lt (g := gb101) (o := .cells #[.int .i64 a0_0, .int .i64 a0_1] 38 (0, 0)) (by (with_reducible repeat (first | refine blk_drewN ?_ _ | refine blk_drew ?_ | refine blk_alloc ?_ _)); exact BK101.out)) : gb103 ≠ gb101)); have n8_ := Aside0.mk ((by rw [hg]; exact Nat.ne_of_lt (blk_lt (g := gb102) (o := .cells #[.int .i64 a1_0, .int .i64 a1_1] 38 (0, 0)) (by (with_reducible repeat (first | refine blk_drewN ?_ _ | refine blk_drew ?_ | refine blk_alloc ?_ _)); exact BK102.out)) : gb102 ≠ gb103)); have n9_ := Aside0.mk ((by rw [hg]; exact Nat.ne_of_gt (blk_lt (g := gb102) (o := .cells #[.int .i64 a1_0, .int .i64 a1_1] 38 (0, 0)) (by (with_reducible repeat (first | refine blk_drewN ?_ _ | refine blk_drew ?_ | refine blk_alloc ?_ _)); exact BK102.out)) : gb103 ≠ gb102)); clear BK101; clear BK102; clear HB; have BK101 := n0_; have BK102 := n1_; have HB := n2_; have BK103 := n3_; have GW103 := n4_; have GE103 := n5_; have NB101_103 := n6_; have NB103_101 := n7_; have NB102_103 := n8_; have NB103_102 := n9_; clear n0_ n1_ n2_ n3_ n4_ n5_ n6_ n7_ n8_ n9_; clear hb hbox hg; have hnb17 := NB103_101.out; have hnc17 := NB101_103.out; have hnb18 := NB103_102.out; have hnc18 := NB102_103.out; have hcz19_0 : w16.cell? ⟨gb103, 0, none⟩ = some (.int .i64 a2_0) := (blk_cell BK103.out 0).trans rfl; have hcz19_1 : w16.cell? ⟨gb103, 1, none⟩ = some (.int .i64 a2_1) := (blk_cell BK103.out 1).trans rfl; have hfz19_0 := blk_frozen BK103.out 0; have hfz19_1 := blk_frozen BK103.out 1; have hnb20 := NB102_101.out; have hnc20 := NB101_102.out; have hcz21_0 : w16.cell? ⟨gb102, 0, none⟩ = some (.int .i64 a1_0) := (blk_cell BK102.out 0).trans rfl; have hcz21_1 : w16.cell? ⟨gb102, 1, none⟩ = some (.int .i64 a1_1) := (blk_cell BK102.out 1).trans rfl; have hfz21_0 := blk_frozen BK102.out 0; have hfz21_1 := blk_frozen BK102.out 1; have hcz22_0 : w16.cell? ⟨gb101, 0, none⟩ = some (.int .i64 a0_0) := (blk_cell BK101.out 0).trans rfl; have hcz22_1 : w16.cell? ⟨gb101, 1, none⟩ = some (.int .i64 a0_1) := (blk_cell BK101.out 1).trans rfl; have hfz22_0 := blk_frozen BK101.out 0; have hfz22_1 := blk_frozen BK101.out 1))
    go_ret
    exact ⟨by first | rfl | (simp [errW_none, errW_some] <;> rfl) | (simp [*, errW_none, errW_some] <;> rfl), by repeat (first | (with_reducible first | exact HB.out | apply below_alloc | apply pw_below_drewN | apply below_drew1 | refine below_set ?_ GE101.out | refine below_set ?_ GE102.out | refine below_set ?_ GE103.out) | exact HB.out)⟩

end Go.Proofs.Ytdacpdhpifocbaa.P

namespace Go.Proofs.Ytdacpdhpifocbaa.P
open Go.RowKit Go.Proofs.YtdacpdhpifocbaaW.PrintWords Go.Proofs.YtdacpdhpifocbaaW.PrintLast Go.Proofs.YtdacpdhpifocbaaW.PrintMore
attribute [local go_sem] max2_int min2_int max_two min_two max_three min_three max_four min_four   -- for this text's walks alone
set_option linter.unusedVariables false
set_option linter.unusedSimpArgs false

/-! ### impl_CodeTurns: function 12 -/
def impl_CodeTurns.l0 : Nat → List (S38) → List (S38) → Int → List (S38) → Int → Int → Option ((List (S38)))
  | 0, _, _, _, _, _, _ => none
  | k + 1, x0, x3, x4, x13, x14, x15 => if x15 < x14 then (if 0 ≤ x15 then (if x15 < (x13.length : Int) then (if x15 = 0 then (if x3.length < 8796093022208 then (impl_CodeTurns.l0 k x0 (x3 ++ [(⟨(rd_T38 x13 x15).f0, (rd_T38 x13 x15).f1⟩ : S38)]) x4 x13 x14 (wrap64 (x15 + 1))) else (none)) else (if x15 = x4 then (if x3.length < 8796093022208 then (impl_CodeTurns.l0 k x0 (x3 ++ [(⟨(rd_T38 x13 x15).f0, (rd_T38 x13 x15).f1⟩ : S38)]) x4 x13 x14 (wrap64 (x15 + 1))) else (none)) else (if 0 ≤ (wrap64 (x15 - 1)) then (if (wrap64 (x15 - 1)) < (x0.length : Int) then (if 0 ≤ (wrap64 (x15 + 1)) then (if (wrap64 (x15 + 1)) < (x0.length : Int) then ((impl_goesOn.f ((rd_T38 x0 (wrap64 (x15 - 1))).f0) ((rd_T38 x0 (wrap64 (x15 - 1))).f1) ((rd_T38 x13 x15).f0) ((rd_T38 x13 x15).f1) ((rd_T38 x0 (wrap64 (x15 + 1))).f0) ((rd_T38 x0 (wrap64 (x15 + 1))).f1)).bind fun t112 => (if t112 = true then (impl_CodeTurns.l0 k x0 x3 x4 x13 x14 (wrap64 (x15 + 1))) else (if x3.length < 8796093022208 then (impl_CodeTurns.l0 k x0 (x3 ++ [(⟨(rd_T38 x13 x15).f0, (rd_T38 x13 x15).f1⟩ : S38)]) x4 x13 x14 (wrap64 (x15 + 1))) else (none)))) else (none)) else (none)) else (none)) else (none)))) else (none)) else (none)) else (some x3)
def impl_CodeTurns.f (k : Nat) (l0 : List (S38)) : Option ((List (S38))) := (impl_isPath.f k l0).bind fun t101 => (if t101 = true then (impl_CodeTurns.l0 k l0 ([] : List (S38)) (wrap64 ((l0.length : Int) - 1)) l0 (l0.length : Int) 0) else (some ([] : List (S38))))
theorem impl_CodeTurns.mono_l : ∀ k, (∀ y0 y1 y2 y3 y4 y5, LeO (impl_CodeTurns.l0 k y0 y1 y2 y3 y4 y5) (impl_CodeTurns.l0 (k + 1) y0 y1 y2 y3 y4 y5))
  | 0 => fun _ _ _ _ _ _ r h => by simp [impl_CodeTurns.l0] at h
  | k + 1 => by
    have ih0 := impl_CodeTurns.mono_l k
    · intro y0 y1 y2 y3 y4 y5
      unfold impl_CodeTurns.l0
      repeat' first
      | (with_reducible exact ih0 _ _ _ _ _ _)
      | (with_reducible exact impl_isPath.mono _ _)
      | (with_reducible exact LeO.refl _)
      | (with_reducible exact LeO.none _)
      | (with_reducible refine LeO.ite ?_ ?_)
      | (with_reducible refine LeO.bind ?_ (fun _ => ?_))
      | exact ih0 _ _ _ _ _ _
      | exact impl_isPath.mono _ _
      | exact LeO.none _
      | refine LeO.ite ?_ ?_
      | refine LeO.bind ?_ (fun _ => ?_)
theorem impl_CodeTurns.mono : ∀ a0 k, LeO (impl_CodeTurns.f k a0) (impl_CodeTurns.f (k + 1) a0) := by
  intro a0 k
  have ih0 := impl_CodeTurns.mono_l k
  unfold impl_CodeTurns.f
  repeat' first
      | (with_reducible exact ih0 _ _ _ _ _ _)
      | (with_reducible exact impl_isPath.mono _ _)
      | (with_reducible exact LeO.refl _)
      | (with_reducible exact LeO.none _)
      | (with_reducible refine LeO.ite ?_ ?_)
      | (with_reducible refine LeO.bind ?_ (fun _ => ?_))
      | exact ih0 _ _ _ _ _ _
      | exact impl_isPath.mono _ _
      | exact LeO.none _
      | refine LeO.ite ?_ ?_
      | refine LeO.bind ?_ (fun _ => ?_)
def impl_CodeTurns.T8 : Bool × List (List Nat × List Nat) := (true, [([], []), ([0], [0]), ([1], [1]), ([2], [2]), ([2], [2]), ([3, 4, 2], [2, 3, 4]), ([2, 5], [2, 5]), ([6, 2], [6]), ([7], [7]), ([7], [7]), ([9, 7], [7, 9]), ([8, 10, 7], [7, 8, 10]), ([11, 7], [7, 11]), ([7], [7]), ([7], [7]), ([7], [7]), ([15, 7], [7, 15]), ([14, 16, 7], [7, 14, 16]), ([17, 7], [7, 17]), ([12, 13, 18, 7, 7], [7, 12, 13, 18]), ([19, 7], [7, 19]), ([7, 20], [7, 20])])
def impl_CodeTurns.B8 : List Nat := [0, 1, 3, 7, 7, 31, 63, 127, 255, 255, 767, 2047, 4095, 255, 255, 255, 33023, 114943, 246015, 524287, 1048575, 2097151]
theorem impl_CodeTurns.tab8 : rtab .any (opsOf Try.f12 8) = impl_CodeTurns.T8 := by kernel_rfl
theorem impl_CodeTurns.bits8 : waitsOk impl_CodeTurns.T8.2 impl_CodeTurns.B8 = true := by kernel_rfl
set_option hygiene false in
local macro "zq23_1" : tactic => `(tactic| (with_reducible repeat (first | refine blk_drewN ?_ _ | refine blk_drew ?_ | refine blk_alloc ?_ _)))
set_option hygiene false in
local macro "zq23_2" : term => `((by repeat (first | (with_reducible first | exact HB.out | apply below_alloc | apply pw_below_drewN | apply below_drew1) | exact HB.out)))
set_option hygiene false in
local macro "zq23_3" : tactic => `(tactic| (with_reducible repeat (first | apply Kd.R_alloc | apply Kd.R_drewN | apply Kd.R_drew)))
set_option hygiene false in
local macro "zq23_4" : term => `((by repeat (first | (with_reducible first | exact HB.out | apply below_alloc | apply pw_below_drewN | apply below_drew1 | refine below_set ?_ GE103.out) | exact HB.out)))
set_option hygiene false in
local macro "zq23_5" : term => `((by first | (with_reducible assumption) | assumption))
set_option hygiene false in
local macro "zq23_8" : term => `((by (try simp only [List.map_toArray, List.map_cons, List.map_nil]); first | done | (simp only [hji24, hji27]; rfl) | rfl | (simp only [List.length_drop, List.length_take]; rfl)))
set_option hygiene false in
local macro "zq23_9" : tactic => `(tactic| (case aP => exact k38_mkM _ _ _ (⟨(rd_T38 l0 x15_1).f0, (rd_T38 l0 x15_1).f1⟩ : S38)))
set_option hygiene false in
local macro "zq23_10" : tactic => `(tactic| (case side1 => repeat (first | exact HR0.out | (with_reducible refine Kd.C_alloc ?_ _) | (with_reducible refine Kd.C_drewN ?_ _) | (with_reducible refine Kd.C_drew ?_))))
set_option hygiene false in
local macro "zq23_6" : term => `((by rw [hg]; exact (below_size zq23_2) : w.heap.size ≤ gb103))
set_option hygiene false in
local macro "zq23_7" : tactic => `(tactic| (case aF => exact (fun k_ hk => Kd.freshB (g := gb103) (o := .cells #[.int .i64 ((rd_T38 l0 x15_1).f0), .int .i64 ((rd_T38 l0 x15_1).f1)] 38 (0, 0)) (by (zq23_1); exact BK103.out) k_ hk)))
set_option maxHeartbeats 8000000 in
set_option maxRecDepth 100000 in
theorem impl_CodeTurns.calls (k : Nat) (A0 : Option Addr) (c0 : Nat) (l0 : List (S38)) (r : List (S38)) (w : World) (hr0 : Kd.C k38 w A0 l0.length l0) (hc0 : l0.length ≤ c0) (h : impl_CodeTurns.f k l0 = some r) :
  Calls Try.prog 12 #[.slice A0 l0.length c0] w fun e w' => ∃ v0_ : Value, e = .returned (v0_) ∧ Kd.R k38 38 w' w.heap.size (fun _ => True) v0_ r ∧ Below w.heap.size w w' := by
 have hu38 := Try.underlying38
 have HR0 := Aside0.mk hr0
 have HC0 := Aside0.mk hc0
 clear hr0 hc0
 have HB := Aside0.mk (Below.refl w.heap.size w)
 have H : ((impl_isPath.f k l0).bind fun t101 => (if t101 = true then (impl_CodeTurns.l0 k l0 ([] : List (S38)) (wrap64 ((l0.length : Int) - 1)) l0 (l0.length : Int) 0) else (some ([] : List (S38))))) = some r := h
 clear h
 replace H := Option.bind_eq_some_iff.mp H
 obtain ⟨t101, A20, H⟩ := H
 replace H : (if t101 = true then (impl_CodeTurns.l0 k l0 ([] : List (S38)) (wrap64 ((l0.length : Int) - 1)) l0 (l0.length : Int) 0) else (some ([] : List (S38)))) = some r := H
 have A2 := Aside0.mk A20
 clear A20
 by_cases c3 : t101 = true
 ·subst c3
  have H1 : (impl_CodeTurns.l0 k l0 ([] : List (S38)) (wrap64 ((l0.length : Int) - 1)) l0 (l0.length : Int) 0) = some r := by rw [if_pos rfl] at H; exact H
  clear H
  have H := H1
  clear H1
  have H' := Aside0.mk H
  clear H
  go_enter Try.func12, Try.ntmps12
  go_wp2_with (first | ((with_reducible refine gate_callee (f := 30) rfl ?_); refine goesL_ (some 8) rfl rfl Try.func30 (by kernel_rfl) rfl #[.slice A0 l0.length c0] rfl (by (try simp only [List.map_toArray, List.map_cons, List.map_nil]); first | done | rfl | (simp only [List.length_drop, List.length_take]; rfl)) ?_; (with_reducible refine (impl_isPath.calls k _ _ l0 true _ ?side1 ?side2 A2.out).mono ?_); (zq23_10); (case side2 => exact HC0.out); rintro e w4 ⟨rfl, hb⟩; refine ⟨_, rfl, ?_⟩; have n0_ := Aside0.mk (below_step zq23_2 hb); clear HB; have HB := n0_; clear n0_; (try clear hb); (try clear hb2); (try clear hk); (try clear hi)))
  go_loopg [3, 15] k (fun kq v3 v15 w' => ∃ (x3_1 : List (S38)) (x15_1 : Int), v15 = .int .i64 x15_1 ∧ Aside0 (impl_CodeTurns.l0 kq l0 x3_1 (wrap64 ((l0.length : Int) - 1)) l0 (l0.length : Int) x15_1 = some r) ∧ Aside0 (kq ≤ k) ∧ Aside0 (Kd.R k38 38 w' w.heap.size (fun _ => True) v3 x3_1) ∧ Aside0 (Below w.heap.size w w'))
  case atStart => exact ⟨(([] : List (S38))), (0), (by first | rfl | (simp; done) | (simp [*]; done)), H', ⟨Nat.le_refl _⟩, ⟨by first | exact Kd.R_nil _ _ _ _ _ | exact Kd.N_nil _ _ _ _ _ | exact Kd.V_nil _ _ _ _ _ | exact Kd.Q_nil _ _ _ _ _ | exact Kd.S_nil _ _ _ _ _⟩, ⟨by repeat (first | (with_reducible first | exact HB.out | apply below_alloc | apply pw_below_drewN | apply below_drew1) | exact HB.out)⟩⟩
  case round =>
   clear H'
   try clear c1
   try clear p2
   try clear c3
   obtain ⟨x3_1, x15_1, rfl, HA, HK1, HO_3, HB⟩ := hrel
   cases gk with
   | zero => exact absurd HA.out (by simp [impl_CodeTurns.l0])
   | succ k1 =>
    have H := HA.out
    clear HA
    simp only [impl_CodeTurns.l0] at H
    by_cases c5 : x15_1 < (l0.length : Int)
    ·rw [if_pos c5] at H
     have c5b0 : decide (x15_1 < (l0.length : Int)) = true := decide_eq_true c5
     clear c5
     by_cases c6 : 0 ≤ x15_1
     ·rw [if_pos c6] at H
      have c6b0 : decide (0 ≤ x15_1) = true := decide_eq_true c6
      clear c6
      by_cases c7 : x15_1 < (l0.length : Int)
      ·rw [if_pos c7] at H
       have c7b0 : decide (x15_1 < (l0.length : Int)) = true := decide_eq_true c7
       clear c7
       by_cases c8 : x15_1 = 0
       ·rw [if_pos c8] at H
        have c8b0 : (x15_1 == 0) = true := beq_iff_eq.mpr c8
        have c8b1 : (x15_1 != 0) = false := bne_eq_false_iff_eq.mpr c8
        clear c8
        by_cases c9 : x3_1.length < 8796093022208
        ·rw [if_pos c9] at H
         have LMc9 := Aside0.mk c9
         clear c9
         obtain ⟨y104, hy104⟩ : ∃ y_ : List (S38), y_ = (x3_1 ++ [(⟨(rd_T38 l0 x15_1).f0, (rd_T38 l0 x15_1).f1⟩ : S38)]) := ⟨_, rfl⟩
         replace H : (impl_CodeTurns.l0 k1 l0 y104 (wrap64 ((l0.length : Int) - 1)) l0 (l0.length : Int) (wrap64 (x15_1 + 1))) = some r := by first | (rw [hy104]; with_reducible exact H) | (have H2_ := (Option.bind_some _ _).symm.trans H; rw [hy104]; with_reducible exact H2_) | (have H2_ := (Option.bind_some _ _).symm.trans H; with_reducible exact H2_) | with_reducible exact H | (rw [hy104]; exact H) | exact H
         have Ny104 := Aside0.mk hy104
         clear hy104
         have H' := Aside0.mk H
         clear H
         have p102 : 0 ≤ (x15_1 : Int) := of_decide_eq_true zq23_5
         have q102 : x15_1 < (l0.length : Int) := of_decide_eq_true zq23_5
         obtain ⟨ad102, e102, hx102_0, hx102_1⟩ := at_T38 HR0.out x15_1 p102 q102
         cases e102
         replace hx102_0 := (HB.out.cell (World.block_lt_of_cell? w _ hx102_0)).trans hx102_0
         replace hx102_1 := (HB.out.cell (World.block_lt_of_cell? w _ hx102_1)).trans hx102_1
         replace p102 := eq_true p102
         replace q102 := eq_true q102
         try go_wp2_with (first | ((with_reducible refine gate_dst (N := 6) rfl ?_); refine box_event ?hg (N := 6) ?hd (cs := #[.int .i64 0, .int .i64 0]) (t := 38) ?hr ?_; (case hd => rfl); (case hg => rfl); (case hr => first | (go_simp; done) | (go_simp; rfl)); intro gb103 hg w10 hbox hb; have n0_ := Aside0.mk (Kd.R_below (Kd.R_elderB (by (zq23_3); exact HO_3.out) gb103 (Nat.le_of_eq hg.symm)) hb); have n1_ := Aside0.mk (below_step zq23_2 hb); have n2_ := Aside0.mk (hbox); have n3_ := Aside0.mk (zq23_6); have n4_ := Aside0.mk (zq23_6); clear HO_3; clear HB; have HO_3 := n0_; have HB := n1_; have BK103 := n2_; have GW103 := n3_; have GE103 := n4_; clear n0_ n1_ n2_ n3_ n4_; clear hb hbox hg; have hcz11_0 : w10.cell? ⟨gb103, 0, none⟩ = some (.int .i64 0) := (blk_cell BK103.out 0).trans rfl; have hcz11_1 : w10.cell? ⟨gb103, 1, none⟩ = some (.int .i64 0) := (blk_cell BK103.out 1).trans rfl; have hfz11_0 := blk_frozen BK103.out 0; have hfz11_1 := blk_frozen BK103.out 1))
         have n0_ : Aside0 (Kd.R k38 38 ((w10.setCell ⟨gb103, 0, none⟩ (.int .i64 ((rd_T38 l0 x15_1).f0))).setCell ⟨gb103, 1, none⟩ (.int .i64 ((rd_T38 l0 x15_1).f1))) w.heap.size (fun k_ => k_ ≠ gb103) u3 x3_1) := ⟨by (zq23_3); exact Kd.R_mono (Kd.R_far (p := ⟨gb103, 1, none⟩) (Kd.R_far (p := ⟨gb103, 0, none⟩) (Kd.R_mono HO_3.out (fun k_ hk => (⟨hk, hk.2⟩ : _ ∧ k_ ≠ gb103))) (fun _ hk => hk.2) (.int .i64 ((rd_T38 l0 x15_1).f0))) (fun _ hk => hk.2) (.int .i64 ((rd_T38 l0 x15_1).f1))) (fun _ hk => hk.1.2)⟩
         have n1_ : Aside0 (((w10.setCell ⟨gb103, 0, none⟩ (.int .i64 ((rd_T38 l0 x15_1).f0))).setCell ⟨gb103, 1, none⟩ (.int .i64 ((rd_T38 l0 x15_1).f1))).heap[gb103]? = some (.cells #[.int .i64 ((rd_T38 l0 x15_1).f0), .int .i64 ((rd_T38 l0 x15_1).f1)] 38 (0, 0))) := ⟨by (zq23_1); refine blk_put (cs := #[.int .i64 ((rd_T38 l0 x15_1).f0), .int .i64 0]) ?_ 1 _ rfl; (zq23_1); refine blk_put (cs := #[.int .i64 0, .int .i64 0]) ?_ 0 _ rfl; (zq23_1); exact BK103.out⟩
         have n2_ : Aside0 (Below w.heap.size w ((w10.setCell ⟨gb103, 0, none⟩ (.int .i64 ((rd_T38 l0 x15_1).f0))).setCell ⟨gb103, 1, none⟩ (.int .i64 ((rd_T38 l0 x15_1).f1)))) := ⟨by repeat (first | (with_reducible first | exact HB.out | apply below_alloc | apply pw_below_drewN | apply below_drew1 | refine below_set ?_ GE103.out) | exact HB.out)⟩
         (try clear HO_3)
         (try clear BK103)
         (try clear HB)
         generalize ((w10.setCell ⟨gb103, 0, none⟩ (.int .i64 ((rd_T38 l0 x15_1).f0))).setCell ⟨gb103, 1, none⟩ (.int .i64 ((rd_T38 l0 x15_1).f1))) = w12 at n0_ n1_ n2_ ⊢
         have HO_3 := n0_
         have BK103 := n1_
         have HB := n2_
         clear n0_ n1_ n2_
         have n0_ := Aside0.mk (Kd.R_drew HO_3.out)
         have n1_ := Aside0.mk (blk_drew BK103.out)
         have n2_ := Aside0.mk (below_drew1 HB.out)
         clear HO_3
         clear BK103
         clear HB
         have HO_3 := n0_
         have BK103 := n1_
         have HB := n2_
         clear n0_ n1_ n2_
         refine start_ (n := 22) (S := fun w' => True) (ds := []) #[false, false, false, false, false, false, false, false, false, false, false, false, false, false, false, false, false, false, false, false, false, false] (by kernel_rfl) rfl rfl trivial (fun hHeld => ?_); refine with_tabW impl_CodeTurns.tab8 impl_CodeTurns.bits8 (fun HT_ HW_ => ?_)
         generalize w12.drew = w13 at HO_3 BK103 HB hHeld ⊢
         refine pure_ (i := 0) (N := some 20) (v := ?_) (a' := ?_) #[true, false, false, false, false, false, false, false, false, false, false, false, false, false, false, false, false, false, false, false, false, false] rfl rfl (any_of HT_.out (by kernel_rfl)) (fun _ _ _ h => h) (Or.inl ⟨by rfl, ?_⟩) ?_ ?_
         rotate_left
         ·intro w'
          go_simp
          with_reducible rfl
         rotate_left
         ·simp only [Act.put, List.setIfInBounds_toArray, List.set_cons_zero, List.set_cons_succ, i64_w, i32_w]
          rfl
         refine pure_ (i := 1) (N := some 21) (v := ?_) (a' := ?_) #[true, true, false, false, false, false, false, false, false, false, false, false, false, false, false, false, false, false, false, false, false, false] rfl rfl (any_of HT_.out (by kernel_rfl)) (fun _ _ _ h => h) (Or.inl ⟨by rfl, ?_⟩) ?_ ?_
         rotate_left
         ·intro w'
          go_simp
          with_reducible rfl
         rotate_left
         ·simp only [Act.put, List.setIfInBounds_toArray, List.set_cons_zero, List.set_cons_succ, i64_w, i32_w]
          rfl
         refine pure_ (i := 2) (N := some 22) (v := ?_) (a' := ?_) #[true, true, true, false, false, false, false, false, false, false, false, false, false, false, false, false, false, false, false, false, false, false] rfl rfl (any_of HT_.out (by kernel_rfl)) (fun _ _ _ h => h) (Or.inl ⟨by rfl, ?_⟩) ?_ ?_
         rotate_left
         ·intro w'
          go_simp
          with_reducible rfl
         rotate_left
         ·simp only [Act.put, List.setIfInBounds_toArray, List.set_cons_zero, List.set_cons_succ, i64_w, i32_w]
          rfl
         refine pure_ (i := 3) (N := some 23) (v := undef) (a' := ?_) #[true, true, true, true, false, false, false, false, false, false, false, false, false, false, false, false, false, false, false, false, false, false] rfl rfl (any_of HT_.out (by kernel_rfl)) (fun _ _ _ h => h) (Or.inr ⟨by rfl, rfl⟩) ?_ ?_
         rotate_left
         ·simp only [Act.put, List.setIfInBounds_toArray, List.set_cons_zero, List.set_cons_succ, i64_w, i32_w]
          rfl
         refine pure_ (i := 4) (N := some 24) (v := undef) (a' := ?_) #[true, true, true, true, true, false, false, false, false, false, false, false, false, false, false, false, false, false, false, false, false, false] rfl rfl (any_of HT_.out (by kernel_rfl)) (fun _ _ _ h => h) (Or.inr ⟨by rfl, rfl⟩) ?_ ?_
         rotate_left
         ·simp only [Act.put, List.setIfInBounds_toArray, List.set_cons_zero, List.set_cons_succ, i64_w, i32_w]
          rfl
         refine pure_ (i := 5) (N := some 25) (v := undef) (a' := ?_) #[true, true, true, true, true, true, false, false, false, false, false, false, false, false, false, false, false, false, false, false, false, false] rfl rfl (any_of HT_.out (by kernel_rfl)) (fun _ _ _ h => h) (Or.inr ⟨by rfl, rfl⟩) ?_ ?_
         rotate_left
         ·simp only [Act.put, List.setIfInBounds_toArray, List.set_cons_zero, List.set_cons_succ, i64_w, i32_w]
          rfl
         refine pure_ (i := 6) (N := some 26) (v := ?_) (a' := ?_) #[true, true, true, true, true, true, true, false, false, false, false, false, false, false, false, false, false, false, false, false, false, false] rfl rfl (any_of HT_.out (by kernel_rfl)) (fun _ _ _ h => h) (Or.inl ⟨by rfl, ?_⟩) ?_ ?_
         rotate_left
         ·intro w'
          go_simp
          with_reducible rfl
         rotate_left
         ·simp only [Act.put, List.setIfInBounds_toArray, List.set_cons_zero, List.set_cons_succ, i64_w, i32_w]
          rfl
         refine pure_ (i := 7) (N := some 27) (v := ?_) (a' := ?_) #[true, true, true, true, true, true, true, true, false, false, false, false, false, false, false, false, false, false, false, false, false, false] rfl rfl (any_of HT_.out (by kernel_rfl)) (fun _ _ _ h => h) (Or.inl ⟨by rfl, ?_⟩) ?_ ?_
         rotate_left
         ·intro w'
          go_simp
          with_reducible rfl
         rotate_left
         ·simp only [Act.put, List.setIfInBounds_toArray, List.set_cons_zero, List.set_cons_succ, i64_w, i32_w]
          rfl
         refine pure_ (i := 8) (N := some 28) (v := undef) (a' := ?_) #[true, true, true, true, true, true, true, true, true, false, false, false, false, false, false, false, false, false, false, false, false, false] rfl rfl (any_of HT_.out (by kernel_rfl)) (fun _ _ _ h => h) (Or.inr ⟨by rfl, rfl⟩) ?_ ?_
         rotate_left
         ·simp only [Act.put, List.setIfInBounds_toArray, List.set_cons_zero, List.set_cons_succ, i64_w, i32_w]
          rfl
         refine pure_ (i := 9) (N := some 29) (v := undef) (a' := ?_) #[true, true, true, true, true, true, true, true, true, true, false, false, false, false, false, false, false, false, false, false, false, false] rfl rfl (any_of HT_.out (by kernel_rfl)) (fun _ _ _ h => h) (Or.inr ⟨by rfl, rfl⟩) ?_ ?_
         rotate_left
         ·simp only [Act.put, List.setIfInBounds_toArray, List.set_cons_zero, List.set_cons_succ, i64_w, i32_w]
          rfl
         refine pure_ (i := 10) (N := some 30) (v := undef) (a' := ?_) #[true, true, true, true, true, true, true, true, true, true, true, false, false, false, false, false, false, false, false, false, false, false] rfl rfl (any_of HT_.out (by kernel_rfl)) (fun _ _ _ h => h) (Or.inr ⟨by rfl, rfl⟩) ?_ ?_
         rotate_left
         ·simp only [Act.put, List.setIfInBounds_toArray, List.set_cons_zero, List.set_cons_succ, i64_w, i32_w]
          rfl
         refine pure_ (i := 11) (N := some 31) (v := undef) (a' := ?_) #[true, true, true, true, true, true, true, true, true, true, true, true, false, false, false, false, false, false, false, false, false, false] rfl rfl (any_of HT_.out (by kernel_rfl)) (fun _ _ _ h => h) (Or.inr ⟨by rfl, rfl⟩) ?_ ?_
         rotate_left
         ·simp only [Act.put, List.setIfInBounds_toArray, List.set_cons_zero, List.set_cons_succ, i64_w, i32_w]
          rfl
         refine pure_ (i := 12) (N := some 32) (v := undef) (a' := ?_) #[true, true, true, true, true, true, true, true, true, true, true, true, true, false, false, false, false, false, false, false, false, false] rfl rfl (any_of HT_.out (by kernel_rfl)) (fun _ _ _ h => h) (Or.inr ⟨by rfl, rfl⟩) ?_ ?_
         rotate_left
         ·simp only [Act.put, List.setIfInBounds_toArray, List.set_cons_zero, List.set_cons_succ, i64_w, i32_w]
          rfl
         refine pure_ (i := 13) (N := some 33) (v := undef) (a' := ?_) #[true, true, true, true, true, true, true, true, true, true, true, true, true, true, false, false, false, false, false, false, false, false] rfl rfl (any_of HT_.out (by kernel_rfl)) (fun _ _ _ h => h) (Or.inr ⟨by rfl, rfl⟩) ?_ ?_
         rotate_left
         ·simp only [Act.put, List.setIfInBounds_toArray, List.set_cons_zero, List.set_cons_succ, i64_w, i32_w]
          rfl
         refine pure_ (i := 14) (N := some 34) (v := undef) (a' := ?_) #[true, true, true, true, true, true, true, true, true, true, true, true, true, true, true, false, false, false, false, false, false, false] rfl rfl (any_of HT_.out (by kernel_rfl)) (fun _ _ _ h => h) (Or.inr ⟨by rfl, rfl⟩) ?_ ?_
         rotate_left
         ·simp only [Act.put, List.setIfInBounds_toArray, List.set_cons_zero, List.set_cons_succ, i64_w, i32_w]
          rfl
         refine pure_ (i := 15) (N := some 35) (v := undef) (a' := ?_) #[true, true, true, true, true, true, true, true, true, true, true, true, true, true, true, true, false, false, false, false, false, false] rfl rfl (any_of HT_.out (by kernel_rfl)) (fun _ _ _ h => h) (Or.inr ⟨by rfl, rfl⟩) ?_ ?_
         rotate_left
         ·simp only [Act.put, List.setIfInBounds_toArray, List.set_cons_zero, List.set_cons_succ, i64_w, i32_w]
          rfl
         refine pure_ (i := 16) (N := some 36) (v := undef) (a' := ?_) #[true, true, true, true, true, true, true, true, true, true, true, true, true, true, true, true, true, false, false, false, false, false] rfl rfl (any_of HT_.out (by kernel_rfl)) (fun _ _ _ h => h) (Or.inr ⟨by rfl, rfl⟩) ?_ ?_
         rotate_left
         ·simp only [Act.put, List.setIfInBounds_toArray, List.set_cons_zero, List.set_cons_succ, i64_w, i32_w]
          rfl
         refine pure_ (i := 17) (N := some 37) (v := undef) (a' := ?_) #[true, true, true, true, true, true, true, true, true, true, true, true, true, true, true, true, true, true, false, false, false, false] rfl rfl (any_of HT_.out (by kernel_rfl)) (fun _ _ _ h => h) (Or.inr ⟨by rfl, rfl⟩) ?_ ?_
         rotate_left
         ·simp only [Act.put, List.setIfInBounds_toArray, List.set_cons_zero, List.set_cons_succ, i64_w, i32_w]
          rfl
         refine pure_ (i := 18) (N := some 38) (v := undef) (a' := ?_) #[true, true, true, true, true, true, true, true, true, true, true, true, true, true, true, true, true, true, true, false, false, false] rfl rfl (any_of HT_.out (by kernel_rfl)) (fun _ _ _ h => h) (Or.inr ⟨by rfl, rfl⟩) ?_ ?_
         rotate_left
         ·simp only [Act.put, List.setIfInBounds_toArray, List.set_cons_zero, List.set_cons_succ, i64_w, i32_w]
          rfl
         refine pure_ (i := 19) (N := some 39) (v := undef) (a' := ?_) #[true, true, true, true, true, true, true, true, true, true, true, true, true, true, true, true, true, true, true, true, false, false] rfl rfl (any_of HT_.out (by kernel_rfl)) (fun _ _ _ h => h) (Or.inr ⟨by rfl, rfl⟩) ?_ ?_
         rotate_left
         ·simp only [Act.put, List.setIfInBounds_toArray, List.set_cons_zero, List.set_cons_succ, i64_w, i32_w]
          rfl
         refine pure_ (i := 20) (N := some 40) (v := undef) (a' := ?_) #[true, true, true, true, true, true, true, true, true, true, true, true, true, true, true, true, true, true, true, true, true, false] rfl rfl (any_of HT_.out (by kernel_rfl)) (fun _ _ _ h => h) (Or.inr ⟨by rfl, rfl⟩) ?_ ?_
         rotate_left
         ·simp only [Act.put, List.setIfInBounds_toArray, List.set_cons_zero, List.set_cons_succ, i64_w, i32_w]
          rfl
         refine pure_ (i := 21) (N := some 41) (v := ?_) (a' := ?_) #[true, true, true, true, true, true, true, true, true, true, true, true, true, true, true, true, true, true, true, true, true, true] rfl rfl (any_of HT_.out (by kernel_rfl)) (fun _ _ _ h => h) (Or.inl ⟨by rfl, ?_⟩) ?_ ?_
         rotate_left
         ·intro w'
          go_simp
          with_reducible rfl
         rotate_left
         ·simp only [Act.put, List.setIfInBounds_toArray, List.set_cons_zero, List.set_cons_succ, i64_w, i32_w]
          rfl
         refine done_ (done_of HT_.out (by kernel_rfl)) ?_
         have hcz14_0 : w13.cell? ⟨gb103, 0, none⟩ = some (.int .i64 ((rd_T38 l0 x15_1).f0)) := (blk_cell BK103.out 0).trans rfl
         have hcz14_1 : w13.cell? ⟨gb103, 1, none⟩ = some (.int .i64 ((rd_T38 l0 x15_1).f1)) := (blk_cell BK103.out 1).trans rfl
         have hfz14_0 := blk_frozen BK103.out 0
         have hfz14_1 := blk_frozen BK103.out 1
         try go_wp2_with (first | ((with_reducible refine gate_builtin (b := .append) (xs := #[.tmp 42, .tmp 44]) rfl ?_); at_builtin; refine Kd.R_append k38 (w0 := w) w.heap.size rfl (.tmp 42) (.tmp 44) 24 38 (.agg #[(.int .i64 0), (.int .i64 0)]) 16 rfl Try.underlying24 info38 rfl (by decide) (by omega) u3 x3_1 (⟨(rd_T38 l0 x15_1).f0, (rd_T38 l0 x15_1).f1⟩ : S38) [.int .i64 ((rd_T38 l0 x15_1).f0), .int .i64 ((rd_T38 l0 x15_1).f1)] (fun k_ => k_ ≠ gb103) (fun _ => False) rfl rfl ?aP (fun _ hk => hk.elim) ?aF ?aO ?aB ?aS ?aL ?_; (zq23_9); (case aB => exact zq23_4); (zq23_7); (case aO => exact (by (zq23_3); exact HO_3.out)); (case aS => exact (below_size zq23_4)); (case aL => have := LMc9.out; omega); intro v105 w15 ho hb hg hat; rw [← Ny104.out] at ho; have n0_ := Aside0.mk (blk_grown (g := gb103) (o := .cells #[.int .i64 ((rd_T38 l0 x15_1).f0), .int .i64 ((rd_T38 l0 x15_1).f1)] 38 (0, 0)) (by (zq23_1); exact BK103.out) hg (Kd.R_away HO_3.out (fun _ hk => hk))); have n1_ := Aside0.mk (hb); have n2_ := Aside0.mk (ho); clear BK103; clear HB; clear HO_3; have BK103 := n0_; have HB := n1_; have HO106 := n2_; clear n0_ n1_ n2_; clear ho hb hg hat))
         go_roundg k1
         case measure => have := HK1.out; omega
         case rel => exact ⟨(y104), (wrap64 (x15_1 + 1)), (by first | rfl | (simp; done) | (simp [*]; done)), H', ⟨by have := HK1.out; omega⟩, ⟨by (zq23_3); exact Kd.R_mono HO106.out (fun _ hk => trivial)⟩, ⟨by repeat (first | (with_reducible first | exact HB.out | apply below_alloc | apply pw_below_drewN | apply below_drew1 | refine below_set ?_ GE103.out) | exact HB.out)⟩⟩
        ·rw [if_neg c9] at H
         exact absurd H (by simp)
       ·rw [if_neg c8] at H
        have c8b0 : (x15_1 == 0) = false := beq_eq_false_iff_ne.mpr c8
        have c8b1 : (x15_1 != 0) = true := bne_iff_ne.mpr c8
        by_cases c16 : x15_1 = (wrap64 ((l0.length : Int) - 1))
        ·rw [if_pos c16] at H
         have c16b0 : (x15_1 == (wrap64 ((l0.length : Int) - 1))) = true := beq_iff_eq.mpr c16
         have c16b1 : (x15_1 != (wrap64 ((l0.length : Int) - 1))) = false := bne_eq_false_iff_eq.mpr c16
         clear c16
         by_cases c17 : x3_1.length < 8796093022208
         ·rw [if_pos c17] at H
          have LMc17 := Aside0.mk c17
          clear c17
          obtain ⟨y107, hy107⟩ : ∃ y_ : List (S38), y_ = (x3_1 ++ [(⟨(rd_T38 l0 x15_1).f0, (rd_T38 l0 x15_1).f1⟩ : S38)]) := ⟨_, rfl⟩
          replace H : (impl_CodeTurns.l0 k1 l0 y107 (wrap64 ((l0.length : Int) - 1)) l0 (l0.length : Int) (wrap64 (x15_1 + 1))) = some r := by first | (rw [hy107]; with_reducible exact H) | (have H2_ := (Option.bind_some _ _).symm.trans H; rw [hy107]; with_reducible exact H2_) | (have H2_ := (Option.bind_some _ _).symm.trans H; with_reducible exact H2_) | with_reducible exact H | (rw [hy107]; exact H) | exact H
          have Ny107 := Aside0.mk hy107
          clear hy107
          have H' := Aside0.mk H
          clear H
          have p102 : 0 ≤ (x15_1 : Int) := of_decide_eq_true zq23_5
          have q102 : x15_1 < (l0.length : Int) := of_decide_eq_true zq23_5
          obtain ⟨ad102, e102, hx102_0, hx102_1⟩ := at_T38 HR0.out x15_1 p102 q102
          cases e102
          replace hx102_0 := (HB.out.cell (World.block_lt_of_cell? w _ hx102_0)).trans hx102_0
          replace hx102_1 := (HB.out.cell (World.block_lt_of_cell? w _ hx102_1)).trans hx102_1
          replace p102 := eq_true p102
          replace q102 := eq_true q102
          try go_wp2_with (first | ((with_reducible refine gate_dst (N := 6) rfl ?_); refine box_event ?hg (N := 6) ?hd (cs := #[.int .i64 0, .int .i64 0]) (t := 38) ?hr ?_; (case hd => rfl); (case hg => rfl); (case hr => first | (go_simp; done) | (go_simp; rfl)); intro gb103 hg w18 hbox hb; have n0_ := Aside0.mk (Kd.R_below (Kd.R_elderB (by (zq23_3); exact HO_3.out) gb103 (Nat.le_of_eq hg.symm)) hb); have n1_ := Aside0.mk (below_step zq23_2 hb); have n2_ := Aside0.mk (hbox); have n3_ := Aside0.mk (zq23_6); have n4_ := Aside0.mk (zq23_6); clear HO_3; clear HB; have HO_3 := n0_; have HB := n1_; have BK103 := n2_; have GW103 := n3_; have GE103 := n4_; clear n0_ n1_ n2_ n3_ n4_; clear hb hbox hg; have hcz19_0 : w18.cell? ⟨gb103, 0, none⟩ = some (.int .i64 0) := (blk_cell BK103.out 0).trans rfl; have hcz19_1 : w18.cell? ⟨gb103, 1, none⟩ = some (.int .i64 0) := (blk_cell BK103.out 1).trans rfl; have hfz19_0 := blk_frozen BK103.out 0; have hfz19_1 := blk_frozen BK103.out 1))
          have n0_ : Aside0 (Kd.R k38 38 ((w18.setCell ⟨gb103, 0, none⟩ (.int .i64 ((rd_T38 l0 x15_1).f0))).setCell ⟨gb103, 1, none⟩ (.int .i64 ((rd_T38 l0 x15_1).f1))) w.heap.size (fun k_ => k_ ≠ gb103) u3 x3_1) := ⟨by (zq23_3); exact Kd.R_mono (Kd.R_far (p := ⟨gb103, 1, none⟩) (Kd.R_far (p := ⟨gb103, 0, none⟩) (Kd.R_mono HO_3.out (fun k_ hk => (⟨hk, hk.2⟩ : _ ∧ k_ ≠ gb103))) (fun _ hk => hk.2) (.int .i64 ((rd_T38 l0 x15_1).f0))) (fun _ hk => hk.2) (.int .i64 ((rd_T38 l0 x15_1).f1))) (fun _ hk => hk.1.2)⟩
          have n1_ : Aside0 (((w18.setCell ⟨gb103, 0, none⟩ (.int .i64 ((rd_T38 l0 x15_1).f0))).setCell ⟨gb103, 1, none⟩ (.int .i64 ((rd_T38 l0 x15_1).f1))).heap[gb103]? = some (.cells #[.int .i64 ((rd_T38 l0 x15_1).f0), .int .i64 ((rd_T38 l0 x15_1).f1)] 38 (0, 0))) := ⟨by (zq23_1); refine blk_put (cs := #[.int .i64 ((rd_T38 l0 x15_1).f0), .int .i64 0]) ?_ 1 _ rfl; (zq23_1); refine blk_put (cs := #[.int .i64 0, .int .i64 0]) ?_ 0 _ rfl; (zq23_1); exact BK103.out⟩
          have n2_ : Aside0 (Below w.heap.size w ((w18.setCell ⟨gb103, 0, none⟩ (.int .i64 ((rd_T38 l0 x15_1).f0))).setCell ⟨gb103, 1, none⟩ (.int .i64 ((rd_T38 l0 x15_1).f1)))) := ⟨by repeat (first | (with_reducible first | exact HB.out | apply below_alloc | apply pw_below_drewN | apply below_drew1 | refine below_set ?_ GE103.out) | exact HB.out)⟩
          (try clear HO_3)
          (try clear BK103)
          (try clear HB)
          generalize ((w18.setCell ⟨gb103, 0, none⟩ (.int .i64 ((rd_T38 l0 x15_1).f0))).setCell ⟨gb103, 1, none⟩ (.int .i64 ((rd_T38 l0 x15_1).f1))) = w20 at n0_ n1_ n2_ ⊢
          have HO_3 := n0_
          have BK103 := n1_
          have HB := n2_
          clear n0_ n1_ n2_
          have n0_ := Aside0.mk (Kd.R_drew HO_3.out)
          have n1_ := Aside0.mk (blk_drew BK103.out)
          have n2_ := Aside0.mk (below_drew1 HB.out)
          clear HO_3
          clear BK103
          clear HB
          have HO_3 := n0_
          have BK103 := n1_
          have HB := n2_
          clear n0_ n1_ n2_
          refine start_ (n := 22) (S := fun w' => True) (ds := []) #[false, false, false, false, false, false, false, false, false, false, false, false, false, false, false, false, false, false, false, false, false, false] (by kernel_rfl) rfl rfl trivial (fun hHeld => ?_); refine with_tabW impl_CodeTurns.tab8 impl_CodeTurns.bits8 (fun HT_ HW_ => ?_)
          generalize w20.drew = w21 at HO_3 BK103 HB hHeld ⊢
          refine pure_ (i := 0) (N := some 20) (v := ?_) (a' := ?_) #[true, false, false, false, false, false, false, false, false, false, false, false, false, false, false, false, false, false, false, false, false, false] rfl rfl (any_of HT_.out (by kernel_rfl)) (fun _ _ _ h => h) (Or.inl ⟨by rfl, ?_⟩) ?_ ?_
          rotate_left
          ·intro w'
           go_simp
           with_reducible rfl
          rotate_left
          ·simp only [Act.put, List.setIfInBounds_toArray, List.set_cons_zero, List.set_cons_succ, i64_w, i32_w]
           rfl
          refine pure_ (i := 1) (N := some 21) (v := ?_) (a' := ?_) #[true, true, false, false, false, false, false, false, false, false, false, false, false, false, false, false, false, false, false, false, false, false] rfl rfl (any_of HT_.out (by kernel_rfl)) (fun _ _ _ h => h) (Or.inl ⟨by rfl, ?_⟩) ?_ ?_
          rotate_left
          ·intro w'
           go_simp
           with_reducible rfl
          rotate_left
          ·simp only [Act.put, List.setIfInBounds_toArray, List.set_cons_zero, List.set_cons_succ, i64_w, i32_w]
           rfl
          refine pure_ (i := 2) (N := some 22) (v := ?_) (a' := ?_) #[true, true, true, false, false, false, false, false, false, false, false, false, false, false, false, false, false, false, false, false, false, false] rfl rfl (any_of HT_.out (by kernel_rfl)) (fun _ _ _ h => h) (Or.inl ⟨by rfl, ?_⟩) ?_ ?_
          rotate_left
          ·intro w'
           go_simp
           with_reducible rfl
          rotate_left
          ·simp only [Act.put, List.setIfInBounds_toArray, List.set_cons_zero, List.set_cons_succ, i64_w, i32_w]
           rfl
          refine pure_ (i := 3) (N := some 23) (v := ?_) (a' := ?_) #[true, true, true, true, false, false, false, false, false, false, false, false, false, false, false, false, false, false, false, false, false, false] rfl rfl (any_of HT_.out (by kernel_rfl)) (fun _ _ _ h => h) (Or.inl ⟨by rfl, ?_⟩) ?_ ?_
          rotate_left
          ·intro w'
           go_simp
           with_reducible rfl
          rotate_left
          ·simp only [Act.put, List.setIfInBounds_toArray, List.set_cons_zero, List.set_cons_succ, i64_w, i32_w]
           rfl
          refine pure_ (i := 4) (N := some 24) (v := ?_) (a' := ?_) #[true, true, true, true, true, false, false, false, false, false, false, false, false, false, false, false, false, false, false, false, false, false] rfl rfl (any_of HT_.out (by kernel_rfl)) (fun _ _ _ h => h) (Or.inl ⟨by rfl, ?_⟩) ?_ ?_
          rotate_left
          ·intro w'
           go_simp
           with_reducible rfl
          rotate_left
          ·simp only [Act.put, List.setIfInBounds_toArray, List.set_cons_zero, List.set_cons_succ, i64_w, i32_w]
           rfl
          refine pure_ (i := 5) (N := some 25) (v := ?_) (a' := ?_) #[true, true, true, true, true, true, false, false, false, false, false, false, false, false, false, false, false, false, false, false, false, false] rfl rfl (any_of HT_.out (by kernel_rfl)) (fun _ _ _ h => h) (Or.inl ⟨by rfl, ?_⟩) ?_ ?_
          rotate_left
          ·intro w'
           go_simp
           with_reducible rfl
          rotate_left
          ·simp only [Act.put, List.setIfInBounds_toArray, List.set_cons_zero, List.set_cons_succ, i64_w, i32_w]
           rfl
          refine pure_ (i := 6) (N := some 26) (v := ?_) (a' := ?_) #[true, true, true, true, true, true, true, false, false, false, false, false, false, false, false, false, false, false, false, false, false, false] rfl rfl (any_of HT_.out (by kernel_rfl)) (fun _ _ _ h => h) (Or.inl ⟨by rfl, ?_⟩) ?_ ?_
          rotate_left
          ·intro w'
           go_simp
           with_reducible rfl
          rotate_left
          ·simp only [Act.put, List.setIfInBounds_toArray, List.set_cons_zero, List.set_cons_succ, i64_w, i32_w]
           rfl
          refine pure_ (i := 7) (N := some 27) (v := ?_) (a' := ?_) #[true, true, true, true, true, true, true, true, false, false, false, false, false, false, false, false, false, false, false, false, false, false] rfl rfl (any_of HT_.out (by kernel_rfl)) (fun _ _ _ h => h) (Or.inl ⟨by rfl, ?_⟩) ?_ ?_
          rotate_left
          ·intro w'
           go_simp
           with_reducible rfl
          rotate_left
          ·simp only [Act.put, List.setIfInBounds_toArray, List.set_cons_zero, List.set_cons_succ, i64_w, i32_w]
           rfl
          refine pure_ (i := 8) (N := some 28) (v := undef) (a' := ?_) #[true, true, true, true, true, true, true, true, true, false, false, false, false, false, false, false, false, false, false, false, false, false] rfl rfl (any_of HT_.out (by kernel_rfl)) (fun _ _ _ h => h) (Or.inr ⟨by rfl, rfl⟩) ?_ ?_
          rotate_left
          ·simp only [Act.put, List.setIfInBounds_toArray, List.set_cons_zero, List.set_cons_succ, i64_w, i32_w]
           rfl
          refine pure_ (i := 9) (N := some 29) (v := undef) (a' := ?_) #[true, true, true, true, true, true, true, true, true, true, false, false, false, false, false, false, false, false, false, false, false, false] rfl rfl (any_of HT_.out (by kernel_rfl)) (fun _ _ _ h => h) (Or.inr ⟨by rfl, rfl⟩) ?_ ?_
          rotate_left
          ·simp only [Act.put, List.setIfInBounds_toArray, List.set_cons_zero, List.set_cons_succ, i64_w, i32_w]
           rfl
          refine pure_ (i := 10) (N := some 30) (v := undef) (a' := ?_) #[true, true, true, true, true, true, true, true, true, true, true, false, false, false, false, false, false, false, false, false, false, false] rfl rfl (any_of HT_.out (by kernel_rfl)) (fun _ _ _ h => h) (Or.inr ⟨by rfl, rfl⟩) ?_ ?_
          rotate_left
          ·simp only [Act.put, List.setIfInBounds_toArray, List.set_cons_zero, List.set_cons_succ, i64_w, i32_w]
           rfl
          refine pure_ (i := 11) (N := some 31) (v := undef) (a' := ?_) #[true, true, true, true, true, true, true, true, true, true, true, true, false, false, false, false, false, false, false, false, false, false] rfl rfl (any_of HT_.out (by kernel_rfl)) (fun _ _ _ h => h) (Or.inr ⟨by rfl, rfl⟩) ?_ ?_
          rotate_left
          ·simp only [Act.put, List.setIfInBounds_toArray, List.set_cons_zero, List.set_cons_succ, i64_w, i32_w]
           rfl
          refine pure_ (i := 12) (N := some 32) (v := undef) (a' := ?_) #[true, true, true, true, true, true, true, true, true, true, true, true, true, false, false, false, false, false, false, false, false, false] rfl rfl (any_of HT_.out (by kernel_rfl)) (fun _ _ _ h => h) (Or.inr ⟨by rfl, rfl⟩) ?_ ?_
          rotate_left
          ·simp only [Act.put, List.setIfInBounds_toArray, List.set_cons_zero, List.set_cons_succ, i64_w, i32_w]
           rfl
          refine pure_ (i := 13) (N := some 33) (v := undef) (a' := ?_) #[true, true, true, true, true, true, true, true, true, true, true, true, true, true, false, false, false, false, false, false, false, false] rfl rfl (any_of HT_.out (by kernel_rfl)) (fun _ _ _ h => h) (Or.inr ⟨by rfl, rfl⟩) ?_ ?_
          rotate_left
          ·simp only [Act.put, List.setIfInBounds_toArray, List.set_cons_zero, List.set_cons_succ, i64_w, i32_w]
           rfl
          refine pure_ (i := 14) (N := some 34) (v := undef) (a' := ?_) #[true, true, true, true, true, true, true, true, true, true, true, true, true, true, true, false, false, false, false, false, false, false] rfl rfl (any_of HT_.out (by kernel_rfl)) (fun _ _ _ h => h) (Or.inr ⟨by rfl, rfl⟩) ?_ ?_
          rotate_left
          ·simp only [Act.put, List.setIfInBounds_toArray, List.set_cons_zero, List.set_cons_succ, i64_w, i32_w]
           rfl
          refine pure_ (i := 15) (N := some 35) (v := undef) (a' := ?_) #[true, true, true, true, true, true, true, true, true, true, true, true, true, true, true, true, false, false, false, false, false, false] rfl rfl (any_of HT_.out (by kernel_rfl)) (fun _ _ _ h => h) (Or.inr ⟨by rfl, rfl⟩) ?_ ?_
          rotate_left
          ·simp only [Act.put, List.setIfInBounds_toArray, List.set_cons_zero, List.set_cons_succ, i64_w, i32_w]
           rfl
          refine pure_ (i := 16) (N := some 36) (v := undef) (a' := ?_) #[true, true, true, true, true, true, true, true, true, true, true, true, true, true, true, true, true, false, false, false, false, false] rfl rfl (any_of HT_.out (by kernel_rfl)) (fun _ _ _ h => h) (Or.inr ⟨by rfl, rfl⟩) ?_ ?_
          rotate_left
          ·simp only [Act.put, List.setIfInBounds_toArray, List.set_cons_zero, List.set_cons_succ, i64_w, i32_w]
           rfl
          refine pure_ (i := 17) (N := some 37) (v := undef) (a' := ?_) #[true, true, true, true, true, true, true, true, true, true, true, true, true, true, true, true, true, true, false, false, false, false] rfl rfl (any_of HT_.out (by kernel_rfl)) (fun _ _ _ h => h) (Or.inr ⟨by rfl, rfl⟩) ?_ ?_
          rotate_left
          ·simp only [Act.put, List.setIfInBounds_toArray, List.set_cons_zero, List.set_cons_succ, i64_w, i32_w]
           rfl
          refine pure_ (i := 18) (N := some 38) (v := undef) (a' := ?_) #[true, true, true, true, true, true, true, true, true, true, true, true, true, true, true, true, true, true, true, false, false, false] rfl rfl (any_of HT_.out (by kernel_rfl)) (fun _ _ _ h => h) (Or.inr ⟨by rfl, rfl⟩) ?_ ?_
          rotate_left
          ·simp only [Act.put, List.setIfInBounds_toArray, List.set_cons_zero, List.set_cons_succ, i64_w, i32_w]
           rfl
          refine pure_ (i := 19) (N := some 39) (v := undef) (a' := ?_) #[true, true, true, true, true, true, true, true, true, true, true, true, true, true, true, true, true, true, true, true, false, false] rfl rfl (any_of HT_.out (by kernel_rfl)) (fun _ _ _ h => h) (Or.inr ⟨by rfl, rfl⟩) ?_ ?_
          rotate_left
          ·simp only [Act.put, List.setIfInBounds_toArray, List.set_cons_zero, List.set_cons_succ, i64_w, i32_w]
           rfl
          refine pure_ (i := 20) (N := some 40) (v := undef) (a' := ?_) #[true, true, true, true, true, true, true, true, true, true, true, true, true, true, true, true, true, true, true, true, true, false] rfl rfl (any_of HT_.out (by kernel_rfl)) (fun _ _ _ h => h) (Or.inr ⟨by rfl, rfl⟩) ?_ ?_
          rotate_left
          ·simp only [Act.put, List.setIfInBounds_toArray, List.set_cons_zero, List.set_cons_succ, i64_w, i32_w]
           rfl
          refine pure_ (i := 21) (N := some 41) (v := ?_) (a' := ?_) #[true, true, true, true, true, true, true, true, true, true, true, true, true, true, true, true, true, true, true, true, true, true] rfl rfl (any_of HT_.out (by kernel_rfl)) (fun _ _ _ h => h) (Or.inl ⟨by rfl, ?_⟩) ?_ ?_
          rotate_left
          ·intro w'
           go_simp
           with_reducible rfl
          rotate_left
          ·simp only [Act.put, List.setIfInBounds_toArray, List.set_cons_zero, List.set_cons_succ, i64_w, i32_w]
           rfl
          refine done_ (done_of HT_.out (by kernel_rfl)) ?_
          have hcz22_0 : w21.cell? ⟨gb103, 0, none⟩ = some (.int .i64 ((rd_T38 l0 x15_1).f0)) := (blk_cell BK103.out 0).trans rfl
          have hcz22_1 : w21.cell? ⟨gb103, 1, none⟩ = some (.int .i64 ((rd_T38 l0 x15_1).f1)) := (blk_cell BK103.out 1).trans rfl
          have hfz22_0 := blk_frozen BK103.out 0
          have hfz22_1 := blk_frozen BK103.out 1
          try go_wp2_with (first | ((with_reducible refine gate_builtin (b := .append) (xs := #[.tmp 42, .tmp 44]) rfl ?_); at_builtin; refine Kd.R_append k38 (w0 := w) w.heap.size rfl (.tmp 42) (.tmp 44) 24 38 (.agg #[(.int .i64 0), (.int .i64 0)]) 16 rfl Try.underlying24 info38 rfl (by decide) (by omega) u3 x3_1 (⟨(rd_T38 l0 x15_1).f0, (rd_T38 l0 x15_1).f1⟩ : S38) [.int .i64 ((rd_T38 l0 x15_1).f0), .int .i64 ((rd_T38 l0 x15_1).f1)] (fun k_ => k_ ≠ gb103) (fun _ => False) rfl rfl ?aP (fun _ hk => hk.elim) ?aF ?aO ?aB ?aS ?aL ?_; (zq23_9); (case aB => exact zq23_4); (zq23_7); (case aO => exact (by (zq23_3); exact HO_3.out)); (case aS => exact (below_size zq23_4)); (case aL => have := LMc17.out; omega); intro v108 w23 ho hb hg hat; rw [← Ny107.out] at ho; have n0_ := Aside0.mk (blk_grown (g := gb103) (o := .cells #[.int .i64 ((rd_T38 l0 x15_1).f0), .int .i64 ((rd_T38 l0 x15_1).f1)] 38 (0, 0)) (by (zq23_1); exact BK103.out) hg (Kd.R_away HO_3.out (fun _ hk => hk))); have n1_ := Aside0.mk (hb); have n2_ := Aside0.mk (ho); clear BK103; clear HB; clear HO_3; have BK103 := n0_; have HB := n1_; have HO109 := n2_; clear n0_ n1_ n2_; clear ho hb hg hat))
          go_roundg k1
          case measure => have := HK1.out; omega
          case rel => exact ⟨(y107), (wrap64 (x15_1 + 1)), (by first | rfl | (simp; done) | (simp [*]; done)), H', ⟨by have := HK1.out; omega⟩, ⟨by (zq23_3); exact Kd.R_mono HO109.out (fun _ hk => trivial)⟩, ⟨by repeat (first | (with_reducible first | exact HB.out | apply below_alloc | apply pw_below_drewN | apply below_drew1 | refine below_set ?_ GE103.out) | exact HB.out)⟩⟩
         ·rw [if_neg c17] at H
          exact absurd H (by simp)
        ·rw [if_neg c16] at H
         have c16b0 : (x15_1 == (wrap64 ((l0.length : Int) - 1))) = false := beq_eq_false_iff_ne.mpr c16
         have c16b1 : (x15_1 != (wrap64 ((l0.length : Int) - 1))) = true := bne_iff_ne.mpr c16
         obtain ⟨ji24, hji24⟩ : ∃ j_ : Int, (wrap64 (x15_1 - 1)) = j_ := ⟨_, rfl⟩
         replace H : (if 0 ≤ (ji24) then (if (ji24) < (l0.length : Int) then (if 0 ≤ (wrap64 (x15_1 + 1)) then (if (wrap64 (x15_1 + 1)) < (l0.length : Int) then ((impl_goesOn.f ((rd_T38 l0 (ji24)).f0) ((rd_T38 l0 (ji24)).f1) ((rd_T38 l0 x15_1).f0) ((rd_T38 l0 x15_1).f1) ((rd_T38 l0 (wrap64 (x15_1 + 1))).f0) ((rd_T38 l0 (wrap64 (x15_1 + 1))).f1)).bind fun t112 => (if t112 = true then (impl_CodeTurns.l0 k1 l0 x3_1 (wrap64 ((l0.length : Int) - 1)) l0 (l0.length : Int) (wrap64 (x15_1 + 1))) else (if x3_1.length < 8796093022208 then (impl_CodeTurns.l0 k1 l0 (x3_1 ++ [(⟨(rd_T38 l0 x15_1).f0, (rd_T38 l0 x15_1).f1⟩ : S38)]) (wrap64 ((l0.length : Int) - 1)) l0 (l0.length : Int) (wrap64 (x15_1 + 1))) else (none)))) else (none)) else (none)) else (none)) else (none)) = some r := by first | (rw [hji24] at H; exact H) | (simp only [hji24] at H ⊢; exact H)
         have hji24w : (IntKind.i64.wrap (x15_1 - 1)) = ji24 := (i64_w _).trans hji24
         by_cases c25 : 0 ≤ (ji24)
         ·rw [if_pos c25] at H
          have c25b0 : decide (0 ≤ (ji24)) = true := decide_eq_true c25
          clear c25
          by_cases c26 : (ji24) < (l0.length : Int)
          ·rw [if_pos c26] at H
           have c26b0 : decide ((ji24) < (l0.length : Int)) = true := decide_eq_true c26
           clear c26
           obtain ⟨ji27, hji27⟩ : ∃ j_ : Int, (wrap64 (x15_1 + 1)) = j_ := ⟨_, rfl⟩
           replace H : (if 0 ≤ (ji27) then (if (ji27) < (l0.length : Int) then ((impl_goesOn.f ((rd_T38 l0 (ji24)).f0) ((rd_T38 l0 (ji24)).f1) ((rd_T38 l0 x15_1).f0) ((rd_T38 l0 x15_1).f1) ((rd_T38 l0 (ji27)).f0) ((rd_T38 l0 (ji27)).f1)).bind fun t112 => (if t112 = true then (impl_CodeTurns.l0 k1 l0 x3_1 (wrap64 ((l0.length : Int) - 1)) l0 (l0.length : Int) ji27) else (if x3_1.length < 8796093022208 then (impl_CodeTurns.l0 k1 l0 (x3_1 ++ [(⟨(rd_T38 l0 x15_1).f0, (rd_T38 l0 x15_1).f1⟩ : S38)]) (wrap64 ((l0.length : Int) - 1)) l0 (l0.length : Int) ji27) else (none)))) else (none)) else (none)) = some r := by first | (rw [hji27] at H; exact H) | (simp only [hji27] at H ⊢; exact H)
           have hji27w : (IntKind.i64.wrap (x15_1 + 1)) = ji27 := (i64_w _).trans hji27
           by_cases c28 : 0 ≤ (ji27)
           ·rw [if_pos c28] at H
            have c28b0 : decide (0 ≤ (ji27)) = true := decide_eq_true c28
            clear c28
            by_cases c29 : (ji27) < (l0.length : Int)
            ·rw [if_pos c29] at H
             have c29b0 : decide ((ji27) < (l0.length : Int)) = true := decide_eq_true c29
             clear c29
             replace H := Option.bind_eq_some_iff.mp H
             obtain ⟨t112, A300, H⟩ := H
             replace H : (if t112 = true then (impl_CodeTurns.l0 k1 l0 x3_1 (wrap64 ((l0.length : Int) - 1)) l0 (l0.length : Int) ji27) else (if x3_1.length < 8796093022208 then (impl_CodeTurns.l0 k1 l0 (x3_1 ++ [(⟨(rd_T38 l0 x15_1).f0, (rd_T38 l0 x15_1).f1⟩ : S38)]) (wrap64 ((l0.length : Int) - 1)) l0 (l0.length : Int) ji27) else (none))) = some r := H
             have A30 := Aside0.mk A300
             clear A300
             by_cases c31 : t112 = true
             ·subst c31
              have H1 : (impl_CodeTurns.l0 k1 l0 x3_1 (wrap64 ((l0.length : Int) - 1)) l0 (l0.length : Int) ji27) = some r := by rw [if_pos rfl] at H; exact H
              clear H
              have H := H1
              clear H1
              have H' := Aside0.mk H
              clear H
              have p102 : 0 ≤ (x15_1 : Int) := of_decide_eq_true zq23_5
              have q102 : x15_1 < (l0.length : Int) := of_decide_eq_true zq23_5
              obtain ⟨ad102, e102, hx102_0, hx102_1⟩ := at_T38 HR0.out x15_1 p102 q102
              cases e102
              replace hx102_0 := (HB.out.cell (World.block_lt_of_cell? w _ hx102_0)).trans hx102_0
              replace hx102_1 := (HB.out.cell (World.block_lt_of_cell? w _ hx102_1)).trans hx102_1
              replace p102 := eq_true p102
              replace q102 := eq_true q102
              try go_wp2_with (first | ((with_reducible refine gate_dst (N := 6) rfl ?_); refine box_event ?hg (N := 6) ?hd (cs := #[.int .i64 0, .int .i64 0]) (t := 38) ?hr ?_; (case hd => rfl); (case hg => rfl); (case hr => first | (go_simp; done) | (go_simp; rfl)); intro gb103 hg w32 hbox hb; have n0_ := Aside0.mk (Kd.R_below (Kd.R_elderB (by (zq23_3); exact HO_3.out) gb103 (Nat.le_of_eq hg.symm)) hb); have n1_ := Aside0.mk (below_step zq23_2 hb); have n2_ := Aside0.mk (hbox); have n3_ := Aside0.mk (zq23_6); have n4_ := Aside0.mk (zq23_6); clear HO_3; clear HB; have HO_3 := n0_; have HB := n1_; have BK103 := n2_; have GW103 := n3_; have GE103 := n4_; clear n0_ n1_ n2_ n3_ n4_; clear hb hbox hg; have hcz33_0 : w32.cell? ⟨gb103, 0, none⟩ = some (.int .i64 0) := (blk_cell BK103.out 0).trans rfl; have hcz33_1 : w32.cell? ⟨gb103, 1, none⟩ = some (.int .i64 0) := (blk_cell BK103.out 1).trans rfl; have hfz33_0 := blk_frozen BK103.out 0; have hfz33_1 := blk_frozen BK103.out 1))
              have n0_ : Aside0 (Kd.R k38 38 ((w32.setCell ⟨gb103, 0, none⟩ (.int .i64 ((rd_T38 l0 x15_1).f0))).setCell ⟨gb103, 1, none⟩ (.int .i64 ((rd_T38 l0 x15_1).f1))) w.heap.size (fun k_ => k_ ≠ gb103) u3 x3_1) := ⟨by (zq23_3); exact Kd.R_mono (Kd.R_far (p := ⟨gb103, 1, none⟩) (Kd.R_far (p := ⟨gb103, 0, none⟩) (Kd.R_mono HO_3.out (fun k_ hk => (⟨hk, hk.2⟩ : _ ∧ k_ ≠ gb103))) (fun _ hk => hk.2) (.int .i64 ((rd_T38 l0 x15_1).f0))) (fun _ hk => hk.2) (.int .i64 ((rd_T38 l0 x15_1).f1))) (fun _ hk => hk.1.2)⟩
              have n1_ : Aside0 (((w32.setCell ⟨gb103, 0, none⟩ (.int .i64 ((rd_T38 l0 x15_1).f0))).setCell ⟨gb103, 1, none⟩ (.int .i64 ((rd_T38 l0 x15_1).f1))).heap[gb103]? = some (.cells #[.int .i64 ((rd_T38 l0 x15_1).f0), .int .i64 ((rd_T38 l0 x15_1).f1)] 38 (0, 0))) := ⟨by (zq23_1); refine blk_put (cs := #[.int .i64 ((rd_T38 l0 x15_1).f0), .int .i64 0]) ?_ 1 _ rfl; (zq23_1); refine blk_put (cs := #[.int .i64 0, .int .i64 0]) ?_ 0 _ rfl; (zq23_1); exact BK103.out⟩
              have n2_ : Aside0 (Below w.heap.size w ((w32.setCell ⟨gb103, 0, none⟩ (.int .i64 ((rd_T38 l0 x15_1).f0))).setCell ⟨gb103, 1, none⟩ (.int .i64 ((rd_T38 l0 x15_1).f1)))) := ⟨by repeat (first | (with_reducible first | exact HB.out | apply below_alloc | apply pw_below_drewN | apply below_drew1 | refine below_set ?_ GE103.out) | exact HB.out)⟩
              (try clear HO_3)
              (try clear BK103)
              (try clear HB)
              generalize ((w32.setCell ⟨gb103, 0, none⟩ (.int .i64 ((rd_T38 l0 x15_1).f0))).setCell ⟨gb103, 1, none⟩ (.int .i64 ((rd_T38 l0 x15_1).f1))) = w34 at n0_ n1_ n2_ ⊢
              have HO_3 := n0_
              have BK103 := n1_
              have HB := n2_
              clear n0_ n1_ n2_
              have n0_ := Aside0.mk (Kd.R_drew HO_3.out)
              have n1_ := Aside0.mk (blk_drew BK103.out)
              have n2_ := Aside0.mk (below_drew1 HB.out)
              clear HO_3
              clear BK103
              clear HB
              have HO_3 := n0_
              have BK103 := n1_
              have HB := n2_
              clear n0_ n1_ n2_
              have p110 : 0 ≤ ((ji24) : Int) := of_decide_eq_true zq23_5
              have q110 : (ji24) < (l0.length : Int) := of_decide_eq_true zq23_5
              obtain ⟨ad110, e110, hx110_0, hx110_1⟩ := at_T38 HR0.out (ji24) p110 q110
              have hw110_1 := hx110_1
              have hw110_0 := hx110_0
              obtain rfl : ad102 = ad110 := (by injection e110)
              replace hx110_0 := (HB.out.cell (World.block_lt_of_cell? w _ hx110_0)).trans hx110_0
              replace hx110_1 := (HB.out.cell (World.block_lt_of_cell? w _ hx110_1)).trans hx110_1
              replace p110 := eq_true p110
              replace q110 := eq_true q110
              have p111 : 0 ≤ ((ji27) : Int) := of_decide_eq_true zq23_5
              have q111 : (ji27) < (l0.length : Int) := of_decide_eq_true zq23_5
              obtain ⟨ad111, e111, hx111_0, hx111_1⟩ := at_T38 HR0.out (ji27) p111 q111
              have hw111_1 := hx111_1
              have hw111_0 := hx111_0
              obtain rfl : ad102 = ad111 := (by injection e111)
              replace hx111_0 := (HB.out.cell (World.block_lt_of_cell? w _ hx111_0)).trans hx111_0
              replace hx111_1 := (HB.out.cell (World.block_lt_of_cell? w _ hx111_1)).trans hx111_1
              replace p111 := eq_true p111
              replace q111 := eq_true q111
              refine start_ (n := 22) (S := fun w' => w'.cell? ⟨gb103, 0, none⟩ = some (.int .i64 ((rd_T38 l0 x15_1).f0)) ∧ w'.cell? ⟨gb103, 1, none⟩ = some (.int .i64 ((rd_T38 l0 x15_1).f1)) ∧ w'.cell? (ad102.add (((ji24)).toNat * 2)) = some (.int .i64 ((rd_T38 l0 (ji24)).f0)) ∧ w'.cell? ⟨(ad102.add (((ji24)).toNat * 2)).block, (ad102.add (((ji24)).toNat * 2)).off + 1, none⟩ = some (.int .i64 ((rd_T38 l0 (ji24)).f1)) ∧ w'.cell? (ad102.add (((ji27)).toNat * 2)) = some (.int .i64 ((rd_T38 l0 (ji27)).f0)) ∧ w'.cell? ⟨(ad102.add (((ji27)).toNat * 2)).block, (ad102.add (((ji27)).toNat * 2)).off + 1, none⟩ = some (.int .i64 ((rd_T38 l0 (ji27)).f1))) (ds := []) #[false, false, false, false, false, false, false, false, false, false, false, false, false, false, false, false, false, false, false, false, false, false] (by kernel_rfl) rfl rfl ⟨(blk_cell BK103.out 0).trans rfl, (blk_cell BK103.out 1).trans rfl, ((HB.out.cell (World.block_lt_of_cell? w _ hw110_0)).trans hw110_0), ((HB.out.cell (World.block_lt_of_cell? w _ hw110_1)).trans hw110_1), ((HB.out.cell (World.block_lt_of_cell? w _ hw111_0)).trans hw111_0), ((HB.out.cell (World.block_lt_of_cell? w _ hw111_1)).trans hw111_1)⟩ (fun hHeld => ?_); refine with_tabW impl_CodeTurns.tab8 impl_CodeTurns.bits8 (fun HT_ HW_ => ?_)
              generalize w34.drew = w35 at HO_3 BK103 HB hx110_0 hx110_1 hx111_0 hx111_1 hHeld ⊢
              refine pure_ (i := 0) (N := some 20) (v := ?_) (a' := ?_) #[true, false, false, false, false, false, false, false, false, false, false, false, false, false, false, false, false, false, false, false, false, false] rfl rfl (any_of HT_.out (by kernel_rfl)) (fun _ _ _ h => h) (Or.inl ⟨by rfl, ?_⟩) ?_ ?_
              rotate_left
              ·intro w'
               go_simp
               with_reducible rfl
              rotate_left
              ·simp only [Act.put, List.setIfInBounds_toArray, List.set_cons_zero, List.set_cons_succ, i64_w, i32_w]
               rfl
              refine pure_ (i := 1) (N := some 21) (v := ?_) (a' := ?_) #[true, true, false, false, false, false, false, false, false, false, false, false, false, false, false, false, false, false, false, false, false, false] rfl rfl (any_of HT_.out (by kernel_rfl)) (fun _ _ _ h => h) (Or.inl ⟨by rfl, ?_⟩) ?_ ?_
              rotate_left
              ·intro w'
               go_simp
               with_reducible rfl
              rotate_left
              ·simp only [Act.put, List.setIfInBounds_toArray, List.set_cons_zero, List.set_cons_succ, i64_w, i32_w]
               rfl
              refine pure_ (i := 2) (N := some 22) (v := ?_) (a' := ?_) #[true, true, true, false, false, false, false, false, false, false, false, false, false, false, false, false, false, false, false, false, false, false] rfl rfl (any_of HT_.out (by kernel_rfl)) (fun _ _ _ h => h) (Or.inl ⟨by rfl, ?_⟩) ?_ ?_
              rotate_left
              ·intro w'
               go_simp
               with_reducible rfl
              rotate_left
              ·simp only [Act.put, List.setIfInBounds_toArray, List.set_cons_zero, List.set_cons_succ, i64_w, i32_w]
               rfl
              refine pure_ (i := 3) (N := some 23) (v := ?_) (a' := ?_) #[true, true, true, true, false, false, false, false, false, false, false, false, false, false, false, false, false, false, false, false, false, false] rfl rfl (any_of HT_.out (by kernel_rfl)) (fun _ _ _ h => h) (Or.inl ⟨by rfl, ?_⟩) ?_ ?_
              rotate_left
              ·intro w'
               go_simp
               with_reducible rfl
              rotate_left
              ·simp only [Act.put, List.setIfInBounds_toArray, List.set_cons_zero, List.set_cons_succ, i64_w, i32_w]
               rfl
              refine pure_ (i := 4) (N := some 24) (v := ?_) (a' := ?_) #[true, true, true, true, true, false, false, false, false, false, false, false, false, false, false, false, false, false, false, false, false, false] rfl rfl (any_of HT_.out (by kernel_rfl)) (fun _ _ _ h => h) (Or.inl ⟨by rfl, ?_⟩) ?_ ?_
              rotate_left
              ·intro w'
               go_simp
               with_reducible rfl
              rotate_left
              ·simp only [Act.put, List.setIfInBounds_toArray, List.set_cons_zero, List.set_cons_succ, i64_w, i32_w]
               rfl
              refine pure_ (i := 5) (N := some 25) (v := ?_) (a' := ?_) #[true, true, true, true, true, true, false, false, false, false, false, false, false, false, false, false, false, false, false, false, false, false] rfl rfl (any_of HT_.out (by kernel_rfl)) (fun _ _ _ h => h) (Or.inl ⟨by rfl, ?_⟩) ?_ ?_
              rotate_left
              ·intro w'
               go_simp
               with_reducible rfl
              rotate_left
              ·simp only [Act.put, List.setIfInBounds_toArray, List.set_cons_zero, List.set_cons_succ, i64_w, i32_w]
               rfl
              refine pure_ (i := 6) (N := some 26) (v := ?_) (a' := ?_) #[true, true, true, true, true, true, true, false, false, false, false, false, false, false, false, false, false, false, false, false, false, false] rfl rfl (any_of HT_.out (by kernel_rfl)) (fun _ _ _ h => h) (Or.inl ⟨by rfl, ?_⟩) ?_ ?_
              rotate_left
              ·intro w'
               go_simp
               with_reducible rfl
              rotate_left
              ·simp only [Act.put, List.setIfInBounds_toArray, List.set_cons_zero, List.set_cons_succ, i64_w, i32_w]
               rfl
              refine pure_ (i := 7) (N := some 27) (v := ?_) (a' := ?_) #[true, true, true, true, true, true, true, true, false, false, false, false, false, false, false, false, false, false, false, false, false, false] rfl rfl (any_of HT_.out (by kernel_rfl)) (fun _ _ _ h => h) (Or.inl ⟨by rfl, ?_⟩) ?_ ?_
              rotate_left
              ·intro w'
               go_simp
               with_reducible rfl
              rotate_left
              ·simp only [Act.put, List.setIfInBounds_toArray, List.set_cons_zero, List.set_cons_succ, i64_w, i32_w]
               rfl
              refine pure_ (i := 8) (N := some 28) (v := ?_) (a' := ?_) #[true, true, true, true, true, true, true, true, true, false, false, false, false, false, false, false, false, false, false, false, false, false] rfl rfl (any_of HT_.out (by kernel_rfl)) (fun _ _ _ h => h) (Or.inl ⟨by rfl, ?_⟩) ?_ ?_
              rotate_left
              ·intro w'
               go_simp
               with_reducible rfl
              rotate_left
              ·simp only [Act.put, List.setIfInBounds_toArray, List.set_cons_zero, List.set_cons_succ, i64_w, i32_w]
               rfl
              refine pure_ (i := 9) (N := some 29) (v := ?_) (a' := ?_) #[true, true, true, true, true, true, true, true, true, true, false, false, false, false, false, false, false, false, false, false, false, false] rfl rfl (any_of HT_.out (by kernel_rfl)) (fun _ _ _ h => h) (Or.inl ⟨by rfl, ?_⟩) ?_ ?_
              rotate_left
              ·intro w'
               go_simp
               with_reducible rfl
              rotate_left
              ·simp only [Act.put, List.setIfInBounds_toArray, List.set_cons_zero, List.set_cons_succ, i64_w, i32_w]
               rfl
              refine pure_ (i := 10) (N := some 30) (v := ?_) (a' := ?_) #[true, true, true, true, true, true, true, true, true, true, true, false, false, false, false, false, false, false, false, false, false, false] rfl rfl (any_of HT_.out (by kernel_rfl)) (fun _ _ _ h => h) (Or.inl ⟨by rfl, ?_⟩) ?_ ?_
              rotate_left
              ·intro w'
               go_simp
               with_reducible rfl
              rotate_left
              ·simp only [Act.put, List.setIfInBounds_toArray, List.set_cons_zero, List.set_cons_succ, i64_w, i32_w]
               rfl
              refine pure_ (i := 11) (N := some 31) (v := ?_) (a' := ?_) #[true, true, true, true, true, true, true, true, true, true, true, true, false, false, false, false, false, false, false, false, false, false] rfl rfl (any_of HT_.out (by kernel_rfl)) (fun _ _ _ h => h) (Or.inl ⟨by rfl, ?_⟩) ?_ ?_
              rotate_left
              ·intro w'
               go_simp
               with_reducible rfl
              rotate_left
              ·simp only [Act.put, List.setIfInBounds_toArray, List.set_cons_zero, List.set_cons_succ, i64_w, i32_w]
               rfl
              refine pure_ (i := 14) (N := some 34) (v := ?_) (a' := ?_) #[true, true, true, true, true, true, true, true, true, true, true, true, false, false, true, false, false, false, false, false, false, false] rfl rfl (any_of HT_.out (by kernel_rfl)) (fun _ _ _ h => h) (Or.inl ⟨by rfl, ?_⟩) ?_ ?_
              rotate_left
              ·intro w'
               go_simp
               with_reducible rfl
              rotate_left
              ·simp only [Act.put, List.setIfInBounds_toArray, List.set_cons_zero, List.set_cons_succ, i64_w, i32_w]
               rfl
              refine pure_ (i := 15) (N := some 35) (v := ?_) (a' := ?_) #[true, true, true, true, true, true, true, true, true, true, true, true, false, false, true, true, false, false, false, false, false, false] rfl rfl (any_of HT_.out (by kernel_rfl)) (fun _ _ _ h => h) (Or.inl ⟨by rfl, ?_⟩) ?_ ?_
              rotate_left
              ·intro w'
               go_simp
               with_reducible rfl
              rotate_left
              ·simp only [Act.put, List.setIfInBounds_toArray, List.set_cons_zero, List.set_cons_succ, i64_w, i32_w]
               rfl
              refine pure_ (i := 16) (N := some 36) (v := ?_) (a' := ?_) #[true, true, true, true, true, true, true, true, true, true, true, true, false, false, true, true, true, false, false, false, false, false] rfl rfl (any_of HT_.out (by kernel_rfl)) (fun _ _ _ h => h) (Or.inl ⟨by rfl, ?_⟩) ?_ ?_
              rotate_left
              ·intro w'
               go_simp
               with_reducible rfl
              rotate_left
              ·simp only [Act.put, List.setIfInBounds_toArray, List.set_cons_zero, List.set_cons_succ, i64_w, i32_w]
               rfl
              refine pure_ (i := 17) (N := some 37) (v := ?_) (a' := ?_) #[true, true, true, true, true, true, true, true, true, true, true, true, false, false, true, true, true, true, false, false, false, false] rfl rfl (any_of HT_.out (by kernel_rfl)) (fun _ _ _ h => h) (Or.inl ⟨by rfl, ?_⟩) ?_ ?_
              rotate_left
              ·intro w'
               go_simp
               with_reducible rfl
              rotate_left
              ·simp only [Act.put, List.setIfInBounds_toArray, List.set_cons_zero, List.set_cons_succ, i64_w, i32_w]
               rfl
              refine take_ (i := 12) (N := some 32) (v := ?_) (a' := ?_) #[true, true, true, true, true, true, true, true, true, true, true, true, true, false, true, true, true, true, false, false, false, false] rfl rfl (take_ofW HT_.out HW_.out (by kernel_rfl)) (fun _ _ _ h => h) (Or.inl ⟨by rfl, ?_⟩) hHeld ?_ ?_
              rotate_left
              ·rintro w' ⟨s0, s1, s2, s3, s4, s5⟩
               go_simp
               with_reducible rfl
              rotate_left
              ·simp only [Act.put, List.setIfInBounds_toArray, List.set_cons_zero, List.set_cons_succ, i64_w, i32_w]
               rfl
              refine take_ (i := 13) (N := some 33) (v := ?_) (a' := ?_) #[true, true, true, true, true, true, true, true, true, true, true, true, true, true, true, true, true, true, false, false, false, false] rfl rfl (take_ofW HT_.out HW_.out (by kernel_rfl)) (fun _ _ _ h => h) (Or.inl ⟨by rfl, ?_⟩) hHeld ?_ ?_
              rotate_left
              ·rintro w' ⟨s0, s1, s2, s3, s4, s5⟩
               go_simp
               with_reducible rfl
              rotate_left
              ·simp only [Act.put, List.setIfInBounds_toArray, List.set_cons_zero, List.set_cons_succ, i64_w, i32_w]
               rfl
              refine take_ (i := 18) (N := some 38) (v := ?_) (a' := ?_) #[true, true, true, true, true, true, true, true, true, true, true, true, true, true, true, true, true, true, true, false, false, false] rfl rfl (take_ofW HT_.out HW_.out (by kernel_rfl)) (fun _ _ _ h => h) (Or.inl ⟨by rfl, ?_⟩) hHeld ?_ ?_
              rotate_left
              ·rintro w' ⟨s0, s1, s2, s3, s4, s5⟩
               go_simp
               with_reducible rfl
              rotate_left
              ·simp only [Act.put, List.setIfInBounds_toArray, List.set_cons_zero, List.set_cons_succ, i64_w, i32_w]
               rfl
              refine one_ (i := 19) (N := some 39) #[true, true, true, true, true, true, true, true, true, true, true, true, true, true, true, true, true, true, true, true, false, false] rfl rfl (one_of HT_.out (by kernel_rfl)) (by decide) (fun K hK => ?_)
              refine goes_ Try.func31 (by kernel_rfl) rfl #[.agg #[.int .i64 ((rd_T38 l0 (ji24)).f0), .int .i64 ((rd_T38 l0 (ji24)).f1)], .agg #[.int .i64 ((rd_T38 l0 x15_1).f0), .int .i64 ((rd_T38 l0 x15_1).f1)], .agg #[.int .i64 ((rd_T38 l0 (ji27)).f0), .int .i64 ((rd_T38 l0 (ji27)).f1)]] (by rfl) rfl rfl zq23_8 ?_
              with_reducible refine (impl_goesOn.calls ((rd_T38 l0 (ji24)).f0) ((rd_T38 l0 (ji24)).f1) ((rd_T38 l0 x15_1).f0) ((rd_T38 l0 x15_1).f1) ((rd_T38 l0 (ji27)).f0) ((rd_T38 l0 (ji27)).f1) true _ A30.out).mono ?_
              rintro e w36 ⟨rfl, hb⟩
              refine ⟨_, rfl, ?_⟩
              have n0_ := Aside0.mk (Kd.R_below (by (zq23_3); exact HO_3.out) hb)
              have n1_ := Aside0.mk (blk_below (g := gb103) (o := .cells #[.int .i64 ((rd_T38 l0 x15_1).f0), .int .i64 ((rd_T38 l0 x15_1).f1)] 38 (0, 0)) (by (zq23_1); exact BK103.out) hb)
              have n2_ := Aside0.mk (below_step zq23_4 hb)
              clear HO_3
              clear BK103
              clear HB
              have HO_3 := n0_
              have BK103 := n1_
              have HB := n2_
              clear n0_ n1_ n2_
              (try clear hb)
              (try clear hb2)
              (try clear hk)
              (try clear hi)
              refine hK.out _ _ ⟨(blk_cell BK103.out 0).trans rfl, (blk_cell BK103.out 1).trans rfl, ((HB.out.cell (World.block_lt_of_cell? w _ hw110_0)).trans hw110_0), ((HB.out.cell (World.block_lt_of_cell? w _ hw110_1)).trans hw110_1), ((HB.out.cell (World.block_lt_of_cell? w _ hw111_0)).trans hw111_0), ((HB.out.cell (World.block_lt_of_cell? w _ hw111_1)).trans hw111_1)⟩ (fun hHeld => ?_)
              clear hK K
              refine norm_ (a' := ?_) ?_ ?_
              rotate_left
              ·show Act.put _ (some 39) _ = _
               simp only [Act.put, List.setIfInBounds_toArray, List.set_cons_zero, List.set_cons_succ, i64_w, i32_w]
               rfl
              refine pure_ (i := 20) (N := some 40) (v := ?_) (a' := ?_) #[true, true, true, true, true, true, true, true, true, true, true, true, true, true, true, true, true, true, true, true, true, false] rfl rfl (any_of HT_.out (by kernel_rfl)) (fun _ _ _ h => h) (Or.inl ⟨by rfl, ?_⟩) ?_ ?_
              rotate_left
              ·intro w'
               go_simp
               with_reducible rfl
              rotate_left
              ·simp only [Act.put, List.setIfInBounds_toArray, List.set_cons_zero, List.set_cons_succ, i64_w, i32_w]
               rfl
              refine pure_ (i := 21) (N := some 41) (v := ?_) (a' := ?_) #[true, true, true, true, true, true, true, true, true, true, true, true, true, true, true, true, true, true, true, true, true, true] rfl rfl (any_of HT_.out (by kernel_rfl)) (fun _ _ _ h => h) (Or.inl ⟨by rfl, ?_⟩) ?_ ?_
              rotate_left
              ·intro w'
               go_simp
               with_reducible rfl
              rotate_left
              ·simp only [Act.put, List.setIfInBounds_toArray, List.set_cons_zero, List.set_cons_succ, i64_w, i32_w]
               rfl
              refine done_ (done_of HT_.out (by kernel_rfl)) ?_
              try go_wp2
              go_roundg k1
              case measure => have := HK1.out; omega
              case rel => exact ⟨(x3_1), (ji27), (by first | rfl | (simp; done) | (simp only [← hji27] <;> (first | rfl | simp)) | (simp [*]; done)), H', ⟨by have := HK1.out; omega⟩, ⟨by (zq23_3); exact Kd.R_mono HO_3.out (fun _ hk => trivial)⟩, ⟨by repeat (first | (with_reducible first | exact HB.out | apply below_alloc | apply pw_below_drewN | apply below_drew1 | refine below_set ?_ GE103.out) | exact HB.out)⟩⟩
             ·replace c31 := Bool.eq_false_iff.mpr c31
              subst c31
              have H1 : (if x3_1.length < 8796093022208 then (impl_CodeTurns.l0 k1 l0 (x3_1 ++ [(⟨(rd_T38 l0 x15_1).f0, (rd_T38 l0 x15_1).f1⟩ : S38)]) (wrap64 ((l0.length : Int) - 1)) l0 (l0.length : Int) ji27) else (none)) = some r := by rw [if_neg (show ¬ (false = true) by decide)] at H; exact H
              clear H
              have H := H1
              clear H1
              by_cases c37 : x3_1.length < 8796093022208
              ·rw [if_pos c37] at H
               have LMc37 := Aside0.mk c37
               clear c37
               obtain ⟨y113, hy113⟩ : ∃ y_ : List (S38), y_ = (x3_1 ++ [(⟨(rd_T38 l0 x15_1).f0, (rd_T38 l0 x15_1).f1⟩ : S38)]) := ⟨_, rfl⟩
               replace H : (impl_CodeTurns.l0 k1 l0 y113 (wrap64 ((l0.length : Int) - 1)) l0 (l0.length : Int) ji27) = some r := by first | (rw [hy113]; with_reducible exact H) | (have H2_ := (Option.bind_some _ _).symm.trans H; rw [hy113]; with_reducible exact H2_) | (have H2_ := (Option.bind_some _ _).symm.trans H; with_reducible exact H2_) | with_reducible exact H | (rw [hy113]; exact H) | exact H
               have Ny113 := Aside0.mk hy113
               clear hy113
               have H' := Aside0.mk H
               clear H
               have p102 : 0 ≤ (x15_1 : Int) := of_decide_eq_true zq23_5
               have q102 : x15_1 < (l0.length : Int) := of_decide_eq_true zq23_5
               obtain ⟨ad102, e102, hx102_0, hx102_1⟩ := at_T38 HR0.out x15_1 p102 q102
               cases e102
               replace hx102_0 := (HB.out.cell (World.block_lt_of_cell? w _ hx102_0)).trans hx102_0
               replace hx102_1 := (HB.out.cell (World.block_lt_of_cell? w _ hx102_1)).trans hx102_1
               replace p102 := eq_true p102
               replace q102 := eq_true q102
               try go_wp2_with (first | ((with_reducible refine gate_dst (N := 6) rfl ?_); refine box_event ?hg (N := 6) ?hd (cs := #[.int .i64 0, .int .i64 0]) (t := 38) ?hr ?_; (case hd => rfl); (case hg => rfl); (case hr => first | (go_simp; done) | (go_simp; rfl)); intro gb103 hg w38 hbox hb; have n0_ := Aside0.mk (Kd.R_below (Kd.R_elderB (by (zq23_3); exact HO_3.out) gb103 (Nat.le_of_eq hg.symm)) hb); have n1_ := Aside0.mk (below_step zq23_2 hb); have n2_ := Aside0.mk (hbox); have n3_ := Aside0.mk (zq23_6); have n4_ := Aside0.mk (zq23_6); clear HO_3; clear HB; have HO_3 := n0_; have HB := n1_; have BK103 := n2_; have GW103 := n3_; have GE103 := n4_; clear n0_ n1_ n2_ n3_ n4_; clear hb hbox hg; have hcz39_0 : w38.cell? ⟨gb103, 0, none⟩ = some (.int .i64 0) := (blk_cell BK103.out 0).trans rfl; have hcz39_1 : w38.cell? ⟨gb103, 1, none⟩ = some (.int .i64 0) := (blk_cell BK103.out 1).trans rfl; have hfz39_0 := blk_frozen BK103.out 0; have hfz39_1 := blk_frozen BK103.out 1))
               have n0_ : Aside0 (Kd.R k38 38 ((w38.setCell ⟨gb103, 0, none⟩ (.int .i64 ((rd_T38 l0 x15_1).f0))).setCell ⟨gb103, 1, none⟩ (.int .i64 ((rd_T38 l0 x15_1).f1))) w.heap.size (fun k_ => k_ ≠ gb103) u3 x3_1) := ⟨by (zq23_3); exact Kd.R_mono (Kd.R_far (p := ⟨gb103, 1, none⟩) (Kd.R_far (p := ⟨gb103, 0, none⟩) (Kd.R_mono HO_3.out (fun k_ hk => (⟨hk, hk.2⟩ : _ ∧ k_ ≠ gb103))) (fun _ hk => hk.2) (.int .i64 ((rd_T38 l0 x15_1).f0))) (fun _ hk => hk.2) (.int .i64 ((rd_T38 l0 x15_1).f1))) (fun _ hk => hk.1.2)⟩
               have n1_ : Aside0 (((w38.setCell ⟨gb103, 0, none⟩ (.int .i64 ((rd_T38 l0 x15_1).f0))).setCell ⟨gb103, 1, none⟩ (.int .i64 ((rd_T38 l0 x15_1).f1))).heap[gb103]? = some (.cells #[.int .i64 ((rd_T38 l0 x15_1).f0), .int .i64 ((rd_T38 l0 x15_1).f1)] 38 (0, 0))) := ⟨by (zq23_1); refine blk_put (cs := #[.int .i64 ((rd_T38 l0 x15_1).f0), .int .i64 0]) ?_ 1 _ rfl; (zq23_1); refine blk_put (cs := #[.int .i64 0, .int .i64 0]) ?_ 0 _ rfl; (zq23_1); exact BK103.out⟩
               have n2_ : Aside0 (Below w.heap.size w ((w38.setCell ⟨gb103, 0, none⟩ (.int .i64 ((rd_T38 l0 x15_1).f0))).setCell ⟨gb103, 1, none⟩ (.int .i64 ((rd_T38 l0 x15_1).f1)))) := ⟨by repeat (first | (with_reducible first | exact HB.out | apply below_alloc | apply pw_below_drewN | apply below_drew1 | refine below_set ?_ GE103.out) | exact HB.out)⟩
               (try clear HO_3)
               (try clear BK103)
               (try clear HB)
               generalize ((w38.setCell ⟨gb103, 0, none⟩ (.int .i64 ((rd_T38 l0 x15_1).f0))).setCell ⟨gb103, 1, none⟩ (.int .i64 ((rd_T38 l0 x15_1).f1))) = w40 at n0_ n1_ n2_ ⊢
               have HO_3 := n0_
               have BK103 := n1_
               have HB := n2_
               clear n0_ n1_ n2_
               have n0_ := Aside0.mk (Kd.R_drew HO_3.out)
               have n1_ := Aside0.mk (blk_drew BK103.out)
               have n2_ := Aside0.mk (below_drew1 HB.out)
               clear HO_3
               clear BK103
               clear HB
               have HO_3 := n0_
               have BK103 := n1_
               have HB := n2_
               clear n0_ n1_ n2_
               have p110 : 0 ≤ ((ji24) : Int) := of_decide_eq_true zq23_5
               have q110 : (ji24) < (l0.length : Int) := of_decide_eq_true zq23_5
               obtain ⟨ad110, e110, hx110_0, hx110_1⟩ := at_T38 HR0.out (ji24) p110 q110
               have hw110_1 := hx110_1
               have hw110_0 := hx110_0
               obtain rfl : ad102 = ad110 := (by injection e110)
               replace hx110_0 := (HB.out.cell (World.block_lt_of_cell? w _ hx110_0)).trans hx110_0
               replace hx110_1 := (HB.out.cell (World.block_lt_of_cell? w _ hx110_1)).trans hx110_1
               replace p110 := eq_true p110
               replace q110 := eq_true q110
               have p111 : 0 ≤ ((ji27) : Int) := of_decide_eq_true zq23_5
               have q111 : (ji27) < (l0.length : Int) := of_decide_eq_true zq23_5
               obtain ⟨ad111, e111, hx111_0, hx111_1⟩ := at_T38 HR0.out (ji27) p111 q111
               have hw111_1 := hx111_1
               have hw111_0 := hx111_0
               obtain rfl : ad102 = ad111 := (by injection e111)
               replace hx111_0 := (HB.out.cell (World.block_lt_of_cell? w _ hx111_0)).trans hx111_0
               replace hx111_1 := (HB.out.cell (World.block_lt_of_cell? w _ hx111_1)).trans hx111_1
               replace p111 := eq_true p111
               replace q111 := eq_true q111
               refine start_ (n := 22) (S := fun w' => w'.cell? ⟨gb103, 0, none⟩ = some (.int .i64 ((rd_T38 l0 x15_1).f0)) ∧ w'.cell? ⟨gb103, 1, none⟩ = some (.int .i64 ((rd_T38 l0 x15_1).f1)) ∧ w'.cell? (ad102.add (((ji24)).toNat * 2)) = some (.int .i64 ((rd_T38 l0 (ji24)).f0)) ∧ w'.cell? ⟨(ad102.add (((ji24)).toNat * 2)).block, (ad102.add (((ji24)).toNat * 2)).off + 1, none⟩ = some (.int .i64 ((rd_T38 l0 (ji24)).f1)) ∧ w'.cell? (ad102.add (((ji27)).toNat * 2)) = some (.int .i64 ((rd_T38 l0 (ji27)).f0)) ∧ w'.cell? ⟨(ad102.add (((ji27)).toNat * 2)).block, (ad102.add (((ji27)).toNat * 2)).off + 1, none⟩ = some (.int .i64 ((rd_T38 l0 (ji27)).f1))) (ds := []) #[false, false, false, false, false, false, false, false, false, false, false, false, false, false, false, false, false, false, false, false, false, false] (by kernel_rfl) rfl rfl ⟨(blk_cell BK103.out 0).trans rfl, (blk_cell BK103.out 1).trans rfl, ((HB.out.cell (World.block_lt_of_cell? w _ hw110_0)).trans hw110_0), ((HB.out.cell (World.block_lt_of_cell? w _ hw110_1)).trans hw110_1), ((HB.out.cell (World.block_lt_of_cell? w _ hw111_0)).trans hw111_0), ((HB.out.cell (World.block_lt_of_cell? w _ hw111_1)).trans hw111_1)⟩ (fun hHeld => ?_); refine with_tabW impl_CodeTurns.tab8 impl_CodeTurns.bits8 (fun HT_ HW_ => ?_)
               generalize w40.drew = w41 at HO_3 BK103 HB hx110_0 hx110_1 hx111_0 hx111_1 hHeld ⊢
               refine pure_ (i := 0) (N := some 20) (v := ?_) (a' := ?_) #[true, false, false, false, false, false, false, false, false, false, false, false, false, false, false, false, false, false, false, false, false, false] rfl rfl (any_of HT_.out (by kernel_rfl)) (fun _ _ _ h => h) (Or.inl ⟨by rfl, ?_⟩) ?_ ?_
               rotate_left
               ·intro w'
                go_simp
                with_reducible rfl
               rotate_left
               ·simp only [Act.put, List.setIfInBounds_toArray, List.set_cons_zero, List.set_cons_succ, i64_w, i32_w]
                rfl
               refine pure_ (i := 1) (N := some 21) (v := ?_) (a' := ?_) #[true, true, false, false, false, false, false, false, false, false, false, false, false, false, false, false, false, false, false, false, false, false] rfl rfl (any_of HT_.out (by kernel_rfl)) (fun _ _ _ h => h) (Or.inl ⟨by rfl, ?_⟩) ?_ ?_
               rotate_left
               ·intro w'
                go_simp
                with_reducible rfl
               rotate_left
               ·simp only [Act.put, List.setIfInBounds_toArray, List.set_cons_zero, List.set_cons_succ, i64_w, i32_w]
                rfl
               refine pure_ (i := 2) (N := some 22) (v := ?_) (a' := ?_) #[true, true, true, false, false, false, false, false, false, false, false, false, false, false, false, false, false, false, false, false, false, false] rfl rfl (any_of HT_.out (by kernel_rfl)) (fun _ _ _ h => h) (Or.inl ⟨by rfl, ?_⟩) ?_ ?_
               rotate_left
               ·intro w'
                go_simp
                with_reducible rfl
               rotate_left
               ·simp only [Act.put, List.setIfInBounds_toArray, List.set_cons_zero, List.set_cons_succ, i64_w, i32_w]
                rfl
               refine pure_ (i := 3) (N := some 23) (v := ?_) (a' := ?_) #[true, true, true, true, false, false, false, false, false, false, false, false, false, false, false, false, false, false, false, false, false, false] rfl rfl (any_of HT_.out (by kernel_rfl)) (fun _ _ _ h => h) (Or.inl ⟨by rfl, ?_⟩) ?_ ?_
               rotate_left
               ·intro w'
                go_simp
                with_reducible rfl
               rotate_left
               ·simp only [Act.put, List.setIfInBounds_toArray, List.set_cons_zero, List.set_cons_succ, i64_w, i32_w]
                rfl
               refine pure_ (i := 4) (N := some 24) (v := ?_) (a' := ?_) #[true, true, true, true, true, false, false, false, false, false, false, false, false, false, false, false, false, false, false, false, false, false] rfl rfl (any_of HT_.out (by kernel_rfl)) (fun _ _ _ h => h) (Or.inl ⟨by rfl, ?_⟩) ?_ ?_
               rotate_left
               ·intro w'
                go_simp
                with_reducible rfl
               rotate_left
               ·simp only [Act.put, List.setIfInBounds_toArray, List.set_cons_zero, List.set_cons_succ, i64_w, i32_w]
                rfl
               refine pure_ (i := 5) (N := some 25) (v := ?_) (a' := ?_) #[true, true, true, true, true, true, false, false, false, false, false, false, false, false, false, false, false, false, false, false, false, false] rfl rfl (any_of HT_.out (by kernel_rfl)) (fun _ _ _ h => h) (Or.inl ⟨by rfl, ?_⟩) ?_ ?_
               rotate_left
               ·intro w'
                go_simp
                with_reducible rfl
               rotate_left
               ·simp only [Act.put, List.setIfInBounds_toArray, List.set_cons_zero, List.set_cons_succ, i64_w, i32_w]
                rfl
               refine pure_ (i := 6) (N := some 26) (v := ?_) (a' := ?_) #[true, true, true, true, true, true, true, false, false, false, false, false, false, false, false, false, false, false, false, false, false, false] rfl rfl (any_of HT_.out (by kernel_rfl)) (fun _ _ _ h => h) (Or.inl ⟨by rfl, ?_⟩) ?_ ?_
               rotate_left
               ·intro w'
                go_simp
                with_reducible rfl
               rotate_left
               ·simp only [Act.put, List.setIfInBounds_toArray, List.set_cons_zero, List.set_cons_succ, i64_w, i32_w]
                rfl
               refine pure_ (i := 7) (N := some 27) (v := ?_) (a' := ?_) #[true, true, true, true, true, true, true, true, false, false, false, false, false, false, false, false, false, false, false, false, false, false] rfl rfl (any_of HT_.out (by kernel_rfl)) (fun _ _ _ h => h) (Or.inl ⟨by rfl, ?_⟩) ?_ ?_
               rotate_left
               ·intro w'
                go_simp
                with_reducible rfl
               rotate_left
               ·simp only [Act.put, List.setIfInBounds_toArray, List.set_cons_zero, List.set_cons_succ, i64_w, i32_w]
                rfl
               refine pure_ (i := 8) (N := some 28) (v := ?_) (a' := ?_) #[true, true, true, true, true, true, true, true, true, false, false, false, false, false, false, false, false, false, false, false, false, false] rfl rfl (any_of HT_.out (by kernel_rfl)) (fun _ _ _ h => h) (Or.inl ⟨by rfl, ?_⟩) ?_ ?_
               rotate_left
               ·intro w'
                go_simp
                with_reducible rfl
               rotate_left
               ·simp only [Act.put, List.setIfInBounds_toArray, List.set_cons_zero, List.set_cons_succ, i64_w, i32_w]
                rfl
               refine pure_ (i := 9) (N := some 29) (v := ?_) (a' := ?_) #[true, true, true, true, true, true, true, true, true, true, false, false, false, false, false, false, false, false, false, false, false, false] rfl rfl (any_of HT_.out (by kernel_rfl)) (fun _ _ _ h => h) (Or.inl ⟨by rfl, ?_⟩) ?_ ?_
               rotate_left
               ·intro w'
                go_simp
                with_reducible rfl
               rotate_left
               ·simp only [Act.put, List.setIfInBounds_toArray, List.set_cons_zero, List.set_cons_succ, i64_w, i32_w]
                rfl
               refine pure_ (i := 10) (N := some 30) (v := ?_) (a' := ?_) #[true, true, true, true, true, true, true, true, true, true, true, false, false, false, false, false, false, false, false, false, false, false] rfl rfl (any_of HT_.out (by kernel_rfl)) (fun _ _ _ h => h) (Or.inl ⟨by rfl, ?_⟩) ?_ ?_
               rotate_left
               ·intro w'
                go_simp
                with_reducible rfl
               rotate_left
               ·simp only [Act.put, List.setIfInBounds_toArray, List.set_cons_zero, List.set_cons_succ, i64_w, i32_w]
                rfl
               refine pure_ (i := 11) (N := some 31) (v := ?_) (a' := ?_) #[true, true, true, true, true, true, true, true, true, true, true, true, false, false, false, false, false, false, false, false, false, false] rfl rfl (any_of HT_.out (by kernel_rfl)) (fun _ _ _ h => h) (Or.inl ⟨by rfl, ?_⟩) ?_ ?_
               rotate_left
               ·intro w'
                go_simp
                with_reducible rfl
               rotate_left
               ·simp only [Act.put, List.setIfInBounds_toArray, List.set_cons_zero, List.set_cons_succ, i64_w, i32_w]
                rfl
               refine pure_ (i := 14) (N := some 34) (v := ?_) (a' := ?_) #[true, true, true, true, true, true, true, true, true, true, true, true, false, false, true, false, false, false, false, false, false, false] rfl rfl (any_of HT_.out (by kernel_rfl)) (fun _ _ _ h => h) (Or.inl ⟨by rfl, ?_⟩) ?_ ?_
               rotate_left
               ·intro w'
                go_simp
                with_reducible rfl
               rotate_left
               ·simp only [Act.put, List.setIfInBounds_toArray, List.set_cons_zero, List.set_cons_succ, i64_w, i32_w]
                rfl
               refine pure_ (i := 15) (N := some 35) (v := ?_) (a' := ?_) #[true, true, true, true, true, true, true, true, true, true, true, true, false, false, true, true, false, false, false, false, false, false] rfl rfl (any_of HT_.out (by kernel_rfl)) (fun _ _ _ h => h) (Or.inl ⟨by rfl, ?_⟩) ?_ ?_
               rotate_left
               ·intro w'
                go_simp
                with_reducible rfl
               rotate_left
               ·simp only [Act.put, List.setIfInBounds_toArray, List.set_cons_zero, List.set_cons_succ, i64_w, i32_w]
                rfl
               refine pure_ (i := 16) (N := some 36) (v := ?_) (a' := ?_) #[true, true, true, true, true, true, true, true, true, true, true, true, false, false, true, true, true, false, false, false, false, false] rfl rfl (any_of HT_.out (by kernel_rfl)) (fun _ _ _ h => h) (Or.inl ⟨by rfl, ?_⟩) ?_ ?_
               rotate_left
               ·intro w'
                go_simp
                with_reducible rfl
               rotate_left
               ·simp only [Act.put, List.setIfInBounds_toArray, List.set_cons_zero, List.set_cons_succ, i64_w, i32_w]
                rfl
               refine pure_ (i := 17) (N := some 37) (v := ?_) (a' := ?_) #[true, true, true, true, true, true, true, true, true, true, true, true, false, false, true, true, true, true, false, false, false, false] rfl rfl (any_of HT_.out (by kernel_rfl)) (fun _ _ _ h => h) (Or.inl ⟨by rfl, ?_⟩) ?_ ?_
               rotate_left
               ·intro w'
                go_simp
                with_reducible rfl
               rotate_left
               ·simp only [Act.put, List.setIfInBounds_toArray, List.set_cons_zero, List.set_cons_succ, i64_w, i32_w]
                rfl
               refine take_ (i := 12) (N := some 32) (v := ?_) (a' := ?_) #[true, true, true, true, true, true, true, true, true, true, true, true, true, false, true, true, true, true, false, false, false, false] rfl rfl (take_ofW HT_.out HW_.out (by kernel_rfl)) (fun _ _ _ h => h) (Or.inl ⟨by rfl, ?_⟩) hHeld ?_ ?_
               rotate_left
               ·rintro w' ⟨s0, s1, s2, s3, s4, s5⟩
                go_simp
                with_reducible rfl
               rotate_left
               ·simp only [Act.put, List.setIfInBounds_toArray, List.set_cons_zero, List.set_cons_succ, i64_w, i32_w]
                rfl
               refine take_ (i := 13) (N := some 33) (v := ?_) (a' := ?_) #[true, true, true, true, true, true, true, true, true, true, true, true, true, true, true, true, true, true, false, false, false, false] rfl rfl (take_ofW HT_.out HW_.out (by kernel_rfl)) (fun _ _ _ h => h) (Or.inl ⟨by rfl, ?_⟩) hHeld ?_ ?_
               rotate_left
               ·rintro w' ⟨s0, s1, s2, s3, s4, s5⟩
                go_simp
                with_reducible rfl
               rotate_left
               ·simp only [Act.put, List.setIfInBounds_toArray, List.set_cons_zero, List.set_cons_succ, i64_w, i32_w]
                rfl
               refine take_ (i := 18) (N := some 38) (v := ?_) (a' := ?_) #[true, true, true, true, true, true, true, true, true, true, true, true, true, true, true, true, true, true, true, false, false, false] rfl rfl (take_ofW HT_.out HW_.out (by kernel_rfl)) (fun _ _ _ h => h) (Or.inl ⟨by rfl, ?_⟩) hHeld ?_ ?_
               rotate_left
               ·rintro w' ⟨s0, s1, s2, s3, s4, s5⟩
                go_simp
                with_reducible rfl
               rotate_left
               ·simp only [Act.put, List.setIfInBounds_toArray, List.set_cons_zero, List.set_cons_succ, i64_w, i32_w]
                rfl
               refine one_ (i := 19) (N := some 39) #[true, true, true, true, true, true, true, true, true, true, true, true, true, true, true, true, true, true, true, true, false, false] rfl rfl (one_of HT_.out (by kernel_rfl)) (by decide) (fun K hK => ?_)
               refine goes_ Try.func31 (by kernel_rfl) rfl #[.agg #[.int .i64 ((rd_T38 l0 (ji24)).f0), .int .i64 ((rd_T38 l0 (ji24)).f1)], .agg #[.int .i64 ((rd_T38 l0 x15_1).f0), .int .i64 ((rd_T38 l0 x15_1).f1)], .agg #[.int .i64 ((rd_T38 l0 (ji27)).f0), .int .i64 ((rd_T38 l0 (ji27)).f1)]] (by rfl) rfl rfl zq23_8 ?_
               with_reducible refine (impl_goesOn.calls ((rd_T38 l0 (ji24)).f0) ((rd_T38 l0 (ji24)).f1) ((rd_T38 l0 x15_1).f0) ((rd_T38 l0 x15_1).f1) ((rd_T38 l0 (ji27)).f0) ((rd_T38 l0 (ji27)).f1) false _ A30.out).mono ?_
               rintro e w42 ⟨rfl, hb⟩
               refine ⟨_, rfl, ?_⟩
               have n0_ := Aside0.mk (Kd.R_below (by (zq23_3); exact HO_3.out) hb)
               have n1_ := Aside0.mk (blk_below (g := gb103) (o := .cells #[.int .i64 ((rd_T38 l0 x15_1).f0), .int .i64 ((rd_T38 l0 x15_1).f1)] 38 (0, 0)) (by (zq23_1); exact BK103.out) hb)
               have n2_ := Aside0.mk (below_step zq23_4 hb)
               clear HO_3
               clear BK103
               clear HB
               have HO_3 := n0_
               have BK103 := n1_
               have HB := n2_
               clear n0_ n1_ n2_
               (try clear hb)
               (try clear hb2)
               (try clear hk)
               (try clear hi)
               refine hK.out _ _ ⟨(blk_cell BK103.out 0).trans rfl, (blk_cell BK103.out 1).trans rfl, ((HB.out.cell (World.block_lt_of_cell? w _ hw110_0)).trans hw110_0), ((HB.out.cell (World.block_lt_of_cell? w _ hw110_1)).trans hw110_1), ((HB.out.cell (World.block_lt_of_cell? w _ hw111_0)).trans hw111_0), ((HB.out.cell (World.block_lt_of_cell? w _ hw111_1)).trans hw111_1)⟩ (fun hHeld => ?_)
               clear hK K
               refine norm_ (a' := ?_) ?_ ?_
               rotate_left
               ·show Act.put _ (some 39) _ = _
                simp only [Act.put, List.setIfInBounds_toArray, List.set_cons_zero, List.set_cons_succ, i64_w, i32_w]
                rfl
               refine pure_ (i := 20) (N := some 40) (v := ?_) (a' := ?_) #[true, true, true, true, true, true, true, true, true, true, true, true, true, true, true, true, true, true, true, true, true, false] rfl rfl (any_of HT_.out (by kernel_rfl)) (fun _ _ _ h => h) (Or.inl ⟨by rfl, ?_⟩) ?_ ?_
               rotate_left
               ·intro w'
                go_simp
                with_reducible rfl
               rotate_left
               ·simp only [Act.put, List.setIfInBounds_toArray, List.set_cons_zero, List.set_cons_succ, i64_w, i32_w]
                rfl
               refine pure_ (i := 21) (N := some 41) (v := ?_) (a' := ?_) #[true, true, true, true, true, true, true, true, true, true, true, true, true, true, true, true, true, true, true, true, true, true] rfl rfl (any_of HT_.out (by kernel_rfl)) (fun _ _ _ h => h) (Or.inl ⟨by rfl, ?_⟩) ?_ ?_
               rotate_left
               ·intro w'
                go_simp
                with_reducible rfl
               rotate_left
               ·simp only [Act.put, List.setIfInBounds_toArray, List.set_cons_zero, List.set_cons_succ, i64_w, i32_w]
                rfl
               refine done_ (done_of HT_.out (by kernel_rfl)) ?_
               have hcz43_0 : w42.cell? ⟨gb103, 0, none⟩ = some (.int .i64 ((rd_T38 l0 x15_1).f0)) := (blk_cell BK103.out 0).trans rfl
               have hcz43_1 : w42.cell? ⟨gb103, 1, none⟩ = some (.int .i64 ((rd_T38 l0 x15_1).f1)) := (blk_cell BK103.out 1).trans rfl
               have hfz43_0 := blk_frozen BK103.out 0
               have hfz43_1 := blk_frozen BK103.out 1
               try go_wp2_with (first | ((with_reducible refine gate_builtin (b := .append) (xs := #[.tmp 42, .tmp 44]) rfl ?_); at_builtin; refine Kd.R_append k38 (w0 := w) w.heap.size rfl (.tmp 42) (.tmp 44) 24 38 (.agg #[(.int .i64 0), (.int .i64 0)]) 16 rfl Try.underlying24 info38 rfl (by decide) (by omega) u3 x3_1 (⟨(rd_T38 l0 x15_1).f0, (rd_T38 l0 x15_1).f1⟩ : S38) [.int .i64 ((rd_T38 l0 x15_1).f0), .int .i64 ((rd_T38 l0 x15_1).f1)] (fun k_ => k_ ≠ gb103) (fun _ => False) rfl rfl ?aP (fun _ hk => hk.elim) ?aF ?aO ?aB ?aS ?aL ?_; (zq23_9); (case aB => exact zq23_4); (zq23_7); (case aO => exact (by (zq23_3); exact HO_3.out)); (case aS => exact (below_size zq23_4)); (case aL => have := LMc37.out; omega); intro v114 w44 ho hb hg hat; rw [← Ny113.out] at ho; have n0_ := Aside0.mk (blk_grown (g := gb103) (o := .cells #[.int .i64 ((rd_T38 l0 x15_1).f0), .int .i64 ((rd_T38 l0 x15_1).f1)] 38 (0, 0)) (by (zq23_1); exact BK103.out) hg (Kd.R_away HO_3.out (fun _ hk => hk))); have n1_ := Aside0.mk (hb); have n2_ := Aside0.mk (ho); clear BK103; clear HB; clear HO_3; have BK103 := n0_; have HB := n1_; have HO115 := n2_; clear n0_ n1_ n2_; clear ho hb hg hat))
               go_roundg k1
               case measure => have := HK1.out; omega
               case rel => exact ⟨(y113), (ji27), (by first | rfl | (simp; done) | (simp only [← hji27] <;> (first | rfl | simp)) | (simp [*]; done)), H', ⟨by have := HK1.out; omega⟩, ⟨by (zq23_3); exact Kd.R_mono HO115.out (fun _ hk => trivial)⟩, ⟨by repeat (first | (with_reducible first | exact HB.out | apply below_alloc | apply pw_below_drewN | apply below_drew1 | refine below_set ?_ GE103.out) | exact HB.out)⟩⟩
              ·rw [if_neg c37] at H
               exact absurd H (by simp)
            ·rw [if_neg c29] at H
             exact absurd H (by simp)
           ·rw [if_neg c28] at H
            exact absurd H (by simp)
          ·rw [if_neg c26] at H
           exact absurd H (by simp)
         ·rw [if_neg c25] at H
          exact absurd H (by simp)
      ·rw [if_neg c7] at H
       exact absurd H (by simp)
     ·rw [if_neg c6] at H
      exact absurd H (by simp)
    ·rw [if_neg c5] at H
     have c5b0 : decide (x15_1 < (l0.length : Int)) = false := decide_eq_false c5
     clear c5
     obtain rfl := Option.some.inj H
     go_wp2
     go_ret
     exact ⟨_, by first | rfl | (simp [errW_none, errW_some] <;> rfl) | (simp [*, errW_none, errW_some] <;> rfl), by (zq23_3); exact HO_3.out, by repeat (first | (with_reducible first | exact HB.out | apply below_alloc | apply pw_below_drewN | apply below_drew1) | exact HB.out)⟩
 ·replace c3 := Bool.eq_false_iff.mpr c3
  subst c3
  have H1 : (some ([] : List (S38))) = some r := by rw [if_neg (show ¬ (false = true) by decide)] at H; exact H
  clear H
  have H := H1
  clear H1
  obtain rfl := Option.some.inj H
  go_enter Try.func12, Try.ntmps12
  go_wp2_with (first | ((with_reducible refine gate_callee (f := 30) rfl ?_); refine goesL_ (some 8) rfl rfl Try.func30 (by kernel_rfl) rfl #[.slice A0 l0.length c0] rfl (by (try simp only [List.map_toArray, List.map_cons, List.map_nil]); first | done | rfl | (simp only [List.length_drop, List.length_take]; rfl)) ?_; (with_reducible refine (impl_isPath.calls k _ _ l0 false _ ?side1 ?side2 A2.out).mono ?_); (zq23_10); (case side2 => exact HC0.out); rintro e w45 ⟨rfl, hb⟩; refine ⟨_, rfl, ?_⟩; have n0_ := Aside0.mk (below_step zq23_2 hb); clear HB; have HB := n0_; clear n0_; (try clear hb); (try clear hb2); (try clear hk); (try clear hi)))
  go_ret
  exact ⟨_, by first | rfl | (simp [errW_none, errW_some] <;> rfl) | (simp [*, errW_none, errW_some] <;> rfl), by first | exact Kd.R_nil _ _ _ _ _ | exact Kd.N_nil _ _ _ _ _ | exact Kd.V_nil _ _ _ _ _ | exact Kd.Q_nil _ _ _ _ _ | exact Kd.S_nil _ _ _ _ _, by repeat (first | (with_reducible first | exact HB.out | apply below_alloc | apply pw_below_drewN | apply below_drew1) | exact HB.out)⟩

end Go.Proofs.Ytdacpdhpifocbaa.P

namespace Go.Proofs.Ytdacpdhpifocbaa.P
open Go.RowKit Go.Proofs.YtdacpdhpifocbaaW.PrintWords Go.Proofs.YtdacpdhpifocbaaW.PrintLast Go.Proofs.YtdacpdhpifocbaaW.PrintMore
attribute [local go_sem] max2_int min2_int max_two min_two max_three min_three max_four min_four   -- for this text's walks alone
set_option linter.unusedVariables false
set_option linter.unusedSimpArgs false

/-! ### spec_l2Dot: function 50 -/
def spec_l2Dot.f (a0_0 : Int) (a0_1 : Int) (a1_0 : Int) (a1_1 : Int) (a2_0 : Int) (a2_1 : Int) : Option (Int) := some (wrap64 ((wrap64 ((wrap64 (a1_0 - a0_0)) * (wrap64 (a2_0 - a0_0)))) + (wrap64 ((wrap64 (a1_1 - a0_1)) * (wrap64 (a2_1 - a0_1))))))
set_option maxHeartbeats 8000000 in
set_option maxRecDepth 100000 in
theorem spec_l2Dot.calls (a0_0 : Int) (a0_1 : Int) (a1_0 : Int) (a1_1 : Int) (a2_0 : Int) (a2_1 : Int) (r : Int) (w : World) (h : spec_l2Dot.f a0_0 a0_1 a1_0 a1_1 a2_0 a2_1 = some r) :
    Calls Try.prog 50 #[.agg #[.int .i64 a0_0, .int .i64 a0_1], .agg #[.int .i64 a1_0, .int .i64 a1_1], .agg #[.int .i64 a2_0, .int .i64 a2_1]] w fun e w' => e = .returned (.int .i64 r) ∧ Below w.heap.size w w' := by
  have hu38 := Try.underlying38
  have HB := Aside0.mk (Below.refl w.heap.size w)
  have H : (some (wrap64 ((wrap64 ((wrap64 (a1_0 - a0_0)) * (wrap64 (a2_0 - a0_0)))) + (wrap64 ((wrap64 (a1_1 - a0_1)) * (wrap64 (a2_1 - a0_1))))))) = some r := h
  clear h
  obtain rfl := Option.some.inj H
  go_enter Try.func50, Try.ntmps50
  go_wp2_with (first | ((with_reducible refine gate_dst (N := 3) rfl ?_); refine box_event ?hg (N := 3) ?hd (cs := #[.int .i64 a0_0, .int .i64 a0_1]) (t := 38) ?hr ?_; (case hd => rfl); (case hg => rfl); (case hr => first | (go_simp; done) | (go_simp; rfl)); intro gb101 hg w4 hbox hb; have n0_ := Aside0.mk (below_step (by repeat (first | (with_reducible first | exact HB.out | apply below_alloc | apply pw_below_drewN | apply below_drew1) | exact HB.out)) hb); have n1_ := Aside0.mk (hbox); have n2_ := Aside0.mk ((by rw [hg]; exact (below_size (by repeat (first | (with_reducible first | exact HB.out | apply below_alloc | apply pw_below_drewN | apply below_drew1) | exact HB.out))) : w.heap.size ≤ gb101)); have n3_ := Aside0.mk ((by rw [hg]; exact (below_size (by repeat (first | (with_reducible first | exact HB.out | apply below_alloc | apply pw_below_drewN | apply below_drew1) | exact HB.out))) : w.heap.size ≤ gb101)); clear HB; have HB := n0_; have BK101 := n1_; have GW101 := n2_; have GE101 := n3_; clear n0_ n1_ n2_ n3_; clear hb hbox hg) | ((with_reducible refine gate_dst (N := 4) rfl ?_); refine box_event ?hg (N := 4) ?hd (cs := #[.int .i64 a1_0, .int .i64 a1_1]) (t := 38) ?hr ?_; (case hd => rfl); (case hg => rfl); (case hr => first | (go_simp; done) | (go_simp; rfl)); intro gb102 hg w5 hbox hb; have n0_ := Aside0.mk (blk_below (g := gb101) (o := .cells #[.int .i64 a0_0, .int .i64 a0_1] 38 (0, 0)) (by (with_reducible repeat (first | refine blk_drewN ?_ _ | refine blk_drew ?_ | refine blk_alloc ?_ _)); exact BK101.out) hb); have n1_ := Aside0.mk (below_step (by repeat (first | (with_reducible first | exact HB.out | apply below_alloc | apply pw_below_drewN | apply below_drew1 | refine below_set ?_ GE101.out) | exact HB.out)) hb); have n2_ := Aside0.mk (hbox); have n3_ := Aside0.mk ((by rw [hg]; exact (below_size (by repeat (first | (with_reducible first | exact HB.out | apply below_alloc | apply pw_below_drewN | apply below_drew1 | refine below_set ?_ GE101.out) | exact HB.out))) : w.heap.size ≤ gb102)); have n4_ := Aside0.mk ((by rw [hg]; exact (below_size (by repeat (first | (with_reducible first | exact HB.out | apply below_alloc | apply pw_below_drewN | apply below_drew1 | refine below_set ?_ GE101.out) | exact HB.out))) : w.heap.size ≤ gb102)); have n5_ := Aside0.mk ((by rw [hg]; exact Nat.ne_of_lt (blk_lt (g := gb101) (o := .cells #[.int .i64 a0_0, .int .i64 a0_1] 38 (0, 0)) (by (with_reducible repeat (first | refine blk_drewN ?_ _ | refine blk_drew ?_ | refine blk_alloc ?_ _)); exact BK101.out)) : gb101 ≠ gb102)); have n6_ := Aside0.mk ((by rw [hg]; exact Nat.ne_of_gt (blk_lt (g := gb101) (o := .cells #[.int .i64 a0_0, .int .i64 a0_1] 38 (0, 0)) (by (with_reducible repeat (first | refine blk_drewN ?_ _ | refine blk_drew ?_ | refine blk_alloc ?_ _)); exact BK101.out)) : gb102 ≠ gb101)); clear BK101; clear HB; have BK101 := n0_; have HB := n1_; have BK102 := n2_; have GW102 := n3_; have GE102 := n4_; have NB101_102 := n5_; have NB102_101 := n6_; clear n0_ n1_ n2_ n3_ n4_ n5_ n6_; clear hb hbox hg) | ((with_reducible refine gate_dst (N := 5) rfl ?_); refine box_event ?hg (N := 5) ?hd (cs := #[.int .i64 a2_0, .int .i64 a2_1]) (t := 38) ?hr ?_; (case hd => rfl); (case hg => rfl); (case hr => first | (go_simp; done) | (go_simp; rfl)); intro gb103 hg w6 hbox hb; have n0_ := Aside0.mk (blk_below (g := gb101) (o := .cells #[.int .i64 a0_0, .int .i64 a0_1] 38 (0, 0)) (by (with_reducible repeat (first | refine blk_drewN ?_ _ | refine blk_drew ?_ | refine blk_alloc ?_ _)); exact BK101.out) hb); have n1_ := Aside0.mk (blk_below (g := gb102) (o := .cells #[.int .i64 a1_0, .int .i64 a1_1] 38 (0, 0)) (by (with_reducible repeat (first | refine blk_drewN ?_ _ | refine blk_drew ?_ | refine blk_alloc ?_ _)); exact BK102.out) hb); have n2_ := Aside0.mk (below_step (by repeat (first | (with_reducible first | exact HB.out | apply below_alloc | apply pw_below_drewN | apply below_drew1 | refine below_set ?_ GE101.out | refine below_set ?_ GE102.out) | exact HB.out)) hb); have n3_ := Aside0.mk (hbox); have n4_ := Aside0.mk ((by rw [hg]; exact (below_size (by repeat (first | (with_reducible first | exact HB.out | apply below_alloc | apply pw_below_drewN | apply below_drew1 | refine below_set ?_ GE101.out | refine below_set ?_ GE102.out) | exact HB.out))) : w.heap.size ≤ gb103)); have n5_ := Aside0.mk ((by rw [hg]; exact (below_size (by repeat (first | (with_reducible first | exact HB.out | apply below_alloc | apply pw_below_drewN | apply below_drew1 | refine below_set ?_ GE101.out | refine below_set ?_ GE102.out) | exact HB.out))) : w.heap.size ≤ gb103)); have n6_ := Aside0.mk ((by rw [hg]; exact Nat.ne_of_lt (blk_lt (g := gb101) (o := .cells #[.int .i64 a0_0, .int .i64 a0_1] 38 (0, 0)) (by (with_reducible repeat (first | refine blk_drewN ?_ _ | refine blk_drew ?_ | refine blk_alloc ?_ _)); exact BK101.out)) : gb101 ≠ gb103)); have n7_ := Aside0.mk ((by rw [hg]; exact Nat.ne_of_gt (blk_lt (g := gb101) (o := .cells #[.int .i64 a0_0, .int .i64 a0_1] 38 (0, 0)) (by (with_reducible repeat (first | refine blk_drewN ?_ _ | refine blk_drew ?_ | refine blk_alloc ?_ _)); exact BK101.out)) : gb103 ≠ gb101)); have n8_ := Aside0.mk ((by rw [hg]; exact Nat.ne_of_lt (blk_lt (g := gb102) (o := .cells #[.int .i64 a1_0, .int .i64 a1_1] 38 (0, 0)) (by (with_reducible repeat (first | refine blk_drewN ?_ _ | refine blk_drew ?_ | refine blk_alloc ?_ _)); exact BK102.out)) : gb102 ≠ gb103)); have n9_ := Aside0.mk ((by rw [hg]; exact Nat.ne_of_gt (blk_lt (g := gb102) (o := .cells #[.int .i64 a1_0, .int .i64 a1_1] 38 (0, 0)) (by (with_reducible repeat (first | refine blk_drewN ?_ _ | refine blk_drew ?_ | refine blk_alloc ?_ _)); exact BK102.out)) : gb103 ≠ gb102)); clear BK101; clear BK102; clear HB; have BK101 := n0_; have BK102 := n1_; have HB := n2_; have BK103 := n3_; have GW103 := n4_; have GE103 := n5_; have NB101_103 := n6_; have NB103_101 := n7_; have NB102_103 := n8_; have NB103_102 := n9_; clear n0_ n1_ n2_ n3_ n4_ n5_ n6_ n7_ n8_ n9_; clear hb hbox hg; have hnb7 := NB102_101.out; have hnc7 := NB101_102.out; have hnb8 := NB102_103.out; have hnc8 := NB103_102.out; have hcz9_0 : w6.cell? ⟨gb102, 0, none⟩ = some (.int .i64 a1_0) := (blk_cell BK102.out 0).trans rfl; have hcz9_1 : w6.cell? ⟨gb102, 1, none⟩ = some (.int .i64 a1_1) := (blk_cell BK102.out 1).trans rfl; have hfz9_0 := blk_frozen BK102.out 0; have hfz9_1 := blk_frozen BK102.out 1; have hnb10 := NB101_103.out; have hnc10 := NB103_101.out; have hcz11_0 : w6.cell? ⟨gb101, 0, none⟩ = some (.int .i64 a0_0) := (blk_cell BK101.out 0).trans rfl; have hcz11_1 : w6.cell? ⟨gb101, 1, none⟩ = some (.int .i64 a0_1) := (blk_cell BK101.out 1).trans rfl; have hfz11_0 := blk_frozen BK101.out 0; have hfz11_1 := blk_frozen BK101.out 1; have hcz12_0 : w6.cell? ⟨gb103, 0, none⟩ = some (.int .i64 a2_0) := (blk_cell BK103.out 0).trans rfl; have hcz12_1 : w6.cell? ⟨gb103, 1, none⟩ = some (.int .i64 a2_1) := (blk_cell BK103.out 1).trans rfl; have hfz12_0 := blk_frozen BK103.out 0; have hfz12_1 := blk_frozen BK103.out 1))
  go_ret
  exact ⟨by first | rfl | (simp [errW_none, errW_some] <;> rfl) | (simp [*, errW_none, errW_some] <;> rfl), by repeat (first | (with_reducible first | exact HB.out | apply below_alloc | apply pw_below_drewN | apply below_drew1 | refine below_set ?_ GE101.out | refine below_set ?_ GE102.out | refine below_set ?_ GE103.out) | exact HB.out)⟩

end Go.Proofs.Ytdacpdhpifocbaa.P

namespace Go.Proofs.Ytdacpdhpifocbaa.P
open Go.RowKit Go.Proofs.YtdacpdhpifocbaaW.PrintWords Go.Proofs.YtdacpdhpifocbaaW.PrintLast Go.Proofs.YtdacpdhpifocbaaW.PrintMore
attribute [local go_sem] max2_int min2_int max_two min_two max_three min_three max_four min_four   -- for this text's walks alone
set_option linter.unusedVariables false
set_option linter.unusedSimpArgs false

/-! ### spec_l13Beside: function 44 -/
def spec_l13Beside.f (a0_0 : Int) (a0_1 : Int) (a1_0 : Int) (a1_1 : Int) : Option (Bool) := (spec_l2Dot.f a0_0 a0_1 a1_0 a1_1 a1_0 a1_1).bind fun t103 => (some (t103 == 1))
set_option maxHeartbeats 8000000 in
set_option maxRecDepth 100000 in
theorem spec_l13Beside.calls (a0_0 : Int) (a0_1 : Int) (a1_0 : Int) (a1_1 : Int) (r : Bool) (w : World) (h : spec_l13Beside.f a0_0 a0_1 a1_0 a1_1 = some r) :
    Calls Try.prog 44 #[.agg #[.int .i64 a0_0, .int .i64 a0_1], .agg #[.int .i64 a1_0, .int .i64 a1_1]] w fun e w' => e = .returned (.bool r) ∧ Below w.heap.size w w' := by
  have hu38 := Try.underlying38
  have HB := Aside0.mk (Below.refl w.heap.size w)
  have H : ((spec_l2Dot.f a0_0 a0_1 a1_0 a1_1 a1_0 a1_1).bind fun t103 => (some (t103 == 1))) = some r := h
  clear h
  replace H := Option.bind_eq_some_iff.mp H
  obtain ⟨t103, A30, H⟩ := H
  replace H : (some (t103 == 1)) = some r := H
  have A3 := Aside0.mk A30
  clear A30
  obtain rfl := Option.some.inj H
  go_enter Try.func44, Try.ntmps44
  go_wp2_with (first | ((with_reducible refine gate_dst (N := 2) rfl ?_); refine box_event ?hg (N := 2) ?hd (cs := #[.int .i64 a0_0, .int .i64 a0_1]) (t := 38) ?hr ?_; (case hd => rfl); (case hg => rfl); (case hr => first | (go_simp; done) | (go_simp; rfl)); intro gb101 hg w4 hbox hb; have n0_ := Aside0.mk (below_step (by repeat (first | (with_reducible first | exact HB.out | apply below_alloc | apply pw_below_drewN | apply below_drew1) | exact HB.out)) hb); have n1_ := Aside0.mk (hbox); have n2_ := Aside0.mk ((by rw [hg]; exact (below_size (by repeat (first | (with_reducible first | exact HB.out | apply below_alloc | apply pw_below_drewN | apply below_drew1) | exact HB.out))) : w.heap.size ≤ gb101)); have n3_ := Aside0.mk ((by rw [hg]; exact (below_size (by repeat (first | (with_reducible first | exact HB.out | apply below_alloc | apply pw_below_drewN | apply below_drew1) | exact HB.out))) : w.heap.size ≤ gb101)); clear HB; have HB := n0_; have BK101 := n1_; have GW101 := n2_; have GE101 := n3_; clear n0_ n1_ n2_ n3_; clear hb hbox hg) | ((with_reducible refine gate_dst (N := 3) rfl ?_); refine box_event ?hg (N := 3) ?hd (cs := #[.int .i64 a1_0, .int .i64 a1_1]) (t := 38) ?hr ?_; (case hd => rfl); (case hg => rfl); (case hr => first | (go_simp; done) | (go_simp; rfl)); intro gb102 hg w5 hbox hb; have n0_ := Aside0.mk (blk_below (g := gb101) (o := .cells #[.int .i64 a0_0, .int .i64 a0_1] 38 (0, 0)) (by (with_reducible repeat (first | refine blk_drewN ?_ _ | refine blk_drew ?_ | refine blk_alloc ?_ _)); exact BK101.out) hb); have n1_ := Aside0.mk (below_step (by repeat (first | (with_reducible first | exact HB.out | apply below_alloc | apply pw_below_drewN | apply below_drew1 | refine below_set ?_ GE101.out) | exact HB.out)) hb); have n2_ := Aside0.mk (hbox); have n3_ := Aside0.mk ((by rw [hg]; exact (below_size (by repeat (first | (with_reducible first | exact HB.out | apply below_alloc | apply pw_below_drewN | apply below_drew1 | refine below_set ?_ GE101.out) | exact HB.out))) : w.heap.size ≤ gb102)); have n4_ := Aside0.mk ((by rw [hg]; exact (below_size (by repeat (first | (with_reducible first | exact HB.out | apply below_alloc | apply pw_below_drewN | apply below_drew1 | refine below_set ?_ GE101.out) | exact HB.out))) : w.heap.size ≤ gb102)); have n5_ := Aside0.mk ((by rw [hg]; exact Nat.ne_of_lt (blk_lt (g := gb101) (o := .cells #[.int .i64 a0_0, .int .i64 a0_1] 38 (0, 0)) (by (with_reducible repeat (first | refine blk_drewN ?_ _ | refine blk_drew ?_ | refine blk_alloc ?_ _)); exact BK101.out)) : gb101 ≠ gb102)); have n6_ := Aside0.mk ((by rw [hg]; exact Nat.ne_of_gt (blk_lt (g := gb101) (o := .cells #[.int .i64 a0_0, .int .i64 a0_1] 38 (0, 0)) (by (with_reducible repeat (first | refine blk_drewN ?_ _ | refine blk_drew ?_ | refine blk_alloc ?_ _)); exact BK101.out)) : gb102 ≠ gb101)); clear BK101; clear HB; have BK101 := n0_; have HB := n1_; have BK102 := n2_; have GW102 := n3_; have GE102 := n4_; have NB101_102 := n5_; have NB102_101 := n6_; clear n0_ n1_ n2_ n3_ n4_ n5_ n6_; clear hb hbox hg; have hnb6 := NB101_102.out; have hnc6 := NB102_101.out; have hcz7_0 : w5.cell? ⟨gb101, 0, none⟩ = some (.int .i64 a0_0) := (blk_cell BK101.out 0).trans rfl; have hcz7_1 : w5.cell? ⟨gb101, 1, none⟩ = some (.int .i64 a0_1) := (blk_cell BK101.out 1).trans rfl; have hfz7_0 := blk_frozen BK101.out 0; have hfz7_1 := blk_frozen BK101.out 1; have hcz8_0 : w5.cell? ⟨gb102, 0, none⟩ = some (.int .i64 a1_0) := (blk_cell BK102.out 0).trans rfl; have hcz8_1 : w5.cell? ⟨gb102, 1, none⟩ = some (.int .i64 a1_1) := (blk_cell BK102.out 1).trans rfl; have hfz8_0 := blk_frozen BK102.out 0; have hfz8_1 := blk_frozen BK102.out 1) | ((with_reducible refine gate_callee (f := 50) rfl ?_); refine goesL_ (some 8) rfl rfl Try.func50 (by kernel_rfl) rfl #[.agg #[.int .i64 a0_0, .int .i64 a0_1], .agg #[.int .i64 a1_0, .int .i64 a1_1], .agg #[.int .i64 a1_0, .int .i64 a1_1]] rfl (by (try simp only [List.map_toArray, List.map_cons, List.map_nil]); first | done | rfl | (simp only [List.length_drop, List.length_take]; rfl)) ?_; (with_reducible refine (spec_l2Dot.calls a0_0 a0_1 a1_0 a1_1 a1_0 a1_1 t103 _ A3.out).mono ?_); rintro e w9 ⟨rfl, hb⟩; refine ⟨_, rfl, ?_⟩; have n0_ := Aside0.mk (blk_below (g := gb101) (o := .cells #[.int .i64 a0_0, .int .i64 a0_1] 38 (0, 0)) (by (with_reducible repeat (first | refine blk_drewN ?_ _ | refine blk_drew ?_ | refine blk_alloc ?_ _)); exact BK101.out) hb); have n1_ := Aside0.mk (blk_below (g := gb102) (o := .cells #[.int .i64 a1_0, .int .i64 a1_1] 38 (0, 0)) (by (with_reducible repeat (first | refine blk_drewN ?_ _ | refine blk_drew ?_ | refine blk_alloc ?_ _)); exact BK102.out) hb); have n2_ := Aside0.mk (below_step (by repeat (first | (with_reducible first | exact HB.out | apply below_alloc | apply pw_below_drewN | apply below_drew1 | refine below_set ?_ GE101.out | refine below_set ?_ GE102.out) | exact HB.out)) hb); clear BK101; clear BK102; clear HB; have BK101 := n0_; have BK102 := n1_; have HB := n2_; clear n0_ n1_ n2_; (try clear hb); (try clear hb2); (try clear hk); (try clear hi)))
  go_ret
  exact ⟨by first | rfl | (simp [errW_none, errW_some] <;> rfl) | (simp [*, errW_none, errW_some] <;> rfl), by repeat (first | (with_reducible first | exact HB.out | apply below_alloc | apply pw_below_drewN | apply below_drew1 | refine below_set ?_ GE101.out | refine below_set ?_ GE102.out) | exact HB.out)⟩

end Go.Proofs.Ytdacpdhpifocbaa.P

namespace Go.Proofs.Ytdacpdhpifocbaa.P
open Go.RowKit Go.Proofs.YtdacpdhpifocbaaW.PrintWords Go.Proofs.YtdacpdhpifocbaaW.PrintLast Go.Proofs.YtdacpdhpifocbaaW.PrintMore
attribute [local go_sem] max2_int min2_int max_two min_two max_three min_three max_four min_four   -- for this text's walks alone
set_option linter.unusedVariables false
set_option linter.unusedSimpArgs false

/-! ### spec_l22Path: function 27 -/
def spec_l22Path.l0 : Nat → List (S38) → Int → Option (Bool)
  | 0, _, _ => none
  | k + 1, x0, x3 => if x3 < (x0.length : Int) then (if 0 ≤ x3 then ((spec_PtOk.f ((rd_T38 x0 x3).f0) ((rd_T38 x0 x3).f1)).bind fun t103 => (if t103 = true then (if x3 > 0 then (if 0 ≤ (wrap64 (x3 - 1)) then (if (wrap64 (x3 - 1)) < (x0.length : Int) then ((spec_l13Beside.f ((rd_T38 x0 (wrap64 (x3 - 1))).f0) ((rd_T38 x0 (wrap64 (x3 - 1))).f1) ((rd_T38 x0 x3).f0) ((rd_T38 x0 x3).f1)).bind fun t106 => (if t106 = true then (spec_l22Path.l0 k x0 (wrap64 (x3 + 1))) else (some false))) else (none)) else (none)) else (spec_l22Path.l0 k x0 (wrap64 (x3 + 1)))) else (some false))) else (none)) else ((spec_l6In.f (x0.length : Int) 1 400).bind fun t101 => (some t101))
def spec_l22Path.f (k : Nat) (l0 : List (S38)) : Option (Bool) := spec_l22Path.l0 k l0 0
theorem spec_l22Path.mono_l : ∀ k, (∀ y0 y1, LeO (spec_l22Path.l0 k y0 y1) (spec_l22Path.l0 (k + 1) y0 y1))
  | 0 => fun _ _ r h => by simp [spec_l22Path.l0] at h
  | k + 1 => by
    have ih0 := spec_l22Path.mono_l k
    · intro y0 y1
      unfold spec_l22Path.l0
      repeat' first
      | (with_reducible exact ih0 _ _)
      | (with_reducible exact LeO.refl _)
      | (with_reducible exact LeO.none _)
      | (with_reducible refine LeO.ite ?_ ?_)
      | (with_reducible refine LeO.bind ?_ (fun _ => ?_))
      | exact ih0 _ _
      | exact LeO.none _
      | refine LeO.ite ?_ ?_
      | refine LeO.bind ?_ (fun _ => ?_)
theorem spec_l22Path.mono : ∀ a0 k, LeO (spec_l22Path.f k a0) (spec_l22Path.f (k + 1) a0) := by
  intro a0 k
  have ih0 := spec_l22Path.mono_l k
  unfold spec_l22Path.f
  repeat' first
      | (with_reducible exact ih0 _ _)
      | (with_reducible exact LeO.refl _)
      | (with_reducible exact LeO.none _)
      | (with_reducible refine LeO.ite ?_ ?_)
      | (with_reducible refine LeO.bind ?_ (fun _ => ?_))
      | exact ih0 _ _
      | exact LeO.none _
      | refine LeO.ite ?_ ?_
      | refine LeO.bind ?_ (fun _ => ?_)
def spec_l22Path.T4 : Bool × List (List Nat × List Nat) := (true, [([], []), ([], []), ([0, 1], [0, 1]), ([2], [2]), ([3], [3]), ([4], [4]), ([5, 4], [5]), ([6], [6]), ([7, 6], [6, 7]), ([8, 6, 6], [6, 8]), ([9], [9]), ([9], [9]), ([11, 9], [9, 11]), ([10, 12, 9], [9, 10, 12]), ([13, 9], [9, 13]), ([9], [9]), ([9], [9]), ([15, 16, 9], [9, 15, 16]), ([17, 9], [9, 17]), ([14, 18, 9, 9], [9, 14, 18]), ([19, 9], [9, 19]), ([9, 20, 6], [6, 9, 20]), ([6, 21], [6, 21])])
def spec_l22Path.B4 : List Nat := [0, 0, 3, 7, 15, 31, 63, 127, 255, 511, 1023, 1023, 3071, 8191, 16383, 1023, 1023, 99327, 230399, 524287, 1048575, 2097151, 4194303]
theorem spec_l22Path.tab4 : rtab .any (opsOf Try.f27 4) = spec_l22Path.T4 := by kernel_rfl
theorem spec_l22Path.bits4 : waitsOk spec_l22Path.T4.2 spec_l22Path.B4 = true := by kernel_rfl
set_option hygiene false in
local macro "zq26_1" : term => `((by first | (with_reducible assumption) | assumption))
set_option hygiene false in
local macro "zq26_2" : term => `((by repeat (first | (with_reducible first | exact HB.out | apply below_alloc | apply pw_below_drewN | apply below_drew1) | exact HB.out)))
set_option hygiene false in
local macro "zq26_3" : term => `((by (try simp only [List.map_toArray, List.map_cons, List.map_nil]); first | done | rfl | (simp only [List.length_drop, List.length_take]; rfl)))
set_option hygiene false in
local macro "zq26_4" : term => `((by (try simp only [List.map_toArray, List.map_cons, List.map_nil]); first | done | (simp only [hji7]; rfl) | rfl | (simp only [List.length_drop, List.length_take]; rfl)))
set_option maxHeartbeats 8000000 in
set_option maxRecDepth 100000 in
theorem spec_l22Path.calls (k : Nat) (A0 : Option Addr) (c0 : Nat) (l0 : List (S38)) (r : Bool) (w : World) (hr0 : Kd.C k38 w A0 l0.length l0) (hc0 : l0.length ≤ c0) (h : spec_l22Path.f k l0 = some r) :
  Calls Try.prog 27 #[.slice A0 l0.length c0] w fun e w' => e = .returned (.bool r) ∧ Below w.heap.size w w' := by
 have hu38 := Try.underlying38
 have HR0 := Aside0.mk hr0
 have HC0 := Aside0.mk hc0
 clear hr0 hc0
 have HB := Aside0.mk (Below.refl w.heap.size w)
 have H : (spec_l22Path.l0 k l0 0) = some r := h
 clear h
 have H' := Aside0.mk H
 clear H
 go_enter Try.func27, Try.ntmps27
 go_wp2
 go_loopg [3] k (fun kq v3 w' => ∃ (x3_1 : Int), v3 = .int .i64 x3_1 ∧ Aside0 (spec_l22Path.l0 kq l0 x3_1 = some r) ∧ Aside0 (kq ≤ k) ∧ Aside0 (Below w.heap.size w w'))
 case atStart => exact ⟨(0), (by first | rfl | (simp; done) | (simp [*]; done)), H', ⟨Nat.le_refl _⟩, ⟨by repeat (first | (with_reducible first | exact HB.out | apply below_alloc | apply pw_below_drewN | apply below_drew1) | exact HB.out)⟩⟩
 case round =>
  clear H'
  obtain ⟨x3_1, rfl, HA, HK1, HB⟩ := hrel
  cases gk with
  | zero => exact absurd HA.out (by simp [spec_l22Path.l0])
  | succ k1 =>
   have H := HA.out
   clear HA
   simp only [spec_l22Path.l0] at H
   by_cases c2 : x3_1 < (l0.length : Int)
   ·rw [if_pos c2] at H
    have c2b0 : decide (x3_1 < (l0.length : Int)) = true := decide_eq_true c2
    clear c2
    by_cases c3 : 0 ≤ x3_1
    ·rw [if_pos c3] at H
     have c3b0 : decide (0 ≤ x3_1) = true := decide_eq_true c3
     clear c3
     replace H := Option.bind_eq_some_iff.mp H
     obtain ⟨t103, A40, H⟩ := H
     replace H : (if t103 = true then (if x3_1 > 0 then (if 0 ≤ (wrap64 (x3_1 - 1)) then (if (wrap64 (x3_1 - 1)) < (l0.length : Int) then ((spec_l13Beside.f ((rd_T38 l0 (wrap64 (x3_1 - 1))).f0) ((rd_T38 l0 (wrap64 (x3_1 - 1))).f1) ((rd_T38 l0 x3_1).f0) ((rd_T38 l0 x3_1).f1)).bind fun t106 => (if t106 = true then (spec_l22Path.l0 k1 l0 (wrap64 (x3_1 + 1))) else (some false))) else (none)) else (none)) else (spec_l22Path.l0 k1 l0 (wrap64 (x3_1 + 1)))) else (some false)) = some r := H
     have A4 := Aside0.mk A40
     clear A40
     by_cases c5 : t103 = true
     ·subst c5
      have H1 : (if x3_1 > 0 then (if 0 ≤ (wrap64 (x3_1 - 1)) then (if (wrap64 (x3_1 - 1)) < (l0.length : Int) then ((spec_l13Beside.f ((rd_T38 l0 (wrap64 (x3_1 - 1))).f0) ((rd_T38 l0 (wrap64 (x3_1 - 1))).f1) ((rd_T38 l0 x3_1).f0) ((rd_T38 l0 x3_1).f1)).bind fun t106 => (if t106 = true then (spec_l22Path.l0 k1 l0 (wrap64 (x3_1 + 1))) else (some false))) else (none)) else (none)) else (spec_l22Path.l0 k1 l0 (wrap64 (x3_1 + 1)))) = some r := by rw [if_pos rfl] at H; exact H
      clear H
      have H := H1
      clear H1
      by_cases c6 : x3_1 > 0
      ·rw [if_pos c6] at H
       have c6b0 : decide (0 < x3_1) = true := decide_eq_true c6
       clear c6
       obtain ⟨ji7, hji7⟩ : ∃ j_ : Int, (wrap64 (x3_1 - 1)) = j_ := ⟨_, rfl⟩
       replace H : (if 0 ≤ (ji7) then (if (ji7) < (l0.length : Int) then ((spec_l13Beside.f ((rd_T38 l0 (ji7)).f0) ((rd_T38 l0 (ji7)).f1) ((rd_T38 l0 x3_1).f0) ((rd_T38 l0 x3_1).f1)).bind fun t106 => (if t106 = true then (spec_l22Path.l0 k1 l0 (wrap64 (x3_1 + 1))) else (some false))) else (none)) else (none)) = some r := by first | (rw [hji7] at H; exact H) | (simp only [hji7] at H ⊢; exact H)
       (try rw [hji7] at A4)
       have hji7w : (IntKind.i64.wrap (x3_1 - 1)) = ji7 := (i64_w _).trans hji7
       by_cases c8 : 0 ≤ (ji7)
       ·rw [if_pos c8] at H
        have c8b0 : decide (0 ≤ (ji7)) = true := decide_eq_true c8
        clear c8
        by_cases c9 : (ji7) < (l0.length : Int)
        ·rw [if_pos c9] at H
         have c9b0 : decide ((ji7) < (l0.length : Int)) = true := decide_eq_true c9
         clear c9
         replace H := Option.bind_eq_some_iff.mp H
         obtain ⟨t106, A100, H⟩ := H
         replace H : (if t106 = true then (spec_l22Path.l0 k1 l0 (wrap64 (x3_1 + 1))) else (some false)) = some r := H
         have A10 := Aside0.mk A100
         clear A100
         by_cases c11 : t106 = true
         ·subst c11
          have H1 : (spec_l22Path.l0 k1 l0 (wrap64 (x3_1 + 1))) = some r := by rw [if_pos rfl] at H; exact H
          clear H
          have H := H1
          clear H1
          have H' := Aside0.mk H
          clear H
          try go_wp2
          have n0_ := Aside0.mk (below_drew1 HB.out)
          clear HB
          have HB := n0_
          clear n0_
          have p102 : 0 ≤ (x3_1 : Int) := of_decide_eq_true zq26_1
          have q102 : x3_1 < (l0.length : Int) := of_decide_eq_true zq26_1
          obtain ⟨ad102, e102, hx102_0, hx102_1⟩ := at_T38 HR0.out x3_1 p102 q102
          have hw102_1 := hx102_1
          have hw102_0 := hx102_0
          cases e102
          replace hx102_0 := (HB.out.cell (World.block_lt_of_cell? w _ hx102_0)).trans hx102_0
          replace hx102_1 := (HB.out.cell (World.block_lt_of_cell? w _ hx102_1)).trans hx102_1
          replace p102 := eq_true p102
          replace q102 := eq_true q102
          have p104 : 0 ≤ ((ji7) : Int) := of_decide_eq_true zq26_1
          have q104 : (ji7) < (l0.length : Int) := of_decide_eq_true zq26_1
          obtain ⟨ad104, e104, hx104_0, hx104_1⟩ := at_T38 HR0.out (ji7) p104 q104
          have hw104_1 := hx104_1
          have hw104_0 := hx104_0
          obtain rfl : ad102 = ad104 := (by injection e104)
          replace hx104_0 := (HB.out.cell (World.block_lt_of_cell? w _ hx104_0)).trans hx104_0
          replace hx104_1 := (HB.out.cell (World.block_lt_of_cell? w _ hx104_1)).trans hx104_1
          replace p104 := eq_true p104
          replace q104 := eq_true q104
          have p105 : 0 ≤ (x3_1 : Int) := of_decide_eq_true zq26_1
          have q105 : x3_1 < (l0.length : Int) := of_decide_eq_true zq26_1
          obtain ⟨ad105, e105, hx105_0, hx105_1⟩ := at_T38 HR0.out x3_1 p105 q105
          have hw105_1 := hx105_1
          have hw105_0 := hx105_0
          obtain rfl : ad102 = ad105 := (by injection e105)
          replace hx105_0 := (HB.out.cell (World.block_lt_of_cell? w _ hx105_0)).trans hx105_0
          replace hx105_1 := (HB.out.cell (World.block_lt_of_cell? w _ hx105_1)).trans hx105_1
          replace p105 := eq_true p105
          replace q105 := eq_true q105
          refine start_ (n := 23) (S := fun w' => w'.cell? (ad102.add ((x3_1).toNat * 2)) = some (.int .i64 ((rd_T38 l0 x3_1).f0)) ∧ w'.cell? ⟨(ad102.add ((x3_1).toNat * 2)).block, (ad102.add ((x3_1).toNat * 2)).off + 1, none⟩ = some (.int .i64 ((rd_T38 l0 x3_1).f1)) ∧ w'.cell? (ad102.add (((ji7)).toNat * 2)) = some (.int .i64 ((rd_T38 l0 (ji7)).f0)) ∧ w'.cell? ⟨(ad102.add (((ji7)).toNat * 2)).block, (ad102.add (((ji7)).toNat * 2)).off + 1, none⟩ = some (.int .i64 ((rd_T38 l0 (ji7)).f1)) ∧ w'.cell? (ad102.add ((x3_1).toNat * 2)) = some (.int .i64 ((rd_T38 l0 x3_1).f0)) ∧ w'.cell? ⟨(ad102.add ((x3_1).toNat * 2)).block, (ad102.add ((x3_1).toNat * 2)).off + 1, none⟩ = some (.int .i64 ((rd_T38 l0 x3_1).f1))) (ds := []) #[false, false, false, false, false, false, false, false, false, false, false, false, false, false, false, false, false, false, false, false, false, false, false] (by kernel_rfl) rfl rfl ⟨((HB.out.cell (World.block_lt_of_cell? w _ hw102_0)).trans hw102_0), ((HB.out.cell (World.block_lt_of_cell? w _ hw102_1)).trans hw102_1), ((HB.out.cell (World.block_lt_of_cell? w _ hw104_0)).trans hw104_0), ((HB.out.cell (World.block_lt_of_cell? w _ hw104_1)).trans hw104_1), ((HB.out.cell (World.block_lt_of_cell? w _ hw105_0)).trans hw105_0), ((HB.out.cell (World.block_lt_of_cell? w _ hw105_1)).trans hw105_1)⟩ (fun hHeld => ?_); refine with_tabW spec_l22Path.tab4 spec_l22Path.bits4 (fun HT_ HW_ => ?_)
          generalize wr.drew = w12 at HB hx102_0 hx102_1 hx104_0 hx104_1 hx105_0 hx105_1 hHeld ⊢
          refine pure_ (i := 0) (N := some 10) (v := ?_) (a' := ?_) #[true, false, false, false, false, false, false, false, false, false, false, false, false, false, false, false, false, false, false, false, false, false, false] rfl rfl (any_of HT_.out (by kernel_rfl)) (fun _ _ _ h => h) (Or.inl ⟨by rfl, ?_⟩) ?_ ?_
          rotate_left
          ·intro w'
           go_simp
           with_reducible rfl
          rotate_left
          ·simp only [Act.put, List.setIfInBounds_toArray, List.set_cons_zero, List.set_cons_succ, i64_w, i32_w]
           rfl
          refine pure_ (i := 1) (N := some 11) (v := ?_) (a' := ?_) #[true, true, false, false, false, false, false, false, false, false, false, false, false, false, false, false, false, false, false, false, false, false, false] rfl rfl (any_of HT_.out (by kernel_rfl)) (fun _ _ _ h => h) (Or.inl ⟨by rfl, ?_⟩) ?_ ?_
          rotate_left
          ·intro w'
           go_simp
           with_reducible rfl
          rotate_left
          ·simp only [Act.put, List.setIfInBounds_toArray, List.set_cons_zero, List.set_cons_succ, i64_w, i32_w]
           rfl
          refine pure_ (i := 2) (N := some 12) (v := ?_) (a' := ?_) #[true, true, true, false, false, false, false, false, false, false, false, false, false, false, false, false, false, false, false, false, false, false, false] rfl rfl (any_of HT_.out (by kernel_rfl)) (fun _ _ _ h => h) (Or.inl ⟨by rfl, ?_⟩) ?_ ?_
          rotate_left
          ·intro w'
           go_simp
           with_reducible rfl
          rotate_left
          ·simp only [Act.put, List.setIfInBounds_toArray, List.set_cons_zero, List.set_cons_succ, i64_w, i32_w]
           rfl
          refine take_ (i := 3) (N := some 13) (v := ?_) (a' := ?_) #[true, true, true, true, false, false, false, false, false, false, false, false, false, false, false, false, false, false, false, false, false, false, false] rfl rfl (take_ofW HT_.out HW_.out (by kernel_rfl)) (fun _ _ _ h => h) (Or.inl ⟨by rfl, ?_⟩) hHeld ?_ ?_
          rotate_left
          ·rintro w' ⟨s0, s1, s2, s3, s4, s5⟩
           go_simp
           with_reducible rfl
          rotate_left
          ·simp only [Act.put, List.setIfInBounds_toArray, List.set_cons_zero, List.set_cons_succ, i64_w, i32_w]
           rfl
          refine one_ (i := 4) (N := some 14) #[true, true, true, true, true, false, false, false, false, false, false, false, false, false, false, false, false, false, false, false, false, false, false] rfl rfl (one_of HT_.out (by kernel_rfl)) (by decide) (fun K hK => ?_)
          refine goes_ Try.func43 (by kernel_rfl) rfl #[.agg #[.int .i64 ((rd_T38 l0 x3_1).f0), .int .i64 ((rd_T38 l0 x3_1).f1)]] (by rfl) rfl rfl zq26_3 ?_
          with_reducible refine (spec_PtOk.calls ((rd_T38 l0 x3_1).f0) ((rd_T38 l0 x3_1).f1) true _ A4.out).mono ?_
          rintro e w13 ⟨rfl, hb⟩
          refine ⟨_, rfl, ?_⟩
          have n0_ := Aside0.mk (below_step zq26_2 hb)
          clear HB
          have HB := n0_
          clear n0_
          (try clear hb)
          (try clear hb2)
          (try clear hk)
          (try clear hi)
          refine hK.out _ _ ⟨((HB.out.cell (World.block_lt_of_cell? w _ hw102_0)).trans hw102_0), ((HB.out.cell (World.block_lt_of_cell? w _ hw102_1)).trans hw102_1), ((HB.out.cell (World.block_lt_of_cell? w _ hw104_0)).trans hw104_0), ((HB.out.cell (World.block_lt_of_cell? w _ hw104_1)).trans hw104_1), ((HB.out.cell (World.block_lt_of_cell? w _ hw105_0)).trans hw105_0), ((HB.out.cell (World.block_lt_of_cell? w _ hw105_1)).trans hw105_1)⟩ (fun hHeld => ?_)
          clear hK K
          refine norm_ (a' := ?_) ?_ ?_
          rotate_left
          ·show Act.put _ (some 14) _ = _
           simp only [Act.put, List.setIfInBounds_toArray, List.set_cons_zero, List.set_cons_succ, i64_w, i32_w]
           rfl
          refine pure_ (i := 5) (N := some 15) (v := ?_) (a' := ?_) #[true, true, true, true, true, true, false, false, false, false, false, false, false, false, false, false, false, false, false, false, false, false, false] rfl rfl (any_of HT_.out (by kernel_rfl)) (fun _ _ _ h => h) (Or.inl ⟨by rfl, ?_⟩) ?_ ?_
          rotate_left
          ·intro w'
           go_simp
           with_reducible rfl
          rotate_left
          ·simp only [Act.put, List.setIfInBounds_toArray, List.set_cons_zero, List.set_cons_succ, i64_w, i32_w]
           rfl
          refine pure_ (i := 6) (N := some 16) (v := ?_) (a' := ?_) #[true, true, true, true, true, true, true, false, false, false, false, false, false, false, false, false, false, false, false, false, false, false, false] rfl rfl (any_of HT_.out (by kernel_rfl)) (fun _ _ _ h => h) (Or.inl ⟨by rfl, ?_⟩) ?_ ?_
          rotate_left
          ·intro w'
           go_simp
           with_reducible rfl
          rotate_left
          ·simp only [Act.put, List.setIfInBounds_toArray, List.set_cons_zero, List.set_cons_succ, i64_w, i32_w]
           rfl
          refine pure_ (i := 7) (N := some 17) (v := ?_) (a' := ?_) #[true, true, true, true, true, true, true, true, false, false, false, false, false, false, false, false, false, false, false, false, false, false, false] rfl rfl (any_of HT_.out (by kernel_rfl)) (fun _ _ _ h => h) (Or.inl ⟨by rfl, ?_⟩) ?_ ?_
          rotate_left
          ·intro w'
           go_simp
           with_reducible rfl
          rotate_left
          ·simp only [Act.put, List.setIfInBounds_toArray, List.set_cons_zero, List.set_cons_succ, i64_w, i32_w]
           rfl
          refine pure_ (i := 8) (N := some 18) (v := ?_) (a' := ?_) #[true, true, true, true, true, true, true, true, true, false, false, false, false, false, false, false, false, false, false, false, false, false, false] rfl rfl (any_of HT_.out (by kernel_rfl)) (fun _ _ _ h => h) (Or.inl ⟨by rfl, ?_⟩) ?_ ?_
          rotate_left
          ·intro w'
           go_simp
           with_reducible rfl
          rotate_left
          ·simp only [Act.put, List.setIfInBounds_toArray, List.set_cons_zero, List.set_cons_succ, i64_w, i32_w]
           rfl
          refine pure_ (i := 9) (N := some 19) (v := ?_) (a' := ?_) #[true, true, true, true, true, true, true, true, true, true, false, false, false, false, false, false, false, false, false, false, false, false, false] rfl rfl (any_of HT_.out (by kernel_rfl)) (fun _ _ _ h => h) (Or.inl ⟨by rfl, ?_⟩) ?_ ?_
          rotate_left
          ·intro w'
           go_simp
           with_reducible rfl
          rotate_left
          ·simp only [Act.put, List.setIfInBounds_toArray, List.set_cons_zero, List.set_cons_succ, i64_w, i32_w]
           rfl
          refine pure_ (i := 10) (N := some 20) (v := ?_) (a' := ?_) #[true, true, true, true, true, true, true, true, true, true, true, false, false, false, false, false, false, false, false, false, false, false, false] rfl rfl (any_of HT_.out (by kernel_rfl)) (fun _ _ _ h => h) (Or.inl ⟨by rfl, ?_⟩) ?_ ?_
          rotate_left
          ·intro w'
           go_simp
           with_reducible rfl
          rotate_left
          ·simp only [Act.put, List.setIfInBounds_toArray, List.set_cons_zero, List.set_cons_succ, i64_w, i32_w]
           rfl
          refine pure_ (i := 11) (N := some 21) (v := ?_) (a' := ?_) #[true, true, true, true, true, true, true, true, true, true, true, true, false, false, false, false, false, false, false, false, false, false, false] rfl rfl (any_of HT_.out (by kernel_rfl)) (fun _ _ _ h => h) (Or.inl ⟨by rfl, ?_⟩) ?_ ?_
          rotate_left
          ·intro w'
           go_simp
           with_reducible rfl
          rotate_left
          ·simp only [Act.put, List.setIfInBounds_toArray, List.set_cons_zero, List.set_cons_succ, i64_w, i32_w]
           rfl
          refine pure_ (i := 12) (N := some 22) (v := ?_) (a' := ?_) #[true, true, true, true, true, true, true, true, true, true, true, true, true, false, false, false, false, false, false, false, false, false, false] rfl rfl (any_of HT_.out (by kernel_rfl)) (fun _ _ _ h => h) (Or.inl ⟨by rfl, ?_⟩) ?_ ?_
          rotate_left
          ·intro w'
           go_simp
           with_reducible rfl
          rotate_left
          ·simp only [Act.put, List.setIfInBounds_toArray, List.set_cons_zero, List.set_cons_succ, i64_w, i32_w]
           rfl
          refine pure_ (i := 13) (N := some 23) (v := ?_) (a' := ?_) #[true, true, true, true, true, true, true, true, true, true, true, true, true, true, false, false, false, false, false, false, false, false, false] rfl rfl (any_of HT_.out (by kernel_rfl)) (fun _ _ _ h => h) (Or.inl ⟨by rfl, ?_⟩) ?_ ?_
          rotate_left
          ·intro w'
           go_simp
           with_reducible rfl
          rotate_left
          ·simp only [Act.put, List.setIfInBounds_toArray, List.set_cons_zero, List.set_cons_succ, i64_w, i32_w]
           rfl
          refine pure_ (i := 15) (N := some 25) (v := ?_) (a' := ?_) #[true, true, true, true, true, true, true, true, true, true, true, true, true, true, false, true, false, false, false, false, false, false, false] rfl rfl (any_of HT_.out (by kernel_rfl)) (fun _ _ _ h => h) (Or.inl ⟨by rfl, ?_⟩) ?_ ?_
          rotate_left
          ·intro w'
           go_simp
           with_reducible rfl
          rotate_left
          ·simp only [Act.put, List.setIfInBounds_toArray, List.set_cons_zero, List.set_cons_succ, i64_w, i32_w]
           rfl
          refine pure_ (i := 16) (N := some 26) (v := ?_) (a' := ?_) #[true, true, true, true, true, true, true, true, true, true, true, true, true, true, false, true, true, false, false, false, false, false, false] rfl rfl (any_of HT_.out (by kernel_rfl)) (fun _ _ _ h => h) (Or.inl ⟨by rfl, ?_⟩) ?_ ?_
          rotate_left
          ·intro w'
           go_simp
           with_reducible rfl
          rotate_left
          ·simp only [Act.put, List.setIfInBounds_toArray, List.set_cons_zero, List.set_cons_succ, i64_w, i32_w]
           rfl
          refine pure_ (i := 17) (N := some 27) (v := ?_) (a' := ?_) #[true, true, true, true, true, true, true, true, true, true, true, true, true, true, false, true, true, true, false, false, false, false, false] rfl rfl (any_of HT_.out (by kernel_rfl)) (fun _ _ _ h => h) (Or.inl ⟨by rfl, ?_⟩) ?_ ?_
          rotate_left
          ·intro w'
           go_simp
           with_reducible rfl
          rotate_left
          ·simp only [Act.put, List.setIfInBounds_toArray, List.set_cons_zero, List.set_cons_succ, i64_w, i32_w]
           rfl
          refine take_ (i := 14) (N := some 24) (v := ?_) (a' := ?_) #[true, true, true, true, true, true, true, true, true, true, true, true, true, true, true, true, true, true, false, false, false, false, false] rfl rfl (take_ofW HT_.out HW_.out (by kernel_rfl)) (fun _ _ _ h => h) (Or.inl ⟨by rfl, ?_⟩) hHeld ?_ ?_
          rotate_left
          ·rintro w' ⟨s0, s1, s2, s3, s4, s5⟩
           go_simp
           with_reducible rfl
          rotate_left
          ·simp only [Act.put, List.setIfInBounds_toArray, List.set_cons_zero, List.set_cons_succ, i64_w, i32_w]
           rfl
          refine take_ (i := 18) (N := some 28) (v := ?_) (a' := ?_) #[true, true, true, true, true, true, true, true, true, true, true, true, true, true, true, true, true, true, true, false, false, false, false] rfl rfl (take_ofW HT_.out HW_.out (by kernel_rfl)) (fun _ _ _ h => h) (Or.inl ⟨by rfl, ?_⟩) hHeld ?_ ?_
          rotate_left
          ·rintro w' ⟨s0, s1, s2, s3, s4, s5⟩
           go_simp
           with_reducible rfl
          rotate_left
          ·simp only [Act.put, List.setIfInBounds_toArray, List.set_cons_zero, List.set_cons_succ, i64_w, i32_w]
           rfl
          refine one_ (i := 19) (N := some 29) #[true, true, true, true, true, true, true, true, true, true, true, true, true, true, true, true, true, true, true, true, false, false, false] rfl rfl (one_of HT_.out (by kernel_rfl)) (by decide) (fun K hK => ?_)
          refine goes_ Try.func44 (by kernel_rfl) rfl #[.agg #[.int .i64 ((rd_T38 l0 (ji7)).f0), .int .i64 ((rd_T38 l0 (ji7)).f1)], .agg #[.int .i64 ((rd_T38 l0 x3_1).f0), .int .i64 ((rd_T38 l0 x3_1).f1)]] (by rfl) rfl rfl zq26_4 ?_
          with_reducible refine (spec_l13Beside.calls ((rd_T38 l0 (ji7)).f0) ((rd_T38 l0 (ji7)).f1) ((rd_T38 l0 x3_1).f0) ((rd_T38 l0 x3_1).f1) true _ A10.out).mono ?_
          rintro e w14 ⟨rfl, hb⟩
          refine ⟨_, rfl, ?_⟩
          have n0_ := Aside0.mk (below_step zq26_2 hb)
          clear HB
          have HB := n0_
          clear n0_
          (try clear hb)
          (try clear hb2)
          (try clear hk)
          (try clear hi)
          refine hK.out _ _ ⟨((HB.out.cell (World.block_lt_of_cell? w _ hw102_0)).trans hw102_0), ((HB.out.cell (World.block_lt_of_cell? w _ hw102_1)).trans hw102_1), ((HB.out.cell (World.block_lt_of_cell? w _ hw104_0)).trans hw104_0), ((HB.out.cell (World.block_lt_of_cell? w _ hw104_1)).trans hw104_1), ((HB.out.cell (World.block_lt_of_cell? w _ hw105_0)).trans hw105_0), ((HB.out.cell (World.block_lt_of_cell? w _ hw105_1)).trans hw105_1)⟩ (fun hHeld => ?_)
          clear hK K
          refine norm_ (a' := ?_) ?_ ?_
          rotate_left
          ·show Act.put _ (some 29) _ = _
           simp only [Act.put, List.setIfInBounds_toArray, List.set_cons_zero, List.set_cons_succ, i64_w, i32_w]
           rfl
          refine pure_ (i := 20) (N := some 30) (v := ?_) (a' := ?_) #[true, true, true, true, true, true, true, true, true, true, true, true, true, true, true, true, true, true, true, true, true, false, false] rfl rfl (any_of HT_.out (by kernel_rfl)) (fun _ _ _ h => h) (Or.inl ⟨by rfl, ?_⟩) ?_ ?_
          rotate_left
          ·intro w'
           go_simp
           with_reducible rfl
          rotate_left
          ·simp only [Act.put, List.setIfInBounds_toArray, List.set_cons_zero, List.set_cons_succ, i64_w, i32_w]
           rfl
          refine pure_ (i := 21) (N := some 31) (v := ?_) (a' := ?_) #[true, true, true, true, true, true, true, true, true, true, true, true, true, true, true, true, true, true, true, true, true, true, false] rfl rfl (any_of HT_.out (by kernel_rfl)) (fun _ _ _ h => h) (Or.inl ⟨by rfl, ?_⟩) ?_ ?_
          rotate_left
          ·intro w'
           go_simp
           with_reducible rfl
          rotate_left
          ·simp only [Act.put, List.setIfInBounds_toArray, List.set_cons_zero, List.set_cons_succ, i64_w, i32_w]
           rfl
          refine pure_ (i := 22) (N := some 32) (v := ?_) (a' := ?_) #[true, true, true, true, true, true, true, true, true, true, true, true, true, true, true, true, true, true, true, true, true, true, true] rfl rfl (any_of HT_.out (by kernel_rfl)) (fun _ _ _ h => h) (Or.inl ⟨by rfl, ?_⟩) ?_ ?_
          rotate_left
          ·intro w'
           go_simp
           with_reducible rfl
          rotate_left
          ·simp only [Act.put, List.setIfInBounds_toArray, List.set_cons_zero, List.set_cons_succ, i64_w, i32_w]
           rfl
          refine done_ (done_of HT_.out (by kernel_rfl)) ?_
          try go_wp2
          go_roundg k1
          case measure => have := HK1.out; omega
          case rel => exact ⟨(wrap64 (x3_1 + 1)), (by first | rfl | (simp; done) | (simp [*]; done)), H', ⟨by have := HK1.out; omega⟩, ⟨by repeat (first | (with_reducible first | exact HB.out | apply below_alloc | apply pw_below_drewN | apply below_drew1) | exact HB.out)⟩⟩
         ·replace c11 := Bool.eq_false_iff.mpr c11
          subst c11
          have H1 : (some false) = some r := by rw [if_neg (show ¬ (false = true) by decide)] at H; exact H
          clear H
          have H := H1
          clear H1
          obtain rfl := Option.some.inj H
          try go_wp2
          have n0_ := Aside0.mk (below_drew1 HB.out)
          clear HB
          have HB := n0_
          clear n0_
          have p102 : 0 ≤ (x3_1 : Int) := of_decide_eq_true zq26_1
          have q102 : x3_1 < (l0.length : Int) := of_decide_eq_true zq26_1
          obtain ⟨ad102, e102, hx102_0, hx102_1⟩ := at_T38 HR0.out x3_1 p102 q102
          have hw102_1 := hx102_1
          have hw102_0 := hx102_0
          cases e102
          replace hx102_0 := (HB.out.cell (World.block_lt_of_cell? w _ hx102_0)).trans hx102_0
          replace hx102_1 := (HB.out.cell (World.block_lt_of_cell? w _ hx102_1)).trans hx102_1
          replace p102 := eq_true p102
          replace q102 := eq_true q102
          have p104 : 0 ≤ ((ji7) : Int) := of_decide_eq_true zq26_1
          have q104 : (ji7) < (l0.length : Int) := of_decide_eq_true zq26_1
          obtain ⟨ad104, e104, hx104_0, hx104_1⟩ := at_T38 HR0.out (ji7) p104 q104
          have hw104_1 := hx104_1
          have hw104_0 := hx104_0
          obtain rfl : ad102 = ad104 := (by injection e104)
          replace hx104_0 := (HB.out.cell (World.block_lt_of_cell? w _ hx104_0)).trans hx104_0
          replace hx104_1 := (HB.out.cell (World.block_lt_of_cell? w _ hx104_1)).trans hx104_1
          replace p104 := eq_true p104
          replace q104 := eq_true q104
          have p105 : 0 ≤ (x3_1 : Int) := of_decide_eq_true zq26_1
          have q105 : x3_1 < (l0.length : Int) := of_decide_eq_true zq26_1
          obtain ⟨ad105, e105, hx105_0, hx105_1⟩ := at_T38 HR0.out x3_1 p105 q105
          have hw105_1 := hx105_1
          have hw105_0 := hx105_0
          obtain rfl : ad102 = ad105 := (by injection e105)
          replace hx105_0 := (HB.out.cell (World.block_lt_of_cell? w _ hx105_0)).trans hx105_0
          replace hx105_1 := (HB.out.cell (World.block_lt_of_cell? w _ hx105_1)).trans hx105_1
          replace p105 := eq_true p105
          replace q105 := eq_true q105
          refine start_ (n := 23) (S := fun w' => w'.cell? (ad102.add ((x3_1).toNat * 2)) = some (.int .i64 ((rd_T38 l0 x3_1).f0)) ∧ w'.cell? ⟨(ad102.add ((x3_1).toNat * 2)).block, (ad102.add ((x3_1).toNat * 2)).off + 1, none⟩ = some (.int .i64 ((rd_T38 l0 x3_1).f1)) ∧ w'.cell? (ad102.add (((ji7)).toNat * 2)) = some (.int .i64 ((rd_T38 l0 (ji7)).f0)) ∧ w'.cell? ⟨(ad102.add (((ji7)).toNat * 2)).block, (ad102.add (((ji7)).toNat * 2)).off + 1, none⟩ = some (.int .i64 ((rd_T38 l0 (ji7)).f1)) ∧ w'.cell? (ad102.add ((x3_1).toNat * 2)) = some (.int .i64 ((rd_T38 l0 x3_1).f0)) ∧ w'.cell? ⟨(ad102.add ((x3_1).toNat * 2)).block, (ad102.add ((x3_1).toNat * 2)).off + 1, none⟩ = some (.int .i64 ((rd_T38 l0 x3_1).f1))) (ds := []) #[false, false, false, false, false, false, false, false, false, false, false, false, false, false, false, false, false, false, false, false, false, false, false] (by kernel_rfl) rfl rfl ⟨((HB.out.cell (World.block_lt_of_cell? w _ hw102_0)).trans hw102_0), ((HB.out.cell (World.block_lt_of_cell? w _ hw102_1)).trans hw102_1), ((HB.out.cell (World.block_lt_of_cell? w _ hw104_0)).trans hw104_0), ((HB.out.cell (World.block_lt_of_cell? w _ hw104_1)).trans hw104_1), ((HB.out.cell (World.block_lt_of_cell? w _ hw105_0)).trans hw105_0), ((HB.out.cell (World.block_lt_of_cell? w _ hw105_1)).trans hw105_1)⟩ (fun hHeld => ?_); refine with_tabW spec_l22Path.tab4 spec_l22Path.bits4 (fun HT_ HW_ => ?_)
          generalize wr.drew = w15 at HB hx102_0 hx102_1 hx104_0 hx104_1 hx105_0 hx105_1 hHeld ⊢
          refine pure_ (i := 0) (N := some 10) (v := ?_) (a' := ?_) #[true, false, false, false, false, false, false, false, false, false, false, false, false, false, false, false, false, false, false, false, false, false, false] rfl rfl (any_of HT_.out (by kernel_rfl)) (fun _ _ _ h => h) (Or.inl ⟨by rfl, ?_⟩) ?_ ?_
          rotate_left
          ·intro w'
           go_simp
           with_reducible rfl
          rotate_left
          ·simp only [Act.put, List.setIfInBounds_toArray, List.set_cons_zero, List.set_cons_succ, i64_w, i32_w]
           rfl
          refine pure_ (i := 1) (N := some 11) (v := ?_) (a' := ?_) #[true, true, false, false, false, false, false, false, false, false, false, false, false, false, false, false, false, false, false, false, false, false, false] rfl rfl (any_of HT_.out (by kernel_rfl)) (fun _ _ _ h => h) (Or.inl ⟨by rfl, ?_⟩) ?_ ?_
          rotate_left
          ·intro w'
           go_simp
           with_reducible rfl
          rotate_left
          ·simp only [Act.put, List.setIfInBounds_toArray, List.set_cons_zero, List.set_cons_succ, i64_w, i32_w]
           rfl
          refine pure_ (i := 2) (N := some 12) (v := ?_) (a' := ?_) #[true, true, true, false, false, false, false, false, false, false, false, false, false, false, false, false, false, false, false, false, false, false, false] rfl rfl (any_of HT_.out (by kernel_rfl)) (fun _ _ _ h => h) (Or.inl ⟨by rfl, ?_⟩) ?_ ?_
          rotate_left
          ·intro w'
           go_simp
           with_reducible rfl
          rotate_left
          ·simp only [Act.put, List.setIfInBounds_toArray, List.set_cons_zero, List.set_cons_succ, i64_w, i32_w]
           rfl
          refine take_ (i := 3) (N := some 13) (v := ?_) (a' := ?_) #[true, true, true, true, false, false, false, false, false, false, false, false, false, false, false, false, false, false, false, false, false, false, false] rfl rfl (take_ofW HT_.out HW_.out (by kernel_rfl)) (fun _ _ _ h => h) (Or.inl ⟨by rfl, ?_⟩) hHeld ?_ ?_
          rotate_left
          ·rintro w' ⟨s0, s1, s2, s3, s4, s5⟩
           go_simp
           with_reducible rfl
          rotate_left
          ·simp only [Act.put, List.setIfInBounds_toArray, List.set_cons_zero, List.set_cons_succ, i64_w, i32_w]
           rfl
          refine one_ (i := 4) (N := some 14) #[true, true, true, true, true, false, false, false, false, false, false, false, false, false, false, false, false, false, false, false, false, false, false] rfl rfl (one_of HT_.out (by kernel_rfl)) (by decide) (fun K hK => ?_)
          refine goes_ Try.func43 (by kernel_rfl) rfl #[.agg #[.int .i64 ((rd_T38 l0 x3_1).f0), .int .i64 ((rd_T38 l0 x3_1).f1)]] (by rfl) rfl rfl zq26_3 ?_
          with_reducible refine (spec_PtOk.calls ((rd_T38 l0 x3_1).f0) ((rd_T38 l0 x3_1).f1) true _ A4.out).mono ?_
          rintro e w16 ⟨rfl, hb⟩
          refine ⟨_, rfl, ?_⟩
          have n0_ := Aside0.mk (below_step zq26_2 hb)
          clear HB
          have HB := n0_
          clear n0_
          (try clear hb)
          (try clear hb2)
          (try clear hk)
          (try clear hi)
          refine hK.out _ _ ⟨((HB.out.cell (World.block_lt_of_cell? w _ hw102_0)).trans hw102_0), ((HB.out.cell (World.block_lt_of_cell? w _ hw102_1)).trans hw102_1), ((HB.out.cell (World.block_lt_of_cell? w _ hw104_0)).trans hw104_0), ((HB.out.cell (World.block_lt_of_cell? w _ hw104_1)).trans hw104_1), ((HB.out.cell (World.block_lt_of_cell? w _ hw105_0)).trans hw105_0), ((HB.out.cell (World.block_lt_of_cell? w _ hw105_1)).trans hw105_1)⟩ (fun hHeld => ?_)
          clear hK K
          refine norm_ (a' := ?_) ?_ ?_
          rotate_left
          ·show Act.put _ (some 14) _ = _
           simp only [Act.put, List.setIfInBounds_toArray, List.set_cons_zero, List.set_cons_succ, i64_w, i32_w]
           rfl
          refine pure_ (i := 5) (N := some 15) (v := ?_) (a' := ?_) #[true, true, true, true, true, true, false, false, false, false, false, false, false, false, false, false, false, false, false, false, false, false, false] rfl rfl (any_of HT_.out (by kernel_rfl)) (fun _ _ _ h => h) (Or.inl ⟨by rfl, ?_⟩) ?_ ?_
          rotate_left
          ·intro w'
           go_simp
           with_reducible rfl
          rotate_left
          ·simp only [Act.put, List.setIfInBounds_toArray, List.set_cons_zero, List.set_cons_succ, i64_w, i32_w]
           rfl
          refine pure_ (i := 6) (N := some 16) (v := ?_) (a' := ?_) #[true, true, true, true, true, true, true, false, false, false, false, false, false, false, false, false, false, false, false, false, false, false, false] rfl rfl (any_of HT_.out (by kernel_rfl)) (fun _ _ _ h => h) (Or.inl ⟨by rfl, ?_⟩) ?_ ?_
          rotate_left
          ·intro w'
           go_simp
           with_reducible rfl
          rotate_left
          ·simp only [Act.put, List.setIfInBounds_toArray, List.set_cons_zero, List.set_cons_succ, i64_w, i32_w]
           rfl
          refine pure_ (i := 7) (N := some 17) (v := ?_) (a' := ?_) #[true, true, true, true, true, true, true, true, false, false, false, false, false, false, false, false, false, false, false, false, false, false, false] rfl rfl (any_of HT_.out (by kernel_rfl)) (fun _ _ _ h => h) (Or.inl ⟨by rfl, ?_⟩) ?_ ?_
          rotate_left
          ·intro w'
           go_simp
           with_reducible rfl
          rotate_left
          ·simp only [Act.put, List.setIfInBounds_toArray, List.set_cons_zero, List.set_cons_succ, i64_w, i32_w]
           rfl
          refine pure_ (i := 8) (N := some 18) (v := ?_) (a' := ?_) #[true, true, true, true, true, true, true, true, true, false, false, false, false, false, false, false, false, false, false, false, false, false, false] rfl rfl (any_of HT_.out (by kernel_rfl)) (fun _ _ _ h => h) (Or.inl ⟨by rfl, ?_⟩) ?_ ?_
          rotate_left
          ·intro w'
           go_simp
           with_reducible rfl
          rotate_left
          ·simp only [Act.put, List.setIfInBounds_toArray, List.set_cons_zero, List.set_cons_succ, i64_w, i32_w]
           rfl
          refine pure_ (i := 9) (N := some 19) (v := ?_) (a' := ?_) #[true, true, true, true, true, true, true, true, true, true, false, false, false, false, false, false, false, false, false, false, false, false, false] rfl rfl (any_of HT_.out (by kernel_rfl)) (fun _ _ _ h => h) (Or.inl ⟨by rfl, ?_⟩) ?_ ?_
          rotate_left
          ·intro w'
           go_simp
           with_reducible rfl
          rotate_left
          ·simp only [Act.put, List.setIfInBounds_toArray, List.set_cons_zero, List.set_cons_succ, i64_w, i32_w]
           rfl
          refine pure_ (i := 10) (N := some 20) (v := ?_) (a' := ?_) #[true, true, true, true, true, true, true, true, true, true, true, false, false, false, false, false, false, false, false, false, false, false, false] rfl rfl (any_of HT_.out (by kernel_rfl)) (fun _ _ _ h => h) (Or.inl ⟨by rfl, ?_⟩) ?_ ?_
          rotate_left
          ·intro w'
           go_simp
           with_reducible rfl
          rotate_left
          ·simp only [Act.put, List.setIfInBounds_toArray, List.set_cons_zero, List.set_cons_succ, i64_w, i32_w]
           rfl
          refine pure_ (i := 11) (N := some 21) (v := ?_) (a' := ?_) #[true, true, true, true, true, true, true, true, true, true, true, true, false, false, false, false, false, false, false, false, false, false, false] rfl rfl (any_of HT_.out (by kernel_rfl)) (fun _ _ _ h => h) (Or.inl ⟨by rfl, ?_⟩) ?_ ?_
          rotate_left
          ·intro w'
           go_simp
           with_reducible rfl
          rotate_left
          ·simp only [Act.put, List.setIfInBounds_toArray, List.set_cons_zero, List.set_cons_succ, i64_w, i32_w]
           rfl
          refine pure_ (i := 12) (N := some 22) (v := ?_) (a' := ?_) #[true, true, true, true, true, true, true, true, true, true, true, true, true, false, false, false, false, false, false, false, false, false, false] rfl rfl (any_of HT_.out (by kernel_rfl)) (fun _ _ _ h => h) (Or.inl ⟨by rfl, ?_⟩) ?_ ?_
          rotate_left
          ·intro w'
           go_simp
           with_reducible rfl
          rotate_left
          ·simp only [Act.put, List.setIfInBounds_toArray, List.set_cons_zero, List.set_cons_succ, i64_w, i32_w]
           rfl
          refine pure_ (i := 13) (N := some 23) (v := ?_) (a' := ?_) #[true, true, true, true, true, true, true, true, true, true, true, true, true, true, false, false, false, false, false, false, false, false, false] rfl rfl (any_of HT_.out (by kernel_rfl)) (fun _ _ _ h => h) (Or.inl ⟨by rfl, ?_⟩) ?_ ?_
          rotate_left
          ·intro w'
           go_simp
           with_reducible rfl
          rotate_left
          ·simp only [Act.put, List.setIfInBounds_toArray, List.set_cons_zero, List.set_cons_succ, i64_w, i32_w]
           rfl
          refine pure_ (i := 15) (N := some 25) (v := ?_) (a' := ?_) #[true, true, true, true, true, true, true, true, true, true, true, true, true, true, false, true, false, false, false, false, false, false, false] rfl rfl (any_of HT_.out (by kernel_rfl)) (fun _ _ _ h => h) (Or.inl ⟨by rfl, ?_⟩) ?_ ?_
          rotate_left
          ·intro w'
           go_simp
           with_reducible rfl
          rotate_left
          ·simp only [Act.put, List.setIfInBounds_toArray, List.set_cons_zero, List.set_cons_succ, i64_w, i32_w]
           rfl
          refine pure_ (i := 16) (N := some 26) (v := ?_) (a' := ?_) #[true, true, true, true, true, true, true, true, true, true, true, true, true, true, false, true, true, false, false, false, false, false, false] rfl rfl (any_of HT_.out (by kernel_rfl)) (fun _ _ _ h => h) (Or.inl ⟨by rfl, ?_⟩) ?_ ?_
          rotate_left
          ·intro w'
           go_simp
           with_reducible rfl
          rotate_left
          ·simp only [Act.put, List.setIfInBounds_toArray, List.set_cons_zero, List.set_cons_succ, i64_w, i32_w]
           rfl
          refine pure_ (i := 17) (N := some 27) (v := ?_) (a' := ?_) #[true, true, true, true, true, true, true, true, true, true, true, true, true, true, false, true, true, true, false, false, false, false, false] rfl rfl (any_of HT_.out (by kernel_rfl)) (fun _ _ _ h => h) (Or.inl ⟨by rfl, ?_⟩) ?_ ?_
          rotate_left
          ·intro w'
           go_simp
           with_reducible rfl
          rotate_left
          ·simp only [Act.put, List.setIfInBounds_toArray, List.set_cons_zero, List.set_cons_succ, i64_w, i32_w]
           rfl
          refine take_ (i := 14) (N := some 24) (v := ?_) (a' := ?_) #[true, true, true, true, true, true, true, true, true, true, true, true, true, true, true, true, true, true, false, false, false, false, false] rfl rfl (take_ofW HT_.out HW_.out (by kernel_rfl)) (fun _ _ _ h => h) (Or.inl ⟨by rfl, ?_⟩) hHeld ?_ ?_
          rotate_left
          ·rintro w' ⟨s0, s1, s2, s3, s4, s5⟩
           go_simp
           with_reducible rfl
          rotate_left
          ·simp only [Act.put, List.setIfInBounds_toArray, List.set_cons_zero, List.set_cons_succ, i64_w, i32_w]
           rfl
          refine take_ (i := 18) (N := some 28) (v := ?_) (a' := ?_) #[true, true, true, true, true, true, true, true, true, true, true, true, true, true, true, true, true, true, true, false, false, false, false] rfl rfl (take_ofW HT_.out HW_.out (by kernel_rfl)) (fun _ _ _ h => h) (Or.inl ⟨by rfl, ?_⟩) hHeld ?_ ?_
          rotate_left
          ·rintro w' ⟨s0, s1, s2, s3, s4, s5⟩
           go_simp
           with_reducible rfl
          rotate_left
          ·simp only [Act.put, List.setIfInBounds_toArray, List.set_cons_zero, List.set_cons_succ, i64_w, i32_w]
           rfl
          refine one_ (i := 19) (N := some 29) #[true, true, true, true, true, true, true, true, true, true, true, true, true, true, true, true, true, true, true, true, false, false, false] rfl rfl (one_of HT_.out (by kernel_rfl)) (by decide) (fun K hK => ?_)
          refine goes_ Try.func44 (by kernel_rfl) rfl #[.agg #[.int .i64 ((rd_T38 l0 (ji7)).f0), .int .i64 ((rd_T38 l0 (ji7)).f1)], .agg #[.int .i64 ((rd_T38 l0 x3_1).f0), .int .i64 ((rd_T38 l0 x3_1).f1)]] (by rfl) rfl rfl zq26_4 ?_
          with_reducible refine (spec_l13Beside.calls ((rd_T38 l0 (ji7)).f0) ((rd_T38 l0 (ji7)).f1) ((rd_T38 l0 x3_1).f0) ((rd_T38 l0 x3_1).f1) false _ A10.out).mono ?_
          rintro e w17 ⟨rfl, hb⟩
          refine ⟨_, rfl, ?_⟩
          have n0_ := Aside0.mk (below_step zq26_2 hb)
          clear HB
          have HB := n0_
          clear n0_
          (try clear hb)
          (try clear hb2)
          (try clear hk)
          (try clear hi)
          refine hK.out _ _ ⟨((HB.out.cell (World.block_lt_of_cell? w _ hw102_0)).trans hw102_0), ((HB.out.cell (World.block_lt_of_cell? w _ hw102_1)).trans hw102_1), ((HB.out.cell (World.block_lt_of_cell? w _ hw104_0)).trans hw104_0), ((HB.out.cell (World.block_lt_of_cell? w _ hw104_1)).trans hw104_1), ((HB.out.cell (World.block_lt_of_cell? w _ hw105_0)).trans hw105_0), ((HB.out.cell (World.block_lt_of_cell? w _ hw105_1)).trans hw105_1)⟩ (fun hHeld => ?_)
          clear hK K
          refine norm_ (a' := ?_) ?_ ?_
          rotate_left
          ·show Act.put _ (some 29) _ = _
           simp only [Act.put, List.setIfInBounds_toArray, List.set_cons_zero, List.set_cons_succ, i64_w, i32_w]
           rfl
          refine pure_ (i := 20) (N := some 30) (v := ?_) (a' := ?_) #[true, true, true, true, true, true, true, true, true, true, true, true, true, true, true, true, true, true, true, true, true, false, false] rfl rfl (any_of HT_.out (by kernel_rfl)) (fun _ _ _ h => h) (Or.inl ⟨by rfl, ?_⟩) ?_ ?_
          rotate_left
          ·intro w'
           go_simp
           with_reducible rfl
          rotate_left
          ·simp only [Act.put, List.setIfInBounds_toArray, List.set_cons_zero, List.set_cons_succ, i64_w, i32_w]
           rfl
          refine pure_ (i := 21) (N := some 31) (v := ?_) (a' := ?_) #[true, true, true, true, true, true, true, true, true, true, true, true, true, true, true, true, true, true, true, true, true, true, false] rfl rfl (any_of HT_.out (by kernel_rfl)) (fun _ _ _ h => h) (Or.inl ⟨by rfl, ?_⟩) ?_ ?_
          rotate_left
          ·intro w'
           go_simp
           with_reducible rfl
          rotate_left
          ·simp only [Act.put, List.setIfInBounds_toArray, List.set_cons_zero, List.set_cons_succ, i64_w, i32_w]
           rfl
          refine pure_ (i := 22) (N := some 32) (v := ?_) (a' := ?_) #[true, true, true, true, true, true, true, true, true, true, true, true, true, true, true, true, true, true, true, true, true, true, true] rfl rfl (any_of HT_.out (by kernel_rfl)) (fun _ _ _ h => h) (Or.inl ⟨by rfl, ?_⟩) ?_ ?_
          rotate_left
          ·intro w'
           go_simp
           with_reducible rfl
          rotate_left
          ·simp only [Act.put, List.setIfInBounds_toArray, List.set_cons_zero, List.set_cons_succ, i64_w, i32_w]
           rfl
          refine done_ (done_of HT_.out (by kernel_rfl)) ?_
          try go_wp2
          go_ret
          exact ⟨by first | rfl | (simp [errW_none, errW_some] <;> rfl) | (simp only [← hji7]; first | rfl | (simp [errW_none, errW_some] <;> rfl)) | (simp [*, errW_none, errW_some] <;> rfl), by repeat (first | (with_reducible first | exact HB.out | apply below_alloc | apply pw_below_drewN | apply below_drew1) | exact HB.out)⟩
        ·rw [if_neg c9] at H
         exact absurd H (by simp)
       ·rw [if_neg c8] at H
        exact absurd H (by simp)
      ·rw [if_neg c6] at H
       have c6b0 : decide (0 < x3_1) = false := decide_eq_false c6
       clear c6
       have H' := Aside0.mk H
       clear H
       try go_wp2
       have n0_ := Aside0.mk (below_drew1 HB.out)
       clear HB
       have HB := n0_
       clear n0_
       have p102 : 0 ≤ (x3_1 : Int) := of_decide_eq_true zq26_1
       have q102 : x3_1 < (l0.length : Int) := of_decide_eq_true zq26_1
       obtain ⟨ad102, e102, hx102_0, hx102_1⟩ := at_T38 HR0.out x3_1 p102 q102
       have hw102_1 := hx102_1
       have hw102_0 := hx102_0
       cases e102
       replace hx102_0 := (HB.out.cell (World.block_lt_of_cell? w _ hx102_0)).trans hx102_0
       replace hx102_1 := (HB.out.cell (World.block_lt_of_cell? w _ hx102_1)).trans hx102_1
       replace p102 := eq_true p102
       replace q102 := eq_true q102
       refine start_ (n := 23) (S := fun w' => w'.cell? (ad102.add ((x3_1).toNat * 2)) = some (.int .i64 ((rd_T38 l0 x3_1).f0)) ∧ w'.cell? ⟨(ad102.add ((x3_1).toNat * 2)).block, (ad102.add ((x3_1).toNat * 2)).off + 1, none⟩ = some (.int .i64 ((rd_T38 l0 x3_1).f1))) (ds := []) #[false, false, false, false, false, false, false, false, false, false, false, false, false, false, false, false, false, false, false, false, false, false, false] (by kernel_rfl) rfl rfl ⟨((HB.out.cell (World.block_lt_of_cell? w _ hw102_0)).trans hw102_0), ((HB.out.cell (World.block_lt_of_cell? w _ hw102_1)).trans hw102_1)⟩ (fun hHeld => ?_); refine with_tabW spec_l22Path.tab4 spec_l22Path.bits4 (fun HT_ HW_ => ?_)
       generalize wr.drew = w18 at HB hx102_0 hx102_1 hHeld ⊢
       refine pure_ (i := 0) (N := some 10) (v := ?_) (a' := ?_) #[true, false, false, false, false, false, false, false, false, false, false, false, false, false, false, false, false, false, false, false, false, false, false] rfl rfl (any_of HT_.out (by kernel_rfl)) (fun _ _ _ h => h) (Or.inl ⟨by rfl, ?_⟩) ?_ ?_
       rotate_left
       ·intro w'
        go_simp
        with_reducible rfl
       rotate_left
       ·simp only [Act.put, List.setIfInBounds_toArray, List.set_cons_zero, List.set_cons_succ, i64_w, i32_w]
        rfl
       refine pure_ (i := 1) (N := some 11) (v := ?_) (a' := ?_) #[true, true, false, false, false, false, false, false, false, false, false, false, false, false, false, false, false, false, false, false, false, false, false] rfl rfl (any_of HT_.out (by kernel_rfl)) (fun _ _ _ h => h) (Or.inl ⟨by rfl, ?_⟩) ?_ ?_
       rotate_left
       ·intro w'
        go_simp
        with_reducible rfl
       rotate_left
       ·simp only [Act.put, List.setIfInBounds_toArray, List.set_cons_zero, List.set_cons_succ, i64_w, i32_w]
        rfl
       refine pure_ (i := 2) (N := some 12) (v := ?_) (a' := ?_) #[true, true, true, false, false, false, false, false, false, false, false, false, false, false, false, false, false, false, false, false, false, false, false] rfl rfl (any_of HT_.out (by kernel_rfl)) (fun _ _ _ h => h) (Or.inl ⟨by rfl, ?_⟩) ?_ ?_
       rotate_left
       ·intro w'
        go_simp
        with_reducible rfl
       rotate_left
       ·simp only [Act.put, List.setIfInBounds_toArray, List.set_cons_zero, List.set_cons_succ, i64_w, i32_w]
        rfl
       refine take_ (i := 3) (N := some 13) (v := ?_) (a' := ?_) #[true, true, true, true, false, false, false, false, false, false, false, false, false, false, false, false, false, false, false, false, false, false, false] rfl rfl (take_ofW HT_.out HW_.out (by kernel_rfl)) (fun _ _ _ h => h) (Or.inl ⟨by rfl, ?_⟩) hHeld ?_ ?_
       rotate_left
       ·rintro w' ⟨s0, s1⟩
        go_simp
        with_reducible rfl
       rotate_left
       ·simp only [Act.put, List.setIfInBounds_toArray, List.set_cons_zero, List.set_cons_succ, i64_w, i32_w]
        rfl
       refine one_ (i := 4) (N := some 14) #[true, true, true, true, true, false, false, false, false, false, false, false, false, false, false, false, false, false, false, false, false, false, false] rfl rfl (one_of HT_.out (by kernel_rfl)) (by decide) (fun K hK => ?_)
       refine goes_ Try.func43 (by kernel_rfl) rfl #[.agg #[.int .i64 ((rd_T38 l0 x3_1).f0), .int .i64 ((rd_T38 l0 x3_1).f1)]] (by rfl) rfl rfl zq26_3 ?_
       with_reducible refine (spec_PtOk.calls ((rd_T38 l0 x3_1).f0) ((rd_T38 l0 x3_1).f1) true _ A4.out).mono ?_
       rintro e w19 ⟨rfl, hb⟩
       refine ⟨_, rfl, ?_⟩
       have n0_ := Aside0.mk (below_step zq26_2 hb)
       clear HB
       have HB := n0_
       clear n0_
       (try clear hb)
       (try clear hb2)
       (try clear hk)
       (try clear hi)
       refine hK.out _ _ ⟨((HB.out.cell (World.block_lt_of_cell? w _ hw102_0)).trans hw102_0), ((HB.out.cell (World.block_lt_of_cell? w _ hw102_1)).trans hw102_1)⟩ (fun hHeld => ?_)
       clear hK K
       refine norm_ (a' := ?_) ?_ ?_
       rotate_left
       ·show Act.put _ (some 14) _ = _
        simp only [Act.put, List.setIfInBounds_toArray, List.set_cons_zero, List.set_cons_succ, i64_w, i32_w]
        rfl
       refine pure_ (i := 5) (N := some 15) (v := ?_) (a' := ?_) #[true, true, true, true, true, true, false, false, false, false, false, false, false, false, false, false, false, false, false, false, false, false, false] rfl rfl (any_of HT_.out (by kernel_rfl)) (fun _ _ _ h => h) (Or.inl ⟨by rfl, ?_⟩) ?_ ?_
       rotate_left
       ·intro w'
        go_simp
        with_reducible rfl
       rotate_left
       ·simp only [Act.put, List.setIfInBounds_toArray, List.set_cons_zero, List.set_cons_succ, i64_w, i32_w]
        rfl
       refine pure_ (i := 6) (N := some 16) (v := ?_) (a' := ?_) #[true, true, true, true, true, true, true, false, false, false, false, false, false, false, false, false, false, false, false, false, false, false, false] rfl rfl (any_of HT_.out (by kernel_rfl)) (fun _ _ _ h => h) (Or.inl ⟨by rfl, ?_⟩) ?_ ?_
       rotate_left
       ·intro w'
        go_simp
        with_reducible rfl
       rotate_left
       ·simp only [Act.put, List.setIfInBounds_toArray, List.set_cons_zero, List.set_cons_succ, i64_w, i32_w]
        rfl
       refine pure_ (i := 7) (N := some 17) (v := ?_) (a' := ?_) #[true, true, true, true, true, true, true, true, false, false, false, false, false, false, false, false, false, false, false, false, false, false, false] rfl rfl (any_of HT_.out (by kernel_rfl)) (fun _ _ _ h => h) (Or.inl ⟨by rfl, ?_⟩) ?_ ?_
       rotate_left
       ·intro w'
        go_simp
        with_reducible rfl
       rotate_left
       ·simp only [Act.put, List.setIfInBounds_toArray, List.set_cons_zero, List.set_cons_succ, i64_w, i32_w]
        rfl
       refine pure_ (i := 8) (N := some 18) (v := ?_) (a' := ?_) #[true, true, true, true, true, true, true, true, true, false, false, false, false, false, false, false, false, false, false, false, false, false, false] rfl rfl (any_of HT_.out (by kernel_rfl)) (fun _ _ _ h => h) (Or.inl ⟨by rfl, ?_⟩) ?_ ?_
       rotate_left
       ·intro w'
        go_simp
        with_reducible rfl
       rotate_left
       ·simp only [Act.put, List.setIfInBounds_toArray, List.set_cons_zero, List.set_cons_succ, i64_w, i32_w]
        rfl
       refine pure_ (i := 9) (N := some 19) (v := ?_) (a' := ?_) #[true, true, true, true, true, true, true, true, true, true, false, false, false, false, false, false, false, false, false, false, false, false, false] rfl rfl (any_of HT_.out (by kernel_rfl)) (fun _ _ _ h => h) (Or.inl ⟨by rfl, ?_⟩) ?_ ?_
       rotate_left
       ·intro w'
        go_simp
        with_reducible rfl
       rotate_left
       ·simp only [Act.put, List.setIfInBounds_toArray, List.set_cons_zero, List.set_cons_succ, i64_w, i32_w]
        rfl
       refine pure_ (i := 10) (N := some 20) (v := undef) (a' := ?_) #[true, true, true, true, true, true, true, true, true, true, true, false, false, false, false, false, false, false, false, false, false, false, false] rfl rfl (any_of HT_.out (by kernel_rfl)) (fun _ _ _ h => h) (Or.inr ⟨by rfl, rfl⟩) ?_ ?_
       rotate_left
       ·simp only [Act.put, List.setIfInBounds_toArray, List.set_cons_zero, List.set_cons_succ, i64_w, i32_w]
        rfl
       refine pure_ (i := 11) (N := some 21) (v := undef) (a' := ?_) #[true, true, true, true, true, true, true, true, true, true, true, true, false, false, false, false, false, false, false, false, false, false, false] rfl rfl (any_of HT_.out (by kernel_rfl)) (fun _ _ _ h => h) (Or.inr ⟨by rfl, rfl⟩) ?_ ?_
       rotate_left
       ·simp only [Act.put, List.setIfInBounds_toArray, List.set_cons_zero, List.set_cons_succ, i64_w, i32_w]
        rfl
       refine pure_ (i := 12) (N := some 22) (v := undef) (a' := ?_) #[true, true, true, true, true, true, true, true, true, true, true, true, true, false, false, false, false, false, false, false, false, false, false] rfl rfl (any_of HT_.out (by kernel_rfl)) (fun _ _ _ h => h) (Or.inr ⟨by rfl, rfl⟩) ?_ ?_
       rotate_left
       ·simp only [Act.put, List.setIfInBounds_toArray, List.set_cons_zero, List.set_cons_succ, i64_w, i32_w]
        rfl
       refine pure_ (i := 13) (N := some 23) (v := undef) (a' := ?_) #[true, true, true, true, true, true, true, true, true, true, true, true, true, true, false, false, false, false, false, false, false, false, false] rfl rfl (any_of HT_.out (by kernel_rfl)) (fun _ _ _ h => h) (Or.inr ⟨by rfl, rfl⟩) ?_ ?_
       rotate_left
       ·simp only [Act.put, List.setIfInBounds_toArray, List.set_cons_zero, List.set_cons_succ, i64_w, i32_w]
        rfl
       refine pure_ (i := 14) (N := some 24) (v := undef) (a' := ?_) #[true, true, true, true, true, true, true, true, true, true, true, true, true, true, true, false, false, false, false, false, false, false, false] rfl rfl (any_of HT_.out (by kernel_rfl)) (fun _ _ _ h => h) (Or.inr ⟨by rfl, rfl⟩) ?_ ?_
       rotate_left
       ·simp only [Act.put, List.setIfInBounds_toArray, List.set_cons_zero, List.set_cons_succ, i64_w, i32_w]
        rfl
       refine pure_ (i := 15) (N := some 25) (v := undef) (a' := ?_) #[true, true, true, true, true, true, true, true, true, true, true, true, true, true, true, true, false, false, false, false, false, false, false] rfl rfl (any_of HT_.out (by kernel_rfl)) (fun _ _ _ h => h) (Or.inr ⟨by rfl, rfl⟩) ?_ ?_
       rotate_left
       ·simp only [Act.put, List.setIfInBounds_toArray, List.set_cons_zero, List.set_cons_succ, i64_w, i32_w]
        rfl
       refine pure_ (i := 16) (N := some 26) (v := undef) (a' := ?_) #[true, true, true, true, true, true, true, true, true, true, true, true, true, true, true, true, true, false, false, false, false, false, false] rfl rfl (any_of HT_.out (by kernel_rfl)) (fun _ _ _ h => h) (Or.inr ⟨by rfl, rfl⟩) ?_ ?_
       rotate_left
       ·simp only [Act.put, List.setIfInBounds_toArray, List.set_cons_zero, List.set_cons_succ, i64_w, i32_w]
        rfl
       refine pure_ (i := 17) (N := some 27) (v := undef) (a' := ?_) #[true, true, true, true, true, true, true, true, true, true, true, true, true, true, true, true, true, true, false, false, false, false, false] rfl rfl (any_of HT_.out (by kernel_rfl)) (fun _ _ _ h => h) (Or.inr ⟨by rfl, rfl⟩) ?_ ?_
       rotate_left
       ·simp only [Act.put, List.setIfInBounds_toArray, List.set_cons_zero, List.set_cons_succ, i64_w, i32_w]
        rfl
       refine pure_ (i := 18) (N := some 28) (v := undef) (a' := ?_) #[true, true, true, true, true, true, true, true, true, true, true, true, true, true, true, true, true, true, true, false, false, false, false] rfl rfl (any_of HT_.out (by kernel_rfl)) (fun _ _ _ h => h) (Or.inr ⟨by rfl, rfl⟩) ?_ ?_
       rotate_left
       ·simp only [Act.put, List.setIfInBounds_toArray, List.set_cons_zero, List.set_cons_succ, i64_w, i32_w]
        rfl
       refine pure_ (i := 19) (N := some 29) (v := undef) (a' := ?_) #[true, true, true, true, true, true, true, true, true, true, true, true, true, true, true, true, true, true, true, true, false, false, false] rfl rfl (any_of HT_.out (by kernel_rfl)) (fun _ _ _ h => h) (Or.inr ⟨by rfl, rfl⟩) ?_ ?_
       rotate_left
       ·simp only [Act.put, List.setIfInBounds_toArray, List.set_cons_zero, List.set_cons_succ, i64_w, i32_w]
        rfl
       refine pure_ (i := 20) (N := some 30) (v := undef) (a' := ?_) #[true, true, true, true, true, true, true, true, true, true, true, true, true, true, true, true, true, true, true, true, true, false, false] rfl rfl (any_of HT_.out (by kernel_rfl)) (fun _ _ _ h => h) (Or.inr ⟨by rfl, rfl⟩) ?_ ?_
       rotate_left
       ·simp only [Act.put, List.setIfInBounds_toArray, List.set_cons_zero, List.set_cons_succ, i64_w, i32_w]
        rfl
       refine pure_ (i := 21) (N := some 31) (v := ?_) (a' := ?_) #[true, true, true, true, true, true, true, true, true, true, true, true, true, true, true, true, true, true, true, true, true, true, false] rfl rfl (any_of HT_.out (by kernel_rfl)) (fun _ _ _ h => h) (Or.inl ⟨by rfl, ?_⟩) ?_ ?_
       rotate_left
       ·intro w'
        go_simp
        with_reducible rfl
       rotate_left
       ·simp only [Act.put, List.setIfInBounds_toArray, List.set_cons_zero, List.set_cons_succ, i64_w, i32_w]
        rfl
       refine pure_ (i := 22) (N := some 32) (v := ?_) (a' := ?_) #[true, true, true, true, true, true, true, true, true, true, true, true, true, true, true, true, true, true, true, true, true, true, true] rfl rfl (any_of HT_.out (by kernel_rfl)) (fun _ _ _ h => h) (Or.inl ⟨by rfl, ?_⟩) ?_ ?_
       rotate_left
       ·intro w'
        go_simp
        with_reducible rfl
       rotate_left
       ·simp only [Act.put, List.setIfInBounds_toArray, List.set_cons_zero, List.set_cons_succ, i64_w, i32_w]
        rfl
       refine done_ (done_of HT_.out (by kernel_rfl)) ?_
       try go_wp2
       go_roundg k1
       case measure => have := HK1.out; omega
       case rel => exact ⟨(wrap64 (x3_1 + 1)), (by first | rfl | (simp; done) | (simp [*]; done)), H', ⟨by have := HK1.out; omega⟩, ⟨by repeat (first | (with_reducible first | exact HB.out | apply below_alloc | apply pw_below_drewN | apply below_drew1) | exact HB.out)⟩⟩
     ·replace c5 := Bool.eq_false_iff.mpr c5
      subst c5
      have H1 : (some false) = some r := by rw [if_neg (show ¬ (false = true) by decide)] at H; exact H
      clear H
      have H := H1
      clear H1
      obtain rfl := Option.some.inj H
      try go_wp2
      have n0_ := Aside0.mk (below_drew1 HB.out)
      clear HB
      have HB := n0_
      clear n0_
      have p102 : 0 ≤ (x3_1 : Int) := of_decide_eq_true zq26_1
      have q102 : x3_1 < (l0.length : Int) := of_decide_eq_true zq26_1
      obtain ⟨ad102, e102, hx102_0, hx102_1⟩ := at_T38 HR0.out x3_1 p102 q102
      have hw102_1 := hx102_1
      have hw102_0 := hx102_0
      cases e102
      replace hx102_0 := (HB.out.cell (World.block_lt_of_cell? w _ hx102_0)).trans hx102_0
      replace hx102_1 := (HB.out.cell (World.block_lt_of_cell? w _ hx102_1)).trans hx102_1
      replace p102 := eq_true p102
      replace q102 := eq_true q102
      refine start_ (n := 23) (S := fun w' => w'.cell? (ad102.add ((x3_1).toNat * 2)) = some (.int .i64 ((rd_T38 l0 x3_1).f0)) ∧ w'.cell? ⟨(ad102.add ((x3_1).toNat * 2)).block, (ad102.add ((x3_1).toNat * 2)).off + 1, none⟩ = some (.int .i64 ((rd_T38 l0 x3_1).f1))) (ds := []) #[false, false, false, false, false, false, false, false, false, false, false, false, false, false, false, false, false, false, false, false, false, false, false] (by kernel_rfl) rfl rfl ⟨((HB.out.cell (World.block_lt_of_cell? w _ hw102_0)).trans hw102_0), ((HB.out.cell (World.block_lt_of_cell? w _ hw102_1)).trans hw102_1)⟩ (fun hHeld => ?_); refine with_tabW spec_l22Path.tab4 spec_l22Path.bits4 (fun HT_ HW_ => ?_)
      generalize wr.drew = w20 at HB hx102_0 hx102_1 hHeld ⊢
      refine pure_ (i := 0) (N := some 10) (v := ?_) (a' := ?_) #[true, false, false, false, false, false, false, false, false, false, false, false, false, false, false, false, false, false, false, false, false, false, false] rfl rfl (any_of HT_.out (by kernel_rfl)) (fun _ _ _ h => h) (Or.inl ⟨by rfl, ?_⟩) ?_ ?_
      rotate_left
      ·intro w'
       go_simp
       with_reducible rfl
      rotate_left
      ·simp only [Act.put, List.setIfInBounds_toArray, List.set_cons_zero, List.set_cons_succ, i64_w, i32_w]
       rfl
      refine pure_ (i := 1) (N := some 11) (v := ?_) (a' := ?_) #[true, true, false, false, false, false, false, false, false, false, false, false, false, false, false, false, false, false, false, false, false, false, false] rfl rfl (any_of HT_.out (by kernel_rfl)) (fun _ _ _ h => h) (Or.inl ⟨by rfl, ?_⟩) ?_ ?_
      rotate_left
      ·intro w'
       go_simp
       with_reducible rfl
      rotate_left
      ·simp only [Act.put, List.setIfInBounds_toArray, List.set_cons_zero, List.set_cons_succ, i64_w, i32_w]
       rfl
      refine pure_ (i := 2) (N := some 12) (v := ?_) (a' := ?_) #[true, true, true, false, false, false, false, false, false, false, false, false, false, false, false, false, false, false, false, false, false, false, false] rfl rfl (any_of HT_.out (by kernel_rfl)) (fun _ _ _ h => h) (Or.inl ⟨by rfl, ?_⟩) ?_ ?_
      rotate_left
      ·intro w'
       go_simp
       with_reducible rfl
      rotate_left
      ·simp only [Act.put, List.setIfInBounds_toArray, List.set_cons_zero, List.set_cons_succ, i64_w, i32_w]
       rfl
      refine take_ (i := 3) (N := some 13) (v := ?_) (a' := ?_) #[true, true, true, true, false, false, false, false, false, false, false, false, false, false, false, false, false, false, false, false, false, false, false] rfl rfl (take_ofW HT_.out HW_.out (by kernel_rfl)) (fun _ _ _ h => h) (Or.inl ⟨by rfl, ?_⟩) hHeld ?_ ?_
      rotate_left
      ·rintro w' ⟨s0, s1⟩
       go_simp
       with_reducible rfl
      rotate_left
      ·simp only [Act.put, List.setIfInBounds_toArray, List.set_cons_zero, List.set_cons_succ, i64_w, i32_w]
       rfl
      refine one_ (i := 4) (N := some 14) #[true, true, true, true, true, false, false, false, false, false, false, false, false, false, false, false, false, false, false, false, false, false, false] rfl rfl (one_of HT_.out (by kernel_rfl)) (by decide) (fun K hK => ?_)
      refine goes_ Try.func43 (by kernel_rfl) rfl #[.agg #[.int .i64 ((rd_T38 l0 x3_1).f0), .int .i64 ((rd_T38 l0 x3_1).f1)]] (by rfl) rfl rfl zq26_3 ?_
      with_reducible refine (spec_PtOk.calls ((rd_T38 l0 x3_1).f0) ((rd_T38 l0 x3_1).f1) false _ A4.out).mono ?_
      rintro e w21 ⟨rfl, hb⟩
      refine ⟨_, rfl, ?_⟩
      have n0_ := Aside0.mk (below_step zq26_2 hb)
      clear HB
      have HB := n0_
      clear n0_
      (try clear hb)
      (try clear hb2)
      (try clear hk)
      (try clear hi)
      refine hK.out _ _ ⟨((HB.out.cell (World.block_lt_of_cell? w _ hw102_0)).trans hw102_0), ((HB.out.cell (World.block_lt_of_cell? w _ hw102_1)).trans hw102_1)⟩ (fun hHeld => ?_)
      clear hK K
      refine norm_ (a' := ?_) ?_ ?_
      rotate_left
      ·show Act.put _ (some 14) _ = _
       simp only [Act.put, List.setIfInBounds_toArray, List.set_cons_zero, List.set_cons_succ, i64_w, i32_w]
       rfl
      refine pure_ (i := 5) (N := some 15) (v := ?_) (a' := ?_) #[true, true, true, true, true, true, false, false, false, false, false, false, false, false, false, false, false, false, false, false, false, false, false] rfl rfl (any_of HT_.out (by kernel_rfl)) (fun _ _ _ h => h) (Or.inl ⟨by rfl, ?_⟩) ?_ ?_
      rotate_left
      ·intro w'
       go_simp
       with_reducible rfl
      rotate_left
      ·simp only [Act.put, List.setIfInBounds_toArray, List.set_cons_zero, List.set_cons_succ, i64_w, i32_w]
       rfl
      refine pure_ (i := 6) (N := some 16) (v := ?_) (a' := ?_) #[true, true, true, true, true, true, true, false, false, false, false, false, false, false, false, false, false, false, false, false, false, false, false] rfl rfl (any_of HT_.out (by kernel_rfl)) (fun _ _ _ h => h) (Or.inl ⟨by rfl, ?_⟩) ?_ ?_
      rotate_left
      ·intro w'
       go_simp
       with_reducible rfl
      rotate_left
      ·simp only [Act.put, List.setIfInBounds_toArray, List.set_cons_zero, List.set_cons_succ, i64_w, i32_w]
       rfl
      refine pure_ (i := 7) (N := some 17) (v := undef) (a' := ?_) #[true, true, true, true, true, true, true, true, false, false, false, false, false, false, false, false, false, false, false, false, false, false, false] rfl rfl (any_of HT_.out (by kernel_rfl)) (fun _ _ _ h => h) (Or.inr ⟨by rfl, rfl⟩) ?_ ?_
      rotate_left
      ·simp only [Act.put, List.setIfInBounds_toArray, List.set_cons_zero, List.set_cons_succ, i64_w, i32_w]
       rfl
      refine pure_ (i := 8) (N := some 18) (v := undef) (a' := ?_) #[true, true, true, true, true, true, true, true, true, false, false, false, false, false, false, false, false, false, false, false, false, false, false] rfl rfl (any_of HT_.out (by kernel_rfl)) (fun _ _ _ h => h) (Or.inr ⟨by rfl, rfl⟩) ?_ ?_
      rotate_left
      ·simp only [Act.put, List.setIfInBounds_toArray, List.set_cons_zero, List.set_cons_succ, i64_w, i32_w]
       rfl
      refine pure_ (i := 9) (N := some 19) (v := undef) (a' := ?_) #[true, true, true, true, true, true, true, true, true, true, false, false, false, false, false, false, false, false, false, false, false, false, false] rfl rfl (any_of HT_.out (by kernel_rfl)) (fun _ _ _ h => h) (Or.inr ⟨by rfl, rfl⟩) ?_ ?_
      rotate_left
      ·simp only [Act.put, List.setIfInBounds_toArray, List.set_cons_zero, List.set_cons_succ, i64_w, i32_w]
       rfl
      refine pure_ (i := 10) (N := some 20) (v := undef) (a' := ?_) #[true, true, true, true, true, true, true, true, true, true, true, false, false, false, false, false, false, false, false, false, false, false, false] rfl rfl (any_of HT_.out (by kernel_rfl)) (fun _ _ _ h => h) (Or.inr ⟨by rfl, rfl⟩) ?_ ?_
      rotate_left
      ·simp only [Act.put, List.setIfInBounds_toArray, List.set_cons_zero, List.set_cons_succ, i64_w, i32_w]
       rfl
      refine pure_ (i := 11) (N := some 21) (v := undef) (a' := ?_) #[true, true, true, true, true, true, true, true, true, true, true, true, false, false, false, false, false, false, false, false, false, false, false] rfl rfl (any_of HT_.out (by kernel_rfl)) (fun _ _ _ h => h) (Or.inr ⟨by rfl, rfl⟩) ?_ ?_
      rotate_left
      ·simp only [Act.put, List.setIfInBounds_toArray, List.set_cons_zero, List.set_cons_succ, i64_w, i32_w]
       rfl
      refine pure_ (i := 12) (N := some 22) (v := undef) (a' := ?_) #[true, true, true, true, true, true, true, true, true, true, true, true, true, false, false, false, false, false, false, false, false, false, false] rfl rfl (any_of HT_.out (by kernel_rfl)) (fun _ _ _ h => h) (Or.inr ⟨by rfl, rfl⟩) ?_ ?_
      rotate_left
      ·simp only [Act.put, List.setIfInBounds_toArray, List.set_cons_zero, List.set_cons_succ, i64_w, i32_w]
       rfl
      refine pure_ (i := 13) (N := some 23) (v := undef) (a' := ?_) #[true, true, true, true, true, true, true, true, true, true, true, true, true, true, false, false, false, false, false, false, false, false, false] rfl rfl (any_of HT_.out (by kernel_rfl)) (fun _ _ _ h => h) (Or.inr ⟨by rfl, rfl⟩) ?_ ?_
      rotate_left
      ·simp only [Act.put, List.setIfInBounds_toArray, List.set_cons_zero, List.set_cons_succ, i64_w, i32_w]
       rfl
      refine pure_ (i := 14) (N := some 24) (v := undef) (a' := ?_) #[true, true, true, true, true, true, true, true, true, true, true, true, true, true, true, false, false, false, false, false, false, false, false] rfl rfl (any_of HT_.out (by kernel_rfl)) (fun _ _ _ h => h) (Or.inr ⟨by rfl, rfl⟩) ?_ ?_
      rotate_left
      ·simp only [Act.put, List.setIfInBounds_toArray, List.set_cons_zero, List.set_cons_succ, i64_w, i32_w]
       rfl
      refine pure_ (i := 15) (N := some 25) (v := undef) (a' := ?_) #[true, true, true, true, true, true, true, true, true, true, true, true, true, true, true, true, false, false, false, false, false, false, false] rfl rfl (any_of HT_.out (by kernel_rfl)) (fun _ _ _ h => h) (Or.inr ⟨by rfl, rfl⟩) ?_ ?_
      rotate_left
      ·simp only [Act.put, List.setIfInBounds_toArray, List.set_cons_zero, List.set_cons_succ, i64_w, i32_w]
       rfl
      refine pure_ (i := 16) (N := some 26) (v := undef) (a' := ?_) #[true, true, true, true, true, true, true, true, true, true, true, true, true, true, true, true, true, false, false, false, false, false, false] rfl rfl (any_of HT_.out (by kernel_rfl)) (fun _ _ _ h => h) (Or.inr ⟨by rfl, rfl⟩) ?_ ?_
      rotate_left
      ·simp only [Act.put, List.setIfInBounds_toArray, List.set_cons_zero, List.set_cons_succ, i64_w, i32_w]
       rfl
      refine pure_ (i := 17) (N := some 27) (v := undef) (a' := ?_) #[true, true, true, true, true, true, true, true, true, true, true, true, true, true, true, true, true, true, false, false, false, false, false] rfl rfl (any_of HT_.out (by kernel_rfl)) (fun _ _ _ h => h) (Or.inr ⟨by rfl, rfl⟩) ?_ ?_
      rotate_left
      ·simp only [Act.put, List.setIfInBounds_toArray, List.set_cons_zero, List.set_cons_succ, i64_w, i32_w]
       rfl
      refine pure_ (i := 18) (N := some 28) (v := undef) (a' := ?_) #[true, true, true, true, true, true, true, true, true, true, true, true, true, true, true, true, true, true, true, false, false, false, false] rfl rfl (any_of HT_.out (by kernel_rfl)) (fun _ _ _ h => h) (Or.inr ⟨by rfl, rfl⟩) ?_ ?_
      rotate_left
      ·simp only [Act.put, List.setIfInBounds_toArray, List.set_cons_zero, List.set_cons_succ, i64_w, i32_w]
       rfl
      refine pure_ (i := 19) (N := some 29) (v := undef) (a' := ?_) #[true, true, true, true, true, true, true, true, true, true, true, true, true, true, true, true, true, true, true, true, false, false, false] rfl rfl (any_of HT_.out (by kernel_rfl)) (fun _ _ _ h => h) (Or.inr ⟨by rfl, rfl⟩) ?_ ?_
      rotate_left
      ·simp only [Act.put, List.setIfInBounds_toArray, List.set_cons_zero, List.set_cons_succ, i64_w, i32_w]
       rfl
      refine pure_ (i := 20) (N := some 30) (v := undef) (a' := ?_) #[true, true, true, true, true, true, true, true, true, true, true, true, true, true, true, true, true, true, true, true, true, false, false] rfl rfl (any_of HT_.out (by kernel_rfl)) (fun _ _ _ h => h) (Or.inr ⟨by rfl, rfl⟩) ?_ ?_
      rotate_left
      ·simp only [Act.put, List.setIfInBounds_toArray, List.set_cons_zero, List.set_cons_succ, i64_w, i32_w]
       rfl
      refine pure_ (i := 21) (N := some 31) (v := undef) (a' := ?_) #[true, true, true, true, true, true, true, true, true, true, true, true, true, true, true, true, true, true, true, true, true, true, false] rfl rfl (any_of HT_.out (by kernel_rfl)) (fun _ _ _ h => h) (Or.inr ⟨by rfl, rfl⟩) ?_ ?_
      rotate_left
      ·simp only [Act.put, List.setIfInBounds_toArray, List.set_cons_zero, List.set_cons_succ, i64_w, i32_w]
       rfl
      refine pure_ (i := 22) (N := some 32) (v := ?_) (a' := ?_) #[true, true, true, true, true, true, true, true, true, true, true, true, true, true, true, true, true, true, true, true, true, true, true] rfl rfl (any_of HT_.out (by kernel_rfl)) (fun _ _ _ h => h) (Or.inl ⟨by rfl, ?_⟩) ?_ ?_
      rotate_left
      ·intro w'
       go_simp
       with_reducible rfl
      rotate_left
      ·simp only [Act.put, List.setIfInBounds_toArray, List.set_cons_zero, List.set_cons_succ, i64_w, i32_w]
       rfl
      refine done_ (done_of HT_.out (by kernel_rfl)) ?_
      try go_wp2
      go_ret
      exact ⟨by first | rfl | (simp [errW_none, errW_some] <;> rfl) | (simp [*, errW_none, errW_some] <;> rfl), by repeat (first | (with_reducible first | exact HB.out | apply below_alloc | apply pw_below_drewN | apply below_drew1) | exact HB.out)⟩
    ·rw [if_neg c3] at H
     exact absurd H (by simp)
   ·rw [if_neg c2] at H
    have c2b0 : decide (x3_1 < (l0.length : Int)) = false := decide_eq_false c2
    clear c2
    replace H := Option.bind_eq_some_iff.mp H
    obtain ⟨t101, A220, H⟩ := H
    replace H : (some t101) = some r := H
    have A22 := Aside0.mk A220
    clear A220
    obtain rfl := Option.some.inj H
    go_wp2_with (first | ((with_reducible refine gate_callee (f := 45) rfl ?_); refine goesL_ (some 35) rfl rfl Try.func45 (by kernel_rfl) rfl #[.int .i64 (l0.length : Int), .int .i64 1, .int .i64 400] rfl zq26_3 ?_; (with_reducible refine (spec_l6In.calls (l0.length : Int) 1 400 t101 _ A22.out).mono ?_); rintro e w' ⟨rfl, ⟨nd, rfl⟩⟩; refine ⟨_, rfl, ?_⟩))
    go_ret
    exact ⟨by first | rfl | (simp [errW_none, errW_some] <;> rfl) | (simp [*, errW_none, errW_some] <;> rfl), by repeat (first | (with_reducible first | exact HB.out | apply below_alloc | apply pw_below_drewN | apply below_drew1) | exact HB.out)⟩

end Go.Proofs.Ytdacpdhpifocbaa.P

namespace Go.Proofs.Ytdacpdhpifocbaa.P
open Go.RowKit Go.Proofs.YtdacpdhpifocbaaW.PrintWords Go.Proofs.YtdacpdhpifocbaaW.PrintLast Go.Proofs.YtdacpdhpifocbaaW.PrintMore
attribute [local go_sem] max2_int min2_int max_two min_two max_three min_three max_four min_four   -- for this text's walks alone
set_option linter.unusedVariables false
set_option linter.unusedSimpArgs false

/-! ### spec_l22Turns: function 28 -/
def spec_l22Turns.l0 : Nat → List (S38) → List (S38) → Int → Option ((List (S38)))
  | 0, _, _, _ => none
  | k + 1, x0, x3, x4 => if x4 < (x0.length : Int) then (if x4 = (wrap64 ((x0.length : Int) - 1)) then (if 0 ≤ x4 then (if x3.length < 8796093022208 then (spec_l22Turns.l0 k x0 (x3 ++ [(⟨(rd_T38 x0 x4).f0, (rd_T38 x0 x4).f1⟩ : S38)]) (wrap64 (x4 + 1))) else (none)) else (none)) else (if 0 ≤ (wrap64 (x4 + 1)) then (if (wrap64 (x4 + 1)) < (x0.length : Int) then (if 0 ≤ x4 then (if 0 ≤ (wrap64 (x4 - 1)) then (if (wrap64 (x4 - 1)) < (x0.length : Int) then (if (wrap64 (((rd_T38 x0 (wrap64 (x4 + 1))).f0) - ((rd_T38 x0 x4).f0))) = (wrap64 (((rd_T38 x0 x4).f0) - ((rd_T38 x0 (wrap64 (x4 - 1))).f0))) then (if (wrap64 (((rd_T38 x0 (wrap64 (x4 + 1))).f1) - ((rd_T38 x0 x4).f1))) = (wrap64 (((rd_T38 x0 x4).f1) - ((rd_T38 x0 (wrap64 (x4 - 1))).f1))) then (spec_l22Turns.l0 k x0 x3 (wrap64 (x4 + 1))) else (if x3.length < 8796093022208 then (spec_l22Turns.l0 k x0 (x3 ++ [(⟨(rd_T38 x0 x4).f0, (rd_T38 x0 x4).f1⟩ : S38)]) (wrap64 (x4 + 1))) else (none))) else (if x3.length < 8796093022208 then (spec_l22Turns.l0 k x0 (x3 ++ [(⟨(rd_T38 x0 x4).f0, (rd_T38 x0 x4).f1⟩ : S38)]) (wrap64 (x4 + 1))) else (none))) else (none)) else (none)) else (none)) else (none)) else (none))) else (some x3)
def spec_l22Turns.f (k : Nat) (l0 : List (S38)) : Option ((List (S38))) := if 0 < (l0.length : Int) then (spec_l22Turns.l0 k l0 (([(⟨(rd_T38 l0 0).f0, (rd_T38 l0 0).f1⟩ : S38)] : List (S38))) 1) else (none)
theorem spec_l22Turns.mono_l : ∀ k, (∀ y0 y1 y2, LeO (spec_l22Turns.l0 k y0 y1 y2) (spec_l22Turns.l0 (k + 1) y0 y1 y2))
  | 0 => fun _ _ _ r h => by simp [spec_l22Turns.l0] at h
  | k + 1 => by
    have ih0 := spec_l22Turns.mono_l k
    · intro y0 y1 y2
      unfold spec_l22Turns.l0
      repeat' first
      | (with_reducible exact ih0 _ _ _)
      | (with_reducible exact LeO.refl _)
      | (with_reducible exact LeO.none _)
      | (with_reducible refine LeO.ite ?_ ?_)
      | (with_reducible refine LeO.bind ?_ (fun _ => ?_))
      | exact ih0 _ _ _
      | exact LeO.none _
      | refine LeO.ite ?_ ?_
      | refine LeO.bind ?_ (fun _ => ?_)
theorem spec_l22Turns.mono : ∀ a0 k, LeO (spec_l22Turns.f k a0) (spec_l22Turns.f (k + 1) a0) := by
  intro a0 k
  have ih0 := spec_l22Turns.mono_l k
  unfold spec_l22Turns.f
  repeat' first
      | (with_reducible exact ih0 _ _ _)
      | (with_reducible exact LeO.refl _)
      | (with_reducible exact LeO.none _)
      | (with_reducible refine LeO.ite ?_ ?_)
      | (with_reducible refine LeO.bind ?_ (fun _ => ?_))
      | exact ih0 _ _ _
      | exact LeO.none _
      | refine LeO.ite ?_ ?_
      | refine LeO.bind ?_ (fun _ => ?_)
set_option hygiene false in
local macro "zq27_1" : term => `((by repeat (first | (with_reducible first | exact HB.out | apply below_alloc | apply pw_below_drewN | apply below_drew1) | exact HB.out)))
set_option hygiene false in
local macro "zq27_2" : term => `((by first | (with_reducible assumption) | assumption))
set_option hygiene false in
local macro "zq27_3" : tactic => `(tactic| (with_reducible repeat (first | apply Kd.R_alloc | apply Kd.R_drewN | apply Kd.R_drew)))
set_option hygiene false in
local macro "zq27_4" : tactic => `(tactic| (case aP => exact k38_mkM _ _ _ (⟨(rd_T38 l0 x4_1).f0, (rd_T38 l0 x4_1).f1⟩ : S38)))
set_option hygiene false in
local macro "zq27_5" : tactic => `(tactic| (case hp => exact (Reps.c2 (show Kd.M k38 _ _ _ (⟨(rd_T38 l0 0).f0, (rd_T38 l0 0).f1⟩ : S38) [.int .i64 ((rd_T38 l0 0).f0), .int .i64 ((rd_T38 l0 0).f1)] from (k38_mkM _ _ _ (⟨(rd_T38 l0 0).f0, (rd_T38 l0 0).f1⟩ : S38) )) (Reps.none _ _))))
set_option hygiene false in
local macro "zq27_7" : tactic => `(tactic| (first | rw [← Ny102.out] at ho4 | (simp only [Int.reduceToNat] at ho4; rw [← Ny102.out] at ho4)))
set_option hygiene false in
local macro "zq27_8" : term => `((by first | rfl | (simp; done) | (simp only [← hji10] <;> (first | rfl | simp)) | (simp [*]; done)))
set_option hygiene false in
local macro "zq27_6" : tactic => `(tactic| (case aO => exact (by (zq27_3); exact HO_3.out)))
set_option maxHeartbeats 8000000 in
set_option maxRecDepth 100000 in
theorem spec_l22Turns.calls (k : Nat) (A0 : Option Addr) (c0 : Nat) (l0 : List (S38)) (r : List (S38)) (w : World) (hr0 : Kd.C k38 w A0 l0.length l0) (hc0 : l0.length ≤ c0) (h : spec_l22Turns.f k l0 = some r) :
  Calls Try.prog 28 #[.slice A0 l0.length c0] w fun e w' => ∃ v0_ : Value, e = .returned (v0_) ∧ Kd.R k38 38 w' w.heap.size (fun _ => True) v0_ r ∧ Below w.heap.size w w' := by
 have hu38 := Try.underlying38
 have HR0 := Aside0.mk hr0
 have HC0 := Aside0.mk hc0
 clear hr0 hc0
 have HB := Aside0.mk (Below.refl w.heap.size w)
 have H : (if 0 < (l0.length : Int) then (spec_l22Turns.l0 k l0 (([(⟨(rd_T38 l0 0).f0, (rd_T38 l0 0).f1⟩ : S38)] : List (S38))) 1) else (none)) = some r := h
 clear h
 by_cases c2 : 0 < (l0.length : Int)
 ·rw [if_pos c2] at H
  have c2b0 : decide (0 < (l0.length : Int)) = true := decide_eq_true c2
  have c2b1 : decide (0 < l0.length) = true := decide_eq_true (by omega)
  clear c2
  obtain ⟨y102, hy102⟩ : ∃ y_ : List (S38), y_ = (([(⟨(rd_T38 l0 0).f0, (rd_T38 l0 0).f1⟩ : S38)] : List (S38))) := ⟨_, rfl⟩
  replace H : (spec_l22Turns.l0 k l0 y102 1) = some r := by first | (rw [hy102]; with_reducible exact H) | (have H2_ := (Option.bind_some _ _).symm.trans H; rw [hy102]; with_reducible exact H2_) | (have H2_ := (Option.bind_some _ _).symm.trans H; with_reducible exact H2_) | with_reducible exact H | (rw [hy102]; exact H) | exact H
  have Ny102 := Aside0.mk hy102
  clear hy102
  have H' := Aside0.mk H
  clear H
  have p101 : 0 ≤ (0 : Int) := (by omega)
  have q101 : 0 < (l0.length : Int) := of_decide_eq_true zq27_2
  obtain ⟨ad101, e101, hx101_0, hx101_1⟩ := at_T38 HR0.out 0 p101 q101
  cases e101
  have qi101 : (0 < l0.length) = True := eq_true (by omega)
  (try rw [show ((0 : Int)).toNat = 0 from rfl] at hx101_0)
  (try rw [show 0 * 2 = 0 from rfl] at hx101_0)
  (try rw [Addr.add_zero'] at hx101_0)
  (try rw [show ((0 : Int)).toNat = 0 from rfl] at hx101_1)
  (try rw [show 0 * 2 = 0 from rfl] at hx101_1)
  (try rw [Addr.add_zero'] at hx101_1)
  replace p101 := eq_true p101
  replace q101 := eq_true q101
  go_enter Try.func28, Try.ntmps28
  go_wp2_with (first | ((with_reducible refine gate_dst (N := 8) rfl ?_); refine Kd.R_lit k38 _ 38 ?hg (N := 8) ?hd (xs := ([(⟨(rd_T38 l0 0).f0, (rd_T38 l0 0).f1⟩ : S38)] : List (S38))) (inner := [.int .i64 ((rd_T38 l0 0).f0), .int .i64 ((rd_T38 l0 0).f1)]) (ok := fun _ => True) (okp := fun _ => True) ?hr ?hp (fun _ hk => hk) trivial (Below.refl _ _) (Nat.le_refl _) (by simp) ?_; (case hd => rfl); (case hg => rfl); (case hr => first | (go_simp; done) | (go_simp; rfl)); (zq27_5); intro v103 w3 ho4 hb hg_ hnew_; clear hg_ hnew_; (zq27_7); have n0_ := Aside0.mk (Kd.R_lower ho4 (below_size zq27_1)); have n1_ := Aside0.mk (below_step zq27_1 hb); clear HB; have HO104 := n0_; have HB := n1_; clear n0_ n1_; clear hb ho4))
  repeat (go_quiet (first | ((with_reducible refine gate_dst (N := 8) rfl ?_); refine Kd.R_lit k38 _ 38 ?hg (N := 8) ?hd (xs := ([(⟨(rd_T38 l0 0).f0, (rd_T38 l0 0).f1⟩ : S38)] : List (S38))) (inner := [.int .i64 ((rd_T38 l0 0).f0), .int .i64 ((rd_T38 l0 0).f1)]) (ok := fun _ => True) (okp := fun _ => True) ?hr ?hp (fun _ hk => hk) trivial (Below.refl _ _) (Nat.le_refl _) (by simp) ?_; (case hd => rfl); (case hg => rfl); (case hr => first | (go_simp; done) | (go_simp; rfl)); (zq27_5); intro v103 w3 ho4 hb hg_ hnew_; clear hg_ hnew_; (zq27_7); have n0_ := Aside0.mk (Kd.R_lower ho4 (below_size zq27_1)); have n1_ := Aside0.mk (below_step zq27_1 hb); clear HB; have HO104 := n0_; have HB := n1_; clear n0_ n1_; clear hb ho4)); try go_wp2_with (first | ((with_reducible refine gate_dst (N := 8) rfl ?_); refine Kd.R_lit k38 _ 38 ?hg (N := 8) ?hd (xs := ([(⟨(rd_T38 l0 0).f0, (rd_T38 l0 0).f1⟩ : S38)] : List (S38))) (inner := [.int .i64 ((rd_T38 l0 0).f0), .int .i64 ((rd_T38 l0 0).f1)]) (ok := fun _ => True) (okp := fun _ => True) ?hr ?hp (fun _ hk => hk) trivial (Below.refl _ _) (Nat.le_refl _) (by simp) ?_; (case hd => rfl); (case hg => rfl); (case hr => first | (go_simp; done) | (go_simp; rfl)); (zq27_5); intro v103 w3 ho4 hb hg_ hnew_; clear hg_ hnew_; (zq27_7); have n0_ := Aside0.mk (Kd.R_lower ho4 (below_size zq27_1)); have n1_ := Aside0.mk (below_step zq27_1 hb); clear HB; have HO104 := n0_; have HB := n1_; clear n0_ n1_; clear hb ho4)))
  go_loopg [3, 4] k (fun kq v3 v4 w' => ∃ (x3_1 : List (S38)) (x4_1 : Int), v4 = .int .i64 x4_1 ∧ Aside0 (spec_l22Turns.l0 kq l0 x3_1 x4_1 = some r) ∧ Aside0 (kq ≤ k) ∧ Aside0 (Kd.R k38 38 w' w.heap.size (fun _ => True) v3 x3_1) ∧ Aside0 (Below w.heap.size w w'))
  case atStart => exact ⟨(y102), (1), (by first | rfl | (simp; done) | (simp [*]; done)), H', ⟨Nat.le_refl _⟩, ⟨by (zq27_3); exact HO104.out⟩, ⟨by repeat (first | (with_reducible first | exact HB.out | apply below_alloc | apply pw_below_drewN | apply below_drew1) | exact HB.out)⟩⟩
  case round =>
   clear H'
   try clear p1
   try clear q1
   try clear hx1
   try clear qi1
   try clear c2
   try clear c2b0
   try clear c2b1
   try clear p2
   try clear hx101_0
   try clear hx101_1
   try clear p101
   try clear q101
   obtain ⟨x3_1, x4_1, rfl, HA, HK1, HO_3, HB⟩ := hrel
   cases gk with
   | zero => exact absurd HA.out (by simp [spec_l22Turns.l0])
   | succ k1 =>
    have H := HA.out
    clear HA
    simp only [spec_l22Turns.l0] at H
    by_cases c5 : x4_1 < (l0.length : Int)
    ·rw [if_pos c5] at H
     have c5b0 : decide (x4_1 < (l0.length : Int)) = true := decide_eq_true c5
     clear c5
     by_cases c6 : x4_1 = (wrap64 ((l0.length : Int) - 1))
     ·rw [if_pos c6] at H
      have c6b0 : (x4_1 == (wrap64 ((l0.length : Int) - 1))) = true := beq_iff_eq.mpr c6
      have c6b1 : (x4_1 != (wrap64 ((l0.length : Int) - 1))) = false := bne_eq_false_iff_eq.mpr c6
      clear c6
      by_cases c7 : 0 ≤ x4_1
      ·rw [if_pos c7] at H
       have c7b0 : decide (0 ≤ x4_1) = true := decide_eq_true c7
       clear c7
       by_cases c8 : x3_1.length < 8796093022208
       ·rw [if_pos c8] at H
        have LMc8 := Aside0.mk c8
        clear c8
        obtain ⟨y106, hy106⟩ : ∃ y_ : List (S38), y_ = (x3_1 ++ [(⟨(rd_T38 l0 x4_1).f0, (rd_T38 l0 x4_1).f1⟩ : S38)]) := ⟨_, rfl⟩
        replace H : (spec_l22Turns.l0 k1 l0 y106 (wrap64 (x4_1 + 1))) = some r := by first | (rw [hy106]; with_reducible exact H) | (have H2_ := (Option.bind_some _ _).symm.trans H; rw [hy106]; with_reducible exact H2_) | (have H2_ := (Option.bind_some _ _).symm.trans H; with_reducible exact H2_) | with_reducible exact H | (rw [hy106]; exact H) | exact H
        have Ny106 := Aside0.mk hy106
        clear hy106
        have H' := Aside0.mk H
        clear H
        have p105 : 0 ≤ (x4_1 : Int) := of_decide_eq_true zq27_2
        have q105 : x4_1 < (l0.length : Int) := of_decide_eq_true zq27_2
        obtain ⟨ad105, e105, hx105_0, hx105_1⟩ := at_T38 HR0.out x4_1 p105 q105
        obtain rfl : ad101 = ad105 := (by injection e105)
        replace hx105_0 := (HB.out.cell (World.block_lt_of_cell? w _ hx105_0)).trans hx105_0
        replace hx105_1 := (HB.out.cell (World.block_lt_of_cell? w _ hx105_1)).trans hx105_1
        replace p105 := eq_true p105
        replace q105 := eq_true q105
        go_wp2_with (first | ((with_reducible refine gate_builtin (b := .append) (xs := #[.tmp 74, .tmp 79]) rfl ?_); at_builtin; refine Kd.R_append k38 (w0 := w) w.heap.size rfl (.tmp 74) (.tmp 79) 24 38 (.agg #[(.int .i64 0), (.int .i64 0)]) 16 rfl Try.underlying24 info38 rfl (by decide) (by omega) u3 x3_1 (⟨(rd_T38 l0 x4_1).f0, (rd_T38 l0 x4_1).f1⟩ : S38) [.int .i64 ((rd_T38 l0 x4_1).f0), .int .i64 ((rd_T38 l0 x4_1).f1)] (fun _ => True) (fun _ => False) rfl rfl ?aP (fun _ hk => hk.elim) ?aF ?aO ?aB ?aS ?aL ?_; (zq27_4); (case aB => exact zq27_1); (case aF => exact (fun _ _ => trivial)); (zq27_6); (case aS => exact (below_size zq27_1)); (case aL => have := LMc8.out; omega); intro v107 w9 ho hb hg hat; rw [← Ny106.out] at ho; have n0_ := Aside0.mk (hb); have n1_ := Aside0.mk (ho); clear HB; clear HO_3; have HB := n0_; have HO108 := n1_; clear n0_ n1_; clear ho hb hg hat))
        repeat (go_quiet (first | ((with_reducible refine gate_builtin (b := .append) (xs := #[.tmp 74, .tmp 79]) rfl ?_); at_builtin; refine Kd.R_append k38 (w0 := w) w.heap.size rfl (.tmp 74) (.tmp 79) 24 38 (.agg #[(.int .i64 0), (.int .i64 0)]) 16 rfl Try.underlying24 info38 rfl (by decide) (by omega) u3 x3_1 (⟨(rd_T38 l0 x4_1).f0, (rd_T38 l0 x4_1).f1⟩ : S38) [.int .i64 ((rd_T38 l0 x4_1).f0), .int .i64 ((rd_T38 l0 x4_1).f1)] (fun _ => True) (fun _ => False) rfl rfl ?aP (fun _ hk => hk.elim) ?aF ?aO ?aB ?aS ?aL ?_; (zq27_4); (case aB => exact zq27_1); (case aF => exact (fun _ _ => trivial)); (zq27_6); (case aS => exact (below_size zq27_1)); (case aL => have := LMc8.out; omega); intro v107 w9 ho hb hg hat; rw [← Ny106.out] at ho; have n0_ := Aside0.mk (hb); have n1_ := Aside0.mk (ho); clear HB; clear HO_3; have HB := n0_; have HO108 := n1_; clear n0_ n1_; clear ho hb hg hat)); try go_wp2_with (first | ((with_reducible refine gate_builtin (b := .append) (xs := #[.tmp 74, .tmp 79]) rfl ?_); at_builtin; refine Kd.R_append k38 (w0 := w) w.heap.size rfl (.tmp 74) (.tmp 79) 24 38 (.agg #[(.int .i64 0), (.int .i64 0)]) 16 rfl Try.underlying24 info38 rfl (by decide) (by omega) u3 x3_1 (⟨(rd_T38 l0 x4_1).f0, (rd_T38 l0 x4_1).f1⟩ : S38) [.int .i64 ((rd_T38 l0 x4_1).f0), .int .i64 ((rd_T38 l0 x4_1).f1)] (fun _ => True) (fun _ => False) rfl rfl ?aP (fun _ hk => hk.elim) ?aF ?aO ?aB ?aS ?aL ?_; (zq27_4); (case aB => exact zq27_1); (case aF => exact (fun _ _ => trivial)); (zq27_6); (case aS => exact (below_size zq27_1)); (case aL => have := LMc8.out; omega); intro v107 w9 ho hb hg hat; rw [← Ny106.out] at ho; have n0_ := Aside0.mk (hb); have n1_ := Aside0.mk (ho); clear HB; clear HO_3; have HB := n0_; have HO108 := n1_; clear n0_ n1_; clear ho hb hg hat)))
        go_roundg k1
        case measure => have := HK1.out; omega
        case rel => exact ⟨(y106), (wrap64 (x4_1 + 1)), (by first | rfl | (simp; done) | (simp [*]; done)), H', ⟨by have := HK1.out; omega⟩, ⟨by (zq27_3); exact HO108.out⟩, ⟨by repeat (first | (with_reducible first | exact HB.out | apply below_alloc | apply pw_below_drewN | apply below_drew1) | exact HB.out)⟩⟩
       ·rw [if_neg c8] at H
        exact absurd H (by simp)
      ·rw [if_neg c7] at H
       exact absurd H (by simp)
     ·rw [if_neg c6] at H
      have c6b0 : (x4_1 == (wrap64 ((l0.length : Int) - 1))) = false := beq_eq_false_iff_ne.mpr c6
      have c6b1 : (x4_1 != (wrap64 ((l0.length : Int) - 1))) = true := bne_iff_ne.mpr c6
      obtain ⟨ji10, hji10⟩ : ∃ j_ : Int, (wrap64 (x4_1 + 1)) = j_ := ⟨_, rfl⟩
      replace H : (if 0 ≤ (ji10) then (if (ji10) < (l0.length : Int) then (if 0 ≤ x4_1 then (if 0 ≤ (wrap64 (x4_1 - 1)) then (if (wrap64 (x4_1 - 1)) < (l0.length : Int) then (if (wrap64 (((rd_T38 l0 (ji10)).f0) - ((rd_T38 l0 x4_1).f0))) = (wrap64 (((rd_T38 l0 x4_1).f0) - ((rd_T38 l0 (wrap64 (x4_1 - 1))).f0))) then (if (wrap64 (((rd_T38 l0 (ji10)).f1) - ((rd_T38 l0 x4_1).f1))) = (wrap64 (((rd_T38 l0 x4_1).f1) - ((rd_T38 l0 (wrap64 (x4_1 - 1))).f1))) then (spec_l22Turns.l0 k1 l0 x3_1 ji10) else (if x3_1.length < 8796093022208 then (spec_l22Turns.l0 k1 l0 (x3_1 ++ [(⟨(rd_T38 l0 x4_1).f0, (rd_T38 l0 x4_1).f1⟩ : S38)]) ji10) else (none))) else (if x3_1.length < 8796093022208 then (spec_l22Turns.l0 k1 l0 (x3_1 ++ [(⟨(rd_T38 l0 x4_1).f0, (rd_T38 l0 x4_1).f1⟩ : S38)]) ji10) else (none))) else (none)) else (none)) else (none)) else (none)) else (none)) = some r := by first | (rw [hji10] at H; exact H) | (simp only [hji10] at H ⊢; exact H)
      have hji10w : (IntKind.i64.wrap (x4_1 + 1)) = ji10 := (i64_w _).trans hji10
      by_cases c11 : 0 ≤ (ji10)
      ·rw [if_pos c11] at H
       have c11b0 : decide (0 ≤ (ji10)) = true := decide_eq_true c11
       clear c11
       by_cases c12 : (ji10) < (l0.length : Int)
       ·rw [if_pos c12] at H
        have c12b0 : decide ((ji10) < (l0.length : Int)) = true := decide_eq_true c12
        clear c12
        by_cases c13 : 0 ≤ x4_1
        ·rw [if_pos c13] at H
         have c13b0 : decide (0 ≤ x4_1) = true := decide_eq_true c13
         clear c13
         obtain ⟨ji14, hji14⟩ : ∃ j_ : Int, (wrap64 (x4_1 - 1)) = j_ := ⟨_, rfl⟩
         replace H : (if 0 ≤ (ji14) then (if (ji14) < (l0.length : Int) then (if (wrap64 (((rd_T38 l0 (ji10)).f0) - ((rd_T38 l0 x4_1).f0))) = (wrap64 (((rd_T38 l0 x4_1).f0) - ((rd_T38 l0 (ji14)).f0))) then (if (wrap64 (((rd_T38 l0 (ji10)).f1) - ((rd_T38 l0 x4_1).f1))) = (wrap64 (((rd_T38 l0 x4_1).f1) - ((rd_T38 l0 (ji14)).f1))) then (spec_l22Turns.l0 k1 l0 x3_1 ji10) else (if x3_1.length < 8796093022208 then (spec_l22Turns.l0 k1 l0 (x3_1 ++ [(⟨(rd_T38 l0 x4_1).f0, (rd_T38 l0 x4_1).f1⟩ : S38)]) ji10) else (none))) else (if x3_1.length < 8796093022208 then (spec_l22Turns.l0 k1 l0 (x3_1 ++ [(⟨(rd_T38 l0 x4_1).f0, (rd_T38 l0 x4_1).f1⟩ : S38)]) ji10) else (none))) else (none)) else (none)) = some r := by first | (rw [hji14] at H; exact H) | (simp only [hji14] at H ⊢; exact H)
         have hji14w : (IntKind.i64.wrap (x4_1 - 1)) = ji14 := (i64_w _).trans hji14
         by_cases c15 : 0 ≤ (ji14)
         ·rw [if_pos c15] at H
          have c15b0 : decide (0 ≤ (ji14)) = true := decide_eq_true c15
          clear c15
          by_cases c16 : (ji14) < (l0.length : Int)
          ·rw [if_pos c16] at H
           have c16b0 : decide ((ji14) < (l0.length : Int)) = true := decide_eq_true c16
           clear c16
           by_cases c17 : (wrap64 (((rd_T38 l0 (ji10)).f0) - ((rd_T38 l0 x4_1).f0))) = (wrap64 (((rd_T38 l0 x4_1).f0) - ((rd_T38 l0 (ji14)).f0)))
           ·rw [if_pos c17] at H
            have c17b0 : ((wrap64 (((rd_T38 l0 (ji10)).f0) - ((rd_T38 l0 x4_1).f0))) == (wrap64 (((rd_T38 l0 x4_1).f0) - ((rd_T38 l0 (ji14)).f0)))) = true := beq_iff_eq.mpr c17
            have c17b1 : ((wrap64 (((rd_T38 l0 (ji10)).f0) - ((rd_T38 l0 x4_1).f0))) != (wrap64 (((rd_T38 l0 x4_1).f0) - ((rd_T38 l0 (ji14)).f0)))) = false := bne_eq_false_iff_eq.mpr c17
            clear c17
            by_cases c18 : (wrap64 (((rd_T38 l0 (ji10)).f1) - ((rd_T38 l0 x4_1).f1))) = (wrap64 (((rd_T38 l0 x4_1).f1) - ((rd_T38 l0 (ji14)).f1)))
            ·rw [if_pos c18] at H
             have c18b0 : ((wrap64 (((rd_T38 l0 (ji10)).f1) - ((rd_T38 l0 x4_1).f1))) == (wrap64 (((rd_T38 l0 x4_1).f1) - ((rd_T38 l0 (ji14)).f1)))) = true := beq_iff_eq.mpr c18
             have c18b1 : ((wrap64 (((rd_T38 l0 (ji10)).f1) - ((rd_T38 l0 x4_1).f1))) != (wrap64 (((rd_T38 l0 x4_1).f1) - ((rd_T38 l0 (ji14)).f1)))) = false := bne_eq_false_iff_eq.mpr c18
             clear c18
             have H' := Aside0.mk H
             clear H
             have p109 : 0 ≤ ((ji10) : Int) := of_decide_eq_true zq27_2
             have q109 : (ji10) < (l0.length : Int) := of_decide_eq_true zq27_2
             obtain ⟨ad109, e109, hx109_0, hx109_1⟩ := at_T38 HR0.out (ji10) p109 q109
             obtain rfl : ad101 = ad109 := (by injection e109)
             replace hx109_0 := (HB.out.cell (World.block_lt_of_cell? w _ hx109_0)).trans hx109_0
             replace hx109_1 := (HB.out.cell (World.block_lt_of_cell? w _ hx109_1)).trans hx109_1
             replace p109 := eq_true p109
             replace q109 := eq_true q109
             have p110 : 0 ≤ (x4_1 : Int) := of_decide_eq_true zq27_2
             have q110 : x4_1 < (l0.length : Int) := of_decide_eq_true zq27_2
             obtain ⟨ad110, e110, hx110_0, hx110_1⟩ := at_T38 HR0.out x4_1 p110 q110
             obtain rfl : ad101 = ad110 := (by injection e110)
             replace hx110_0 := (HB.out.cell (World.block_lt_of_cell? w _ hx110_0)).trans hx110_0
             replace hx110_1 := (HB.out.cell (World.block_lt_of_cell? w _ hx110_1)).trans hx110_1
             replace p110 := eq_true p110
             replace q110 := eq_true q110
             have p111 : 0 ≤ (x4_1 : Int) := of_decide_eq_true zq27_2
             have q111 : x4_1 < (l0.length : Int) := of_decide_eq_true zq27_2
             obtain ⟨ad111, e111, hx111_0, hx111_1⟩ := at_T38 HR0.out x4_1 p111 q111
             obtain rfl : ad101 = ad111 := (by injection e111)
             replace hx111_0 := (HB.out.cell (World.block_lt_of_cell? w _ hx111_0)).trans hx111_0
             replace hx111_1 := (HB.out.cell (World.block_lt_of_cell? w _ hx111_1)).trans hx111_1
             replace p111 := eq_true p111
             replace q111 := eq_true q111
             have p112 : 0 ≤ ((ji14) : Int) := of_decide_eq_true zq27_2
             have q112 : (ji14) < (l0.length : Int) := of_decide_eq_true zq27_2
             obtain ⟨ad112, e112, hx112_0, hx112_1⟩ := at_T38 HR0.out (ji14) p112 q112
             obtain rfl : ad101 = ad112 := (by injection e112)
             replace hx112_0 := (HB.out.cell (World.block_lt_of_cell? w _ hx112_0)).trans hx112_0
             replace hx112_1 := (HB.out.cell (World.block_lt_of_cell? w _ hx112_1)).trans hx112_1
             replace p112 := eq_true p112
             replace q112 := eq_true q112
             have p113 : 0 ≤ ((ji10) : Int) := of_decide_eq_true zq27_2
             have q113 : (ji10) < (l0.length : Int) := of_decide_eq_true zq27_2
             obtain ⟨ad113, e113, hx113_0, hx113_1⟩ := at_T38 HR0.out (ji10) p113 q113
             obtain rfl : ad101 = ad113 := (by injection e113)
             replace hx113_0 := (HB.out.cell (World.block_lt_of_cell? w _ hx113_0)).trans hx113_0
             replace hx113_1 := (HB.out.cell (World.block_lt_of_cell? w _ hx113_1)).trans hx113_1
             replace p113 := eq_true p113
             replace q113 := eq_true q113
             have p114 : 0 ≤ (x4_1 : Int) := of_decide_eq_true zq27_2
             have q114 : x4_1 < (l0.length : Int) := of_decide_eq_true zq27_2
             obtain ⟨ad114, e114, hx114_0, hx114_1⟩ := at_T38 HR0.out x4_1 p114 q114
             obtain rfl : ad101 = ad114 := (by injection e114)
             replace hx114_0 := (HB.out.cell (World.block_lt_of_cell? w _ hx114_0)).trans hx114_0
             replace hx114_1 := (HB.out.cell (World.block_lt_of_cell? w _ hx114_1)).trans hx114_1
             replace p114 := eq_true p114
             replace q114 := eq_true q114
             have p115 : 0 ≤ (x4_1 : Int) := of_decide_eq_true zq27_2
             have q115 : x4_1 < (l0.length : Int) := of_decide_eq_true zq27_2
             obtain ⟨ad115, e115, hx115_0, hx115_1⟩ := at_T38 HR0.out x4_1 p115 q115
             obtain rfl : ad101 = ad115 := (by injection e115)
             replace hx115_0 := (HB.out.cell (World.block_lt_of_cell? w _ hx115_0)).trans hx115_0
             replace hx115_1 := (HB.out.cell (World.block_lt_of_cell? w _ hx115_1)).trans hx115_1
             replace p115 := eq_true p115
             replace q115 := eq_true q115
             have p116 : 0 ≤ ((ji14) : Int) := of_decide_eq_true zq27_2
             have q116 : (ji14) < (l0.length : Int) := of_decide_eq_true zq27_2
             obtain ⟨ad116, e116, hx116_0, hx116_1⟩ := at_T38 HR0.out (ji14) p116 q116
             obtain rfl : ad101 = ad116 := (by injection e116)
             replace hx116_0 := (HB.out.cell (World.block_lt_of_cell? w _ hx116_0)).trans hx116_0
             replace hx116_1 := (HB.out.cell (World.block_lt_of_cell? w _ hx116_1)).trans hx116_1
             replace p116 := eq_true p116
             replace q116 := eq_true q116
             go_wp2
             repeat (go_quiet (fail); try go_wp2)
             go_roundg k1
             case measure => have := HK1.out; omega
             case rel => exact ⟨(x3_1), (ji10), zq27_8, H', ⟨by have := HK1.out; omega⟩, ⟨by (zq27_3); exact HO_3.out⟩, ⟨by repeat (first | (with_reducible first | exact HB.out | apply below_alloc | apply pw_below_drewN | apply below_drew1) | exact HB.out)⟩⟩
            ·rw [if_neg c18] at H
             have c18b0 : ((wrap64 (((rd_T38 l0 (ji10)).f1) - ((rd_T38 l0 x4_1).f1))) == (wrap64 (((rd_T38 l0 x4_1).f1) - ((rd_T38 l0 (ji14)).f1)))) = false := beq_eq_false_iff_ne.mpr c18
             have c18b1 : ((wrap64 (((rd_T38 l0 (ji10)).f1) - ((rd_T38 l0 x4_1).f1))) != (wrap64 (((rd_T38 l0 x4_1).f1) - ((rd_T38 l0 (ji14)).f1)))) = true := bne_iff_ne.mpr c18
             by_cases c19 : x3_1.length < 8796093022208
             ·rw [if_pos c19] at H
              have LMc19 := Aside0.mk c19
              clear c19
              obtain ⟨y118, hy118⟩ : ∃ y_ : List (S38), y_ = (x3_1 ++ [(⟨(rd_T38 l0 x4_1).f0, (rd_T38 l0 x4_1).f1⟩ : S38)]) := ⟨_, rfl⟩
              replace H : (spec_l22Turns.l0 k1 l0 y118 ji10) = some r := by first | (rw [hy118]; with_reducible exact H) | (have H2_ := (Option.bind_some _ _).symm.trans H; rw [hy118]; with_reducible exact H2_) | (have H2_ := (Option.bind_some _ _).symm.trans H; with_reducible exact H2_) | with_reducible exact H | (rw [hy118]; exact H) | exact H
              have Ny118 := Aside0.mk hy118
              clear hy118
              have H' := Aside0.mk H
              clear H
              have p109 : 0 ≤ ((ji10) : Int) := of_decide_eq_true zq27_2
              have q109 : (ji10) < (l0.length : Int) := of_decide_eq_true zq27_2
              obtain ⟨ad109, e109, hx109_0, hx109_1⟩ := at_T38 HR0.out (ji10) p109 q109
              obtain rfl : ad101 = ad109 := (by injection e109)
              replace hx109_0 := (HB.out.cell (World.block_lt_of_cell? w _ hx109_0)).trans hx109_0
              replace hx109_1 := (HB.out.cell (World.block_lt_of_cell? w _ hx109_1)).trans hx109_1
              replace p109 := eq_true p109
              replace q109 := eq_true q109
              have p110 : 0 ≤ (x4_1 : Int) := of_decide_eq_true zq27_2
              have q110 : x4_1 < (l0.length : Int) := of_decide_eq_true zq27_2
              obtain ⟨ad110, e110, hx110_0, hx110_1⟩ := at_T38 HR0.out x4_1 p110 q110
              obtain rfl : ad101 = ad110 := (by injection e110)
              replace hx110_0 := (HB.out.cell (World.block_lt_of_cell? w _ hx110_0)).trans hx110_0
              replace hx110_1 := (HB.out.cell (World.block_lt_of_cell? w _ hx110_1)).trans hx110_1
              replace p110 := eq_true p110
              replace q110 := eq_true q110
              have p111 : 0 ≤ (x4_1 : Int) := of_decide_eq_true zq27_2
              have q111 : x4_1 < (l0.length : Int) := of_decide_eq_true zq27_2
              obtain ⟨ad111, e111, hx111_0, hx111_1⟩ := at_T38 HR0.out x4_1 p111 q111
              obtain rfl : ad101 = ad111 := (by injection e111)
              replace hx111_0 := (HB.out.cell (World.block_lt_of_cell? w _ hx111_0)).trans hx111_0
              replace hx111_1 := (HB.out.cell (World.block_lt_of_cell? w _ hx111_1)).trans hx111_1
              replace p111 := eq_true p111
              replace q111 := eq_true q111
              have p112 : 0 ≤ ((ji14) : Int) := of_decide_eq_true zq27_2
              have q112 : (ji14) < (l0.length : Int) := of_decide_eq_true zq27_2
              obtain ⟨ad112, e112, hx112_0, hx112_1⟩ := at_T38 HR0.out (ji14) p112 q112
              obtain rfl : ad101 = ad112 := (by injection e112)
              replace hx112_0 := (HB.out.cell (World.block_lt_of_cell? w _ hx112_0)).trans hx112_0
              replace hx112_1 := (HB.out.cell (World.block_lt_of_cell? w _ hx112_1)).trans hx112_1
              replace p112 := eq_true p112
              replace q112 := eq_true q112
              have p113 : 0 ≤ ((ji10) : Int) := of_decide_eq_true zq27_2
              have q113 : (ji10) < (l0.length : Int) := of_decide_eq_true zq27_2
              obtain ⟨ad113, e113, hx113_0, hx113_1⟩ := at_T38 HR0.out (ji10) p113 q113
              obtain rfl : ad101 = ad113 := (by injection e113)
              replace hx113_0 := (HB.out.cell (World.block_lt_of_cell? w _ hx113_0)).trans hx113_0
              replace hx113_1 := (HB.out.cell (World.block_lt_of_cell? w _ hx113_1)).trans hx113_1
              replace p113 := eq_true p113
              replace q113 := eq_true q113
              have p114 : 0 ≤ (x4_1 : Int) := of_decide_eq_true zq27_2
              have q114 : x4_1 < (l0.length : Int) := of_decide_eq_true zq27_2
              obtain ⟨ad114, e114, hx114_0, hx114_1⟩ := at_T38 HR0.out x4_1 p114 q114
              obtain rfl : ad101 = ad114 := (by injection e114)
              replace hx114_0 := (HB.out.cell (World.block_lt_of_cell? w _ hx114_0)).trans hx114_0
              replace hx114_1 := (HB.out.cell (World.block_lt_of_cell? w _ hx114_1)).trans hx114_1
              replace p114 := eq_true p114
              replace q114 := eq_true q114
              have p115 : 0 ≤ (x4_1 : Int) := of_decide_eq_true zq27_2
              have q115 : x4_1 < (l0.length : Int) := of_decide_eq_true zq27_2
              obtain ⟨ad115, e115, hx115_0, hx115_1⟩ := at_T38 HR0.out x4_1 p115 q115
              obtain rfl : ad101 = ad115 := (by injection e115)
              replace hx115_0 := (HB.out.cell (World.block_lt_of_cell? w _ hx115_0)).trans hx115_0
              replace hx115_1 := (HB.out.cell (World.block_lt_of_cell? w _ hx115_1)).trans hx115_1
              replace p115 := eq_true p115
              replace q115 := eq_true q115
              have p116 : 0 ≤ ((ji14) : Int) := of_decide_eq_true zq27_2
              have q116 : (ji14) < (l0.length : Int) := of_decide_eq_true zq27_2
              obtain ⟨ad116, e116, hx116_0, hx116_1⟩ := at_T38 HR0.out (ji14) p116 q116
              obtain rfl : ad101 = ad116 := (by injection e116)
              replace hx116_0 := (HB.out.cell (World.block_lt_of_cell? w _ hx116_0)).trans hx116_0
              replace hx116_1 := (HB.out.cell (World.block_lt_of_cell? w _ hx116_1)).trans hx116_1
              replace p116 := eq_true p116
              replace q116 := eq_true q116
              have p117 : 0 ≤ (x4_1 : Int) := of_decide_eq_true zq27_2
              have q117 : x4_1 < (l0.length : Int) := of_decide_eq_true zq27_2
              obtain ⟨ad117, e117, hx117_0, hx117_1⟩ := at_T38 HR0.out x4_1 p117 q117
              obtain rfl : ad101 = ad117 := (by injection e117)
              replace hx117_0 := (HB.out.cell (World.block_lt_of_cell? w _ hx117_0)).trans hx117_0
              replace hx117_1 := (HB.out.cell (World.block_lt_of_cell? w _ hx117_1)).trans hx117_1
              replace p117 := eq_true p117
              replace q117 := eq_true q117
              go_wp2_with (first | ((with_reducible refine gate_builtin (b := .append) (xs := #[.tmp 74, .tmp 79]) rfl ?_); at_builtin; refine Kd.R_append k38 (w0 := w) w.heap.size rfl (.tmp 74) (.tmp 79) 24 38 (.agg #[(.int .i64 0), (.int .i64 0)]) 16 rfl Try.underlying24 info38 rfl (by decide) (by omega) u3 x3_1 (⟨(rd_T38 l0 x4_1).f0, (rd_T38 l0 x4_1).f1⟩ : S38) [.int .i64 ((rd_T38 l0 x4_1).f0), .int .i64 ((rd_T38 l0 x4_1).f1)] (fun _ => True) (fun _ => False) rfl rfl ?aP (fun _ hk => hk.elim) ?aF ?aO ?aB ?aS ?aL ?_; (zq27_4); (case aB => exact zq27_1); (case aF => exact (fun _ _ => trivial)); (zq27_6); (case aS => exact (below_size zq27_1)); (case aL => have := LMc19.out; omega); intro v119 w20 ho hb hg hat; rw [← Ny118.out] at ho; have n0_ := Aside0.mk (hb); have n1_ := Aside0.mk (ho); clear HB; clear HO_3; have HB := n0_; have HO120 := n1_; clear n0_ n1_; clear ho hb hg hat))
              repeat (go_quiet (first | ((with_reducible refine gate_builtin (b := .append) (xs := #[.tmp 74, .tmp 79]) rfl ?_); at_builtin; refine Kd.R_append k38 (w0 := w) w.heap.size rfl (.tmp 74) (.tmp 79) 24 38 (.agg #[(.int .i64 0), (.int .i64 0)]) 16 rfl Try.underlying24 info38 rfl (by decide) (by omega) u3 x3_1 (⟨(rd_T38 l0 x4_1).f0, (rd_T38 l0 x4_1).f1⟩ : S38) [.int .i64 ((rd_T38 l0 x4_1).f0), .int .i64 ((rd_T38 l0 x4_1).f1)] (fun _ => True) (fun _ => False) rfl rfl ?aP (fun _ hk => hk.elim) ?aF ?aO ?aB ?aS ?aL ?_; (zq27_4); (case aB => exact zq27_1); (case aF => exact (fun _ _ => trivial)); (zq27_6); (case aS => exact (below_size zq27_1)); (case aL => have := LMc19.out; omega); intro v119 w20 ho hb hg hat; rw [← Ny118.out] at ho; have n0_ := Aside0.mk (hb); have n1_ := Aside0.mk (ho); clear HB; clear HO_3; have HB := n0_; have HO120 := n1_; clear n0_ n1_; clear ho hb hg hat)); try go_wp2_with (first | ((with_reducible refine gate_builtin (b := .append) (xs := #[.tmp 74, .tmp 79]) rfl ?_); at_builtin; refine Kd.R_append k38 (w0 := w) w.heap.size rfl (.tmp 74) (.tmp 79) 24 38 (.agg #[(.int .i64 0), (.int .i64 0)]) 16 rfl Try.underlying24 info38 rfl (by decide) (by omega) u3 x3_1 (⟨(rd_T38 l0 x4_1).f0, (rd_T38 l0 x4_1).f1⟩ : S38) [.int .i64 ((rd_T38 l0 x4_1).f0), .int .i64 ((rd_T38 l0 x4_1).f1)] (fun _ => True) (fun _ => False) rfl rfl ?aP (fun _ hk => hk.elim) ?aF ?aO ?aB ?aS ?aL ?_; (zq27_4); (case aB => exact zq27_1); (case aF => exact (fun _ _ => trivial)); (zq27_6); (case aS => exact (below_size zq27_1)); (case aL => have := LMc19.out; omega); intro v119 w20 ho hb hg hat; rw [← Ny118.out] at ho; have n0_ := Aside0.mk (hb); have n1_ := Aside0.mk (ho); clear HB; clear HO_3; have HB := n0_; have HO120 := n1_; clear n0_ n1_; clear ho hb hg hat)))
              go_roundg k1
              case measure => have := HK1.out; omega
              case rel => exact ⟨(y118), (ji10), zq27_8, H', ⟨by have := HK1.out; omega⟩, ⟨by (zq27_3); exact HO120.out⟩, ⟨by repeat (first | (with_reducible first | exact HB.out | apply below_alloc | apply pw_below_drewN | apply below_drew1) | exact HB.out)⟩⟩
             ·rw [if_neg c19] at H
              exact absurd H (by simp)
           ·rw [if_neg c17] at H
            have c17b0 : ((wrap64 (((rd_T38 l0 (ji10)).f0) - ((rd_T38 l0 x4_1).f0))) == (wrap64 (((rd_T38 l0 x4_1).f0) - ((rd_T38 l0 (ji14)).f0)))) = false := beq_eq_false_iff_ne.mpr c17
            have c17b1 : ((wrap64 (((rd_T38 l0 (ji10)).f0) - ((rd_T38 l0 x4_1).f0))) != (wrap64 (((rd_T38 l0 x4_1).f0) - ((rd_T38 l0 (ji14)).f0)))) = true := bne_iff_ne.mpr c17
            by_cases c21 : x3_1.length < 8796093022208
            ·rw [if_pos c21] at H
             have LMc21 := Aside0.mk c21
             clear c21
             obtain ⟨y122, hy122⟩ : ∃ y_ : List (S38), y_ = (x3_1 ++ [(⟨(rd_T38 l0 x4_1).f0, (rd_T38 l0 x4_1).f1⟩ : S38)]) := ⟨_, rfl⟩
             replace H : (spec_l22Turns.l0 k1 l0 y122 ji10) = some r := by first | (rw [hy122]; with_reducible exact H) | (have H2_ := (Option.bind_some _ _).symm.trans H; rw [hy122]; with_reducible exact H2_) | (have H2_ := (Option.bind_some _ _).symm.trans H; with_reducible exact H2_) | with_reducible exact H | (rw [hy122]; exact H) | exact H
             have Ny122 := Aside0.mk hy122
             clear hy122
             have H' := Aside0.mk H
             clear H
             have p109 : 0 ≤ ((ji10) : Int) := of_decide_eq_true zq27_2
             have q109 : (ji10) < (l0.length : Int) := of_decide_eq_true zq27_2
             obtain ⟨ad109, e109, hx109_0, hx109_1⟩ := at_T38 HR0.out (ji10) p109 q109
             obtain rfl : ad101 = ad109 := (by injection e109)
             replace hx109_0 := (HB.out.cell (World.block_lt_of_cell? w _ hx109_0)).trans hx109_0
             replace hx109_1 := (HB.out.cell (World.block_lt_of_cell? w _ hx109_1)).trans hx109_1
             replace p109 := eq_true p109
             replace q109 := eq_true q109
             have p110 : 0 ≤ (x4_1 : Int) := of_decide_eq_true zq27_2
             have q110 : x4_1 < (l0.length : Int) := of_decide_eq_true zq27_2
             obtain ⟨ad110, e110, hx110_0, hx110_1⟩ := at_T38 HR0.out x4_1 p110 q110
             obtain rfl : ad101 = ad110 := (by injection e110)
             replace hx110_0 := (HB.out.cell (World.block_lt_of_cell? w _ hx110_0)).trans hx110_0
             replace hx110_1 := (HB.out.cell (World.block_lt_of_cell? w _ hx110_1)).trans hx110_1
             replace p110 := eq_true p110
             replace q110 := eq_true q110
             have p111 : 0 ≤ (x4_1 : Int) := of_decide_eq_true zq27_2
             have q111 : x4_1 < (l0.length : Int) := of_decide_eq_true zq27_2
             obtain ⟨ad111, e111, hx111_0, hx111_1⟩ := at_T38 HR0.out x4_1 p111 q111
             obtain rfl : ad101 = ad111 := (by injection e111)
             replace hx111_0 := (HB.out.cell (World.block_lt_of_cell? w _ hx111_0)).trans hx111_0
             replace hx111_1 := (HB.out.cell (World.block_lt_of_cell? w _ hx111_1)).trans hx111_1
             replace p111 := eq_true p111
             replace q111 := eq_true q111
             have p112 : 0 ≤ ((ji14) : Int) := of_decide_eq_true zq27_2
             have q112 : (ji14) < (l0.length : Int) := of_decide_eq_true zq27_2
             obtain ⟨ad112, e112, hx112_0, hx112_1⟩ := at_T38 HR0.out (ji14) p112 q112
             obtain rfl : ad101 = ad112 := (by injection e112)
             replace hx112_0 := (HB.out.cell (World.block_lt_of_cell? w _ hx112_0)).trans hx112_0
             replace hx112_1 := (HB.out.cell (World.block_lt_of_cell? w _ hx112_1)).trans hx112_1
             replace p112 := eq_true p112
             replace q112 := eq_true q112
             have p121 : 0 ≤ (x4_1 : Int) := of_decide_eq_true zq27_2
             have q121 : x4_1 < (l0.length : Int) := of_decide_eq_true zq27_2
             obtain ⟨ad121, e121, hx121_0, hx121_1⟩ := at_T38 HR0.out x4_1 p121 q121
             obtain rfl : ad101 = ad121 := (by injection e121)
             replace hx121_0 := (HB.out.cell (World.block_lt_of_cell? w _ hx121_0)).trans hx121_0
             replace hx121_1 := (HB.out.cell (World.block_lt_of_cell? w _ hx121_1)).trans hx121_1
             replace p121 := eq_true p121
             replace q121 := eq_true q121
             go_wp2_with (first | ((with_reducible refine gate_builtin (b := .append) (xs := #[.tmp 74, .tmp 79]) rfl ?_); at_builtin; refine Kd.R_append k38 (w0 := w) w.heap.size rfl (.tmp 74) (.tmp 79) 24 38 (.agg #[(.int .i64 0), (.int .i64 0)]) 16 rfl Try.underlying24 info38 rfl (by decide) (by omega) u3 x3_1 (⟨(rd_T38 l0 x4_1).f0, (rd_T38 l0 x4_1).f1⟩ : S38) [.int .i64 ((rd_T38 l0 x4_1).f0), .int .i64 ((rd_T38 l0 x4_1).f1)] (fun _ => True) (fun _ => False) rfl rfl ?aP (fun _ hk => hk.elim) ?aF ?aO ?aB ?aS ?aL ?_; (zq27_4); (case aB => exact zq27_1); (case aF => exact (fun _ _ => trivial)); (zq27_6); (case aS => exact (below_size zq27_1)); (case aL => have := LMc21.out; omega); intro v123 w22 ho hb hg hat; rw [← Ny122.out] at ho; have n0_ := Aside0.mk (hb); have n1_ := Aside0.mk (ho); clear HB; clear HO_3; have HB := n0_; have HO124 := n1_; clear n0_ n1_; clear ho hb hg hat))
             repeat (go_quiet (first | ((with_reducible refine gate_builtin (b := .append) (xs := #[.tmp 74, .tmp 79]) rfl ?_); at_builtin; refine Kd.R_append k38 (w0 := w) w.heap.size rfl (.tmp 74) (.tmp 79) 24 38 (.agg #[(.int .i64 0), (.int .i64 0)]) 16 rfl Try.underlying24 info38 rfl (by decide) (by omega) u3 x3_1 (⟨(rd_T38 l0 x4_1).f0, (rd_T38 l0 x4_1).f1⟩ : S38) [.int .i64 ((rd_T38 l0 x4_1).f0), .int .i64 ((rd_T38 l0 x4_1).f1)] (fun _ => True) (fun _ => False) rfl rfl ?aP (fun _ hk => hk.elim) ?aF ?aO ?aB ?aS ?aL ?_; (zq27_4); (case aB => exact zq27_1); (case aF => exact (fun _ _ => trivial)); (zq27_6); (case aS => exact (below_size zq27_1)); (case aL => have := LMc21.out; omega); intro v123 w22 ho hb hg hat; rw [← Ny122.out] at ho; have n0_ := Aside0.mk (hb); have n1_ := Aside0.mk (ho); clear HB; clear HO_3; have HB := n0_; have HO124 := n1_; clear n0_ n1_; clear ho hb hg hat)); try go_wp2_with (first | ((with_reducible refine gate_builtin (b := .append) (xs := #[.tmp 74, .tmp 79]) rfl ?_); at_builtin; refine Kd.R_append k38 (w0 := w) w.heap.size rfl (.tmp 74) (.tmp 79) 24 38 (.agg #[(.int .i64 0), (.int .i64 0)]) 16 rfl Try.underlying24 info38 rfl (by decide) (by omega) u3 x3_1 (⟨(rd_T38 l0 x4_1).f0, (rd_T38 l0 x4_1).f1⟩ : S38) [.int .i64 ((rd_T38 l0 x4_1).f0), .int .i64 ((rd_T38 l0 x4_1).f1)] (fun _ => True) (fun _ => False) rfl rfl ?aP (fun _ hk => hk.elim) ?aF ?aO ?aB ?aS ?aL ?_; (zq27_4); (case aB => exact zq27_1); (case aF => exact (fun _ _ => trivial)); (zq27_6); (case aS => exact (below_size zq27_1)); (case aL => have := LMc21.out; omega); intro v123 w22 ho hb hg hat; rw [← Ny122.out] at ho; have n0_ := Aside0.mk (hb); have n1_ := Aside0.mk (ho); clear HB; clear HO_3; have HB := n0_; have HO124 := n1_; clear n0_ n1_; clear ho hb hg hat)))
             go_roundg k1
             case measure => have := HK1.out; omega
             case rel => exact ⟨(y122), (ji10), zq27_8, H', ⟨by have := HK1.out; omega⟩, ⟨by (zq27_3); exact HO124.out⟩, ⟨by repeat (first | (with_reducible first | exact HB.out | apply below_alloc | apply pw_below_drewN | apply below_drew1) | exact HB.out)⟩⟩
            ·rw [if_neg c21] at H
             exact absurd H (by simp)
          ·rw [if_neg c16] at H
           exact absurd H (by simp)
         ·rw [if_neg c15] at H
          exact absurd H (by simp)
        ·rw [if_neg c13] at H
         exact absurd H (by simp)
       ·rw [if_neg c12] at H
        exact absurd H (by simp)
      ·rw [if_neg c11] at H
       exact absurd H (by simp)
    ·rw [if_neg c5] at H
     have c5b0 : decide (x4_1 < (l0.length : Int)) = false := decide_eq_false c5
     clear c5
     obtain rfl := Option.some.inj H
     go_wp2
     repeat (go_quiet (fail); try go_wp2)
     go_ret
     exact ⟨_, by first | rfl | (simp [errW_none, errW_some] <;> rfl) | (simp [*, errW_none, errW_some] <;> rfl), by (zq27_3); exact HO_3.out, by repeat (first | (with_reducible first | exact HB.out | apply below_alloc | apply pw_below_drewN | apply below_drew1) | exact HB.out)⟩
 ·rw [if_neg c2] at H
  exact absurd H (by simp)

end Go.Proofs.Ytdacpdhpifocbaa.P

namespace Go.Proofs.Ytdacpdhpifocbaa.P
open Go.RowKit Go.Proofs.YtdacpdhpifocbaaW.PrintWords Go.Proofs.YtdacpdhpifocbaaW.PrintLast Go.Proofs.YtdacpdhpifocbaaW.PrintMore
attribute [local go_sem] max2_int min2_int max_two min_two max_three min_three max_four min_four   -- for this text's walks alone
set_option linter.unusedVariables false
set_option linter.unusedSimpArgs false

/-! ### spec_CodeTurns: function 10 -/
def spec_CodeTurns.f (k : Nat) (l0 : List (S38)) : Option ((List (S38))) := (spec_l22Path.f k l0).bind fun t101 => (if t101 = true then ((spec_l22Turns.f k l0).bind fun t102 => (some t102)) else (some (([] : List (S38)))))
theorem spec_CodeTurns.mono : ∀ a0 k, LeO (spec_CodeTurns.f k a0) (spec_CodeTurns.f (k + 1) a0) := by
  intro a0 k
  unfold spec_CodeTurns.f
  repeat' first
      | (with_reducible exact spec_l22Path.mono _ _)
      | (with_reducible exact spec_l22Turns.mono _ _)
      | (with_reducible exact LeO.refl _)
      | (with_reducible exact LeO.none _)
      | (with_reducible refine LeO.ite ?_ ?_)
      | (with_reducible refine LeO.bind ?_ (fun _ => ?_))
      | exact spec_l22Path.mono _ _
      | exact spec_l22Turns.mono _ _
      | exact LeO.none _
      | refine LeO.ite ?_ ?_
      | refine LeO.bind ?_ (fun _ => ?_)
set_option maxHeartbeats 8000000 in
set_option maxRecDepth 100000 in
theorem spec_CodeTurns.calls (k : Nat) (A0 : Option Addr) (c0 : Nat) (l0 : List (S38)) (r : List (S38)) (w : World) (hr0 : Kd.C k38 w A0 l0.length l0) (hc0 : l0.length ≤ c0) (h : spec_CodeTurns.f k l0 = some r) :
    Calls Try.prog 10 #[.slice A0 l0.length c0] w fun e w' => ∃ v0_ : Value, e = .returned (v0_) ∧ Kd.R k38 38 w' w.heap.size (fun _ => True) v0_ r ∧ Below w.heap.size w w' := by
  have HR0 := Aside0.mk hr0
  have HC0 := Aside0.mk hc0
  clear hr0 hc0
  have HB := Aside0.mk (Below.refl w.heap.size w)
  have H : ((spec_l22Path.f k l0).bind fun t101 => (if t101 = true then ((spec_l22Turns.f k l0).bind fun t102 => (some t102)) else (some (([] : List (S38)))))) = some r := h
  clear h
  replace H := Option.bind_eq_some_iff.mp H
  obtain ⟨t101, A20, H⟩ := H
  replace H : (if t101 = true then ((spec_l22Turns.f k l0).bind fun t102 => (some t102)) else (some (([] : List (S38))))) = some r := H
  have A2 := Aside0.mk A20
  clear A20
  by_cases c3 : t101 = true
  · subst c3
    have H1 : ((spec_l22Turns.f k l0).bind fun t102 => (some t102)) = some r := by rw [if_pos rfl] at H; exact H
    clear H
    have H := H1
    clear H1
    replace H := Option.bind_eq_some_iff.mp H
    obtain ⟨t102, A40, H⟩ := H
    replace H : (some t102) = some r := H
    have A4 := Aside0.mk A40
    clear A40
    obtain rfl := Option.some.inj H
    go_enter Try.func10, Try.ntmps10
    go_wp2_with (first | ((with_reducible refine gate_callee (f := 27) rfl ?_); refine goesL_ (some 4) rfl rfl Try.func27 (by kernel_rfl) rfl #[.slice A0 l0.length c0] rfl (by (try simp only [List.map_toArray, List.map_cons, List.map_nil]); first | done | rfl | (simp only [List.length_drop, List.length_take]; rfl)) ?_; (with_reducible refine (spec_l22Path.calls k _ _ l0 true _ ?side1 ?side2 A2.out).mono ?_); (case side1 => repeat (first | exact HR0.out | (with_reducible refine Kd.C_alloc ?_ _) | (with_reducible refine Kd.C_drewN ?_ _) | (with_reducible refine Kd.C_drew ?_))); (case side2 => exact HC0.out); rintro e w5 ⟨rfl, hb⟩; refine ⟨_, rfl, ?_⟩; have n0_ := Aside0.mk (below_step (by repeat (first | (with_reducible first | exact HB.out | apply below_alloc | apply pw_below_drewN | apply below_drew1) | exact HB.out)) hb); clear HB; have HB := n0_; clear n0_; (try clear hb); (try clear hb2); (try clear hk); (try clear hi)) | ((with_reducible refine gate_callee (f := 28) rfl ?_); refine goesL_ (some 8) rfl rfl Try.func28 (by kernel_rfl) rfl #[.slice A0 l0.length c0] rfl (by (try simp only [List.map_toArray, List.map_cons, List.map_nil]); first | done | rfl | (simp only [List.length_drop, List.length_take]; rfl)) ?_; (with_reducible refine (spec_l22Turns.calls k _ _ l0 t102 _ ?side1 ?side2 A4.out).mono ?_); (case side1 => repeat (first | exact (Kd.C_below HR0.out HB.out) | (with_reducible refine Kd.C_alloc ?_ _) | (with_reducible refine Kd.C_drewN ?_ _) | (with_reducible refine Kd.C_drew ?_))); (case side2 => exact HC0.out); rintro e w6 ⟨v103, rfl, ho0, hb⟩; refine ⟨_, rfl, ?_⟩; have n0_ := Aside0.mk (Kd.R_lower ho0 (below_size (by repeat (first | (with_reducible first | exact HB.out | apply below_alloc | apply pw_below_drewN | apply below_drew1) | exact HB.out)))); have n1_ := Aside0.mk (below_step (by repeat (first | (with_reducible first | exact HB.out | apply below_alloc | apply pw_below_drewN | apply below_drew1) | exact HB.out)) hb); clear HB; have HO104 := n0_; have HB := n1_; clear n0_ n1_; (try clear hb); (try clear hb2); (try clear hk); (try clear hi); (try clear ho0)))
    go_ret
    exact ⟨_, by first | rfl | (simp [errW_none, errW_some] <;> rfl) | (simp [*, errW_none, errW_some] <;> rfl), by (with_reducible repeat (first | apply Kd.R_alloc | apply Kd.R_drewN | apply Kd.R_drew)); exact HO104.out, by repeat (first | (with_reducible first | exact HB.out | apply below_alloc | apply pw_below_drewN | apply below_drew1) | exact HB.out)⟩
  · replace c3 := Bool.eq_false_iff.mpr c3
    subst c3
    have H1 : (some (([] : List (S38)))) = some r := by rw [if_neg (show ¬ (false = true) by decide)] at H; exact H
    clear H
    have H := H1
    clear H1
    obtain ⟨y105, hy105⟩ : ∃ y_ : List (S38), y_ = (([] : List (S38))) := ⟨_, rfl⟩
    replace H : (some y105) = some r := by first | (rw [hy105]; with_reducible exact H) | (have H2_ := (Option.bind_some _ _).symm.trans H; rw [hy105]; with_reducible exact H2_) | (have H2_ := (Option.bind_some _ _).symm.trans H; with_reducible exact H2_) | with_reducible exact H | (rw [hy105]; exact H) | exact H
    have Ny105 := Aside0.mk hy105
    clear hy105
    obtain rfl := Option.some.inj H
    go_enter Try.func10, Try.ntmps10
    go_wp2_with (first | ((with_reducible refine gate_callee (f := 27) rfl ?_); refine goesL_ (some 4) rfl rfl Try.func27 (by kernel_rfl) rfl #[.slice A0 l0.length c0] rfl (by (try simp only [List.map_toArray, List.map_cons, List.map_nil]); first | done | rfl | (simp only [List.length_drop, List.length_take]; rfl)) ?_; (with_reducible refine (spec_l22Path.calls k _ _ l0 false _ ?side1 ?side2 A2.out).mono ?_); (case side1 => repeat (first | exact HR0.out | (with_reducible refine Kd.C_alloc ?_ _) | (with_reducible refine Kd.C_drewN ?_ _) | (with_reducible refine Kd.C_drew ?_))); (case side2 => exact HC0.out); rintro e w7 ⟨rfl, hb⟩; refine ⟨_, rfl, ?_⟩; have n0_ := Aside0.mk (below_step (by repeat (first | (with_reducible first | exact HB.out | apply below_alloc | apply pw_below_drewN | apply below_drew1) | exact HB.out)) hb); clear HB; have HB := n0_; clear n0_; (try clear hb); (try clear hb2); (try clear hk); (try clear hi)) | ((with_reducible refine gate_dst (N := 6) rfl ?_); refine Kd.R_lit k38 _ 38 ?hg (N := 6) ?hd (xs := ([] : List (S38))) (inner := []) (ok := fun _ => True) (okp := fun _ => True) ?hr ?hp (fun _ hk => hk) trivial (Below.refl _ _) (Nat.le_refl _) (by simp) ?_; (case hd => rfl); (case hg => rfl); (case hr => first | (go_simp; done) | (go_simp; rfl)); (case hp => exact (Reps.none _ _)); intro v106 w8 ho9 hb hg_ hnew_; clear hg_ hnew_; (first | rw [← Ny105.out] at ho9 | (simp only [Int.reduceToNat] at ho9; rw [← Ny105.out] at ho9)); have n0_ := Aside0.mk (Kd.R_lower ho9 (below_size (by repeat (first | (with_reducible first | exact HB.out | apply below_alloc | apply pw_below_drewN | apply below_drew1) | exact HB.out)))); have n1_ := Aside0.mk (below_step (by repeat (first | (with_reducible first | exact HB.out | apply below_alloc | apply pw_below_drewN | apply below_drew1) | exact HB.out)) hb); clear HB; have HO107 := n0_; have HB := n1_; clear n0_ n1_; clear hb ho9))
    go_ret
    exact ⟨_, by first | rfl | (simp [errW_none, errW_some] <;> rfl) | (simp [*, errW_none, errW_some] <;> rfl), by (with_reducible repeat (first | apply Kd.R_alloc | apply Kd.R_drewN | apply Kd.R_drew)); exact HO107.out, by repeat (first | (with_reducible first | exact HB.out | apply below_alloc | apply pw_below_drewN | apply below_drew1) | exact HB.out)⟩

end Go.Proofs.Ytdacpdhpifocbaa.P

namespace Go.Proofs.Ytdacpdhpifocbaa.Q
open Go.RowKit Go.Proofs.Ytdacpdhpifocbaa.P Go.Proofs.YtdacpdhpifocbaaW.PrintWords Go.Proofs.YtdacpdhpifocbaaW.PrintLast
set_option linter.unusedVariables false

abbrev PT := S38
def g (l : List PT) (i : Nat) : PT := l.getD i z38
theorem rd_nat (l : List PT) (i : Nat) : rd_T38 l (i : Int) = g l i := by simp [rd_T38, g]
theorem rd_zero (l : List PT) : rd_T38 l 0 = g l 0 := by simp [rd_T38, g]
theorem w_id {x : Int} (h0 : -9223372036854775808 ≤ x) (h1 : x < 9223372036854775808) : wrap64 x = x := by unfold wrap64; omega
theorem w_succ {i : Nat} (h : i < 1000000000000000000) : wrap64 ((i : Int) + 1) = ((i + 1 : Nat) : Int) := by rw [w_id (by omega) (by omega)]; omega
theorem w_pred {i : Nat} (h0 : 0 < i) (h : i < 1000000000000000000) : wrap64 ((i : Int) - 1) = ((i - 1 : Nat) : Int) := by rw [w_id (by omega) (by omega)]; omega
theorem g_eq {l : List PT} {i : Nat} (h : i < l.length) : g l i = l[i] := by simp [g, List.getD_eq_getElem?_getD, h]
theorem PT.ext {a b : PT} (h0 : a.f0 = b.f0) (h1 : a.f1 = b.f1) : a = b := by cases a; cases b; simp_all

instance : DecidableEq PT := fun a b => if h : a.f0 = b.f0 ∧ a.f1 = b.f1 then isTrue (PT.ext h.1 h.2) else isFalse (fun e => h ⟨by rw [e], by rw [e]⟩)
/-- a point of the grid -/
def okP (p : PT) : Bool := decide (0 ≤ p.f0 ∧ p.f0 ≤ 9 ∧ 0 ≤ p.f1 ∧ p.f1 ≤ 9)
theorem okP_iff {p : PT} : okP p = true ↔ 0 ≤ p.f0 ∧ p.f0 ≤ 9 ∧ 0 ≤ p.f1 ∧ p.f1 ≤ 9 := by simp [okP]
theorem implOk (a b : Int) : impl_PtOk.f a b = some (okP ⟨a, b⟩) := by
  unfold impl_PtOk.f okP
  by_cases h1 : a ≥ 0
  · by_cases h2 : a ≤ 9
    · by_cases h3 : b ≥ 0
      · rw [if_pos h1, if_pos h2, if_pos h3]; congr 1; simp only [decide_eq_decide]; omega
      · rw [if_pos h1, if_pos h2, if_neg h3]; congr 1; symm; simp only [decide_eq_false_iff_not]; omega
    · rw [if_pos h1, if_neg h2]; congr 1; symm; simp only [decide_eq_false_iff_not]; omega
  · rw [if_neg h1]; congr 1; symm; simp only [decide_eq_false_iff_not]; omega
theorem specIn (a b c : Int) : spec_l6In.f a b c = some (decide (b ≤ a ∧ a ≤ c)) := by
  unfold spec_l6In.f
  by_cases h1 : a ≥ b
  · rw [if_pos h1]; congr 1; simp only [decide_eq_decide]; omega
  · rw [if_neg h1]; congr 1; symm; simp only [decide_eq_false_iff_not]; omega
theorem specOk (a b : Int) : spec_PtOk.f a b = some (okP ⟨a, b⟩) := by
  unfold spec_PtOk.f okP
  rw [specIn, specIn]
  simp only [Option.bind_some]
  by_cases h1 : 0 ≤ a ∧ a ≤ 9
  · rw [decide_eq_true h1, if_pos rfl]; congr 1; simp only [decide_eq_decide]; omega
  · rw [decide_eq_false h1, if_neg (by decide)]; congr 1; symm; simp only [decide_eq_false_iff_not]; omega

/-- one step apart -/
def stepP (a b : PT) : Bool := (wrap64 (a.f0 + 1) == b.f0 && a.f1 == b.f1) || ((a.f0 == b.f0 && wrap64 (a.f1 + 1) == b.f1) || ((wrap64 (a.f0 - 1) == b.f0 && a.f1 == b.f1) || (a.f0 == b.f0 && wrap64 (a.f1 - 1) == b.f1)))
theorem implStep (a b : PT) : impl_isStep.f a.f0 a.f1 b.f0 b.f1 = some (stepP a b) := rfl
/-- one step apart, as numbers -/
def Step (a b : PT) : Prop := (b.f0 = a.f0 + 1 ∧ b.f1 = a.f1) ∨ (b.f0 = a.f0 ∧ b.f1 = a.f1 + 1) ∨ (b.f0 = a.f0 - 1 ∧ b.f1 = a.f1) ∨ (b.f0 = a.f0 ∧ b.f1 = a.f1 - 1)
instance (a b : PT) : Decidable (Step a b) := by unfold Step; infer_instance
theorem stepP_iff {a b : PT} (ha : okP a = true) : stepP a b = true ↔ Step a b := by
  rw [okP_iff] at ha
  unfold stepP Step
  rw [w_id (x := a.f0 + 1) (by omega) (by omega), w_id (x := a.f1 + 1) (by omega) (by omega), w_id (x := a.f0 - 1) (by omega) (by omega), w_id (x := a.f1 - 1) (by omega) (by omega)]
  simp only [Bool.or_eq_true, Bool.and_eq_true, beq_iff_eq]
  omega
theorem dot_one {x y : Int} (hx : -9 ≤ x ∧ x ≤ 9) (hy : -9 ≤ y ∧ y ≤ 9) : x * x + y * y = 1 ↔ (x = 1 ∧ y = 0) ∨ (x = 0 ∧ y = 1) ∨ (x = -1 ∧ y = 0) ∨ (x = 0 ∧ y = -1) := by
  obtain ⟨h1, h2⟩ := hx
  obtain ⟨h3, h4⟩ := hy
  have ex : x * x = 0 ∧ x = 0 ∨ x * x = 1 ∧ (x = 1 ∨ x = -1) ∨ 4 ≤ x * x ∧ (x ≤ -2 ∨ 2 ≤ x) := by
    have : x = -9 ∨ x = -8 ∨ x = -7 ∨ x = -6 ∨ x = -5 ∨ x = -4 ∨ x = -3 ∨ x = -2 ∨ x = -1 ∨ x = 0 ∨ x = 1 ∨ x = 2 ∨ x = 3 ∨ x = 4 ∨ x = 5 ∨ x = 6 ∨ x = 7 ∨ x = 8 ∨ x = 9 := by omega
    rcases this with h | h | h | h | h | h | h | h | h | h | h | h | h | h | h | h | h | h | h <;> subst h <;> decide
  have ey : y * y = 0 ∧ y = 0 ∨ y * y = 1 ∧ (y = 1 ∨ y = -1) ∨ 4 ≤ y * y ∧ (y ≤ -2 ∨ 2 ≤ y) := by
    have : y = -9 ∨ y = -8 ∨ y = -7 ∨ y = -6 ∨ y = -5 ∨ y = -4 ∨ y = -3 ∨ y = -2 ∨ y = -1 ∨ y = 0 ∨ y = 1 ∨ y = 2 ∨ y = 3 ∨ y = 4 ∨ y = 5 ∨ y = 6 ∨ y = 7 ∨ y = 8 ∨ y = 9 := by omega
    rcases this with h | h | h | h | h | h | h | h | h | h | h | h | h | h | h | h | h | h | h <;> subst h <;> decide
  generalize x * x = a at *
  generalize y * y = b at *
  omega
theorem w_mul {x y : Int} (hx : -9 ≤ x ∧ x ≤ 9) (hy : -9 ≤ y ∧ y ≤ 9) : -81 ≤ x * y ∧ x * y ≤ 81 := by
  have : x = -9 ∨ x = -8 ∨ x = -7 ∨ x = -6 ∨ x = -5 ∨ x = -4 ∨ x = -3 ∨ x = -2 ∨ x = -1 ∨ x = 0 ∨ x = 1 ∨ x = 2 ∨ x = 3 ∨ x = 4 ∨ x = 5 ∨ x = 6 ∨ x = 7 ∨ x = 8 ∨ x = 9 := by omega
  rcases this with h | h | h | h | h | h | h | h | h | h | h | h | h | h | h | h | h | h | h <;> subst h <;> omega
theorem specBeside {a b : PT} (ha : okP a = true) (hb : okP b = true) : spec_l13Beside.f a.f0 a.f1 b.f0 b.f1 = some (decide (Step a b)) := by
  rw [okP_iff] at ha hb
  unfold spec_l13Beside.f spec_l2Dot.f
  simp only [Option.bind_some]
  have hx : -9 ≤ b.f0 - a.f0 ∧ b.f0 - a.f0 ≤ 9 := by omega
  have hy : -9 ≤ b.f1 - a.f1 ∧ b.f1 - a.f1 ≤ 9 := by omega
  have mx := w_mul hx hx
  have my := w_mul hy hy
  rw [w_id (x := b.f0 - a.f0) (by omega) (by omega), w_id (x := b.f1 - a.f1) (by omega) (by omega), w_id (x := (b.f0 - a.f0) * (b.f0 - a.f0)) (by omega) (by omega), w_id (x := (b.f1 - a.f1) * (b.f1 - a.f1)) (by omega) (by omega), w_id (by omega) (by omega)]
  congr 1
  rw [Bool.eq_iff_iff, beq_iff_eq, decide_eq_true_eq, dot_one hx hy]
  unfold Step
  omega

/-- a path: 1 to 400 points of the grid, each one step from the one ahead -/
def PathTo (l : List PT) (i : Nat) : Prop := ∀ j, i ≤ j → j < l.length → okP (g l j) = true ∧ (0 < j → Step (g l (j - 1)) (g l j))
def IsPath (l : List PT) : Prop := 1 ≤ l.length ∧ l.length ≤ 400 ∧ PathTo l 0
theorem PathTo.cons {l : List PT} {i : Nat} (h : okP (g l i) = true) (h' : 0 < i → Step (g l (i - 1)) (g l i)) (r : PathTo l (i + 1)) : PathTo l i := by
  intro j h1 h2
  rcases Nat.eq_or_lt_of_le h1 with e | e
  · subst e; exact ⟨h, h'⟩
  · exact r j e h2
theorem isPath_l0 (l : List PT) (hl : l.length < 1000000000000000000) : ∀ (d k i : Nat), l.length - i = d → i ≤ l.length → d < k → (∀ j, j < i → okP (g l j) = true) →
    ∃ b, impl_isPath.l0 k l l (l.length : Int) (i : Int) = some b ∧ (b = true ↔ PathTo l i) := by
  intro d
  induction d with
  | zero =>
    intro k i hd hi hk _
    obtain ⟨k, rfl⟩ : ∃ m, k = m + 1 := ⟨k - 1, by omega⟩
    refine ⟨true, ?_, by simp only [true_iff]; intro j h1 h2; omega⟩
    simp only [impl_isPath.l0]
    rw [if_neg (by omega)]
  | succ d ih =>
    intro k i hd hi hk hbef
    obtain ⟨k, rfl⟩ : ∃ m, k = m + 1 := ⟨k - 1, by omega⟩
    simp only [impl_isPath.l0]
    rw [if_pos (by omega), if_pos (by omega), if_pos (by omega), rd_nat, implOk]
    simp only [Option.bind_some]
    by_cases hok : okP (g l i) = true
    · rw [if_pos (by simpa using hok), w_succ (by omega)]
      have hbef' : ∀ j, j < i + 1 → okP (g l j) = true := fun j hj => by
        rcases Nat.eq_or_lt_of_le (Nat.le_of_lt_succ hj) with e | e
        · subst e; exact hok
        · exact hbef j e
      by_cases h0 : 0 < i
      · rw [if_pos (by omega), w_pred h0 (by omega), if_pos (by omega), if_pos (by omega), rd_nat, implStep]
        simp only [Option.bind_some]
        by_cases hs : stepP (g l (i - 1)) (g l i) = true
        · rw [if_pos hs]
          obtain ⟨b, hb, hb'⟩ := ih k (i + 1) (by omega) (by omega) (by omega) hbef'
          refine ⟨b, hb, hb'.trans ⟨fun r => PathTo.cons hok (fun _ => (stepP_iff (hbef _ (by omega))).1 hs) r, fun r j h1 h2 => r j (by omega) h2⟩⟩
        · rw [if_neg hs]
          refine ⟨false, rfl, by simp only [Bool.false_eq_true, false_iff]; exact fun r => hs ((stepP_iff (hbef _ (by omega))).2 ((r i (Nat.le_refl _) (by omega)).2 h0))⟩
      · rw [if_neg (by omega)]
        obtain ⟨b, hb, hb'⟩ := ih k (i + 1) (by omega) (by omega) (by omega) hbef'
        exact ⟨b, hb, hb'.trans ⟨fun r => PathTo.cons hok (fun h => absurd h h0) r, fun r j h1 h2 => r j (by omega) h2⟩⟩
    · rw [if_neg (by simpa using hok)]
      exact ⟨false, rfl, by simp only [Bool.false_eq_true, false_iff]; exact fun r => hok (r i (Nat.le_refl _) (by omega)).1⟩
theorem isPath_f (l : List PT) (hl : l.length < 1000000000000000000) (k : Nat) (hk : l.length + 2 ≤ k) : ∃ b, impl_isPath.f k l = some b ∧ (b = true ↔ IsPath l) := by
  obtain ⟨k, rfl⟩ : ∃ m, k = m + 1 := ⟨k - 1, by omega⟩
  unfold impl_isPath.f IsPath
  simp only [impl_isPath.j0]
  by_cases h1 : (l.length : Int) < 1
  · rw [if_pos h1, if_pos trivial]
    exact ⟨false, rfl, by simp only [Bool.false_eq_true, false_iff]; omega⟩
  · rw [if_neg h1]
    by_cases h2 : (l.length : Int) > 400
    · rw [decide_eq_true h2, if_pos rfl]
      exact ⟨false, rfl, by simp only [Bool.false_eq_true, false_iff]; omega⟩
    · rw [decide_eq_false h2, if_neg (by decide)]
      obtain ⟨b, hb, hb'⟩ := isPath_l0 l hl l.length k 0 (by omega) (by omega) (by omega) (fun j hj => by omega)
      exact ⟨b, hb, hb'.trans ⟨fun r => ⟨by omega, by omega, r⟩, fun r => r.2.2⟩⟩
theorem l22Path_l0 (l : List PT) (hl : l.length < 1000000000000000000) : ∀ (d k i : Nat), l.length - i = d → i ≤ l.length → d < k → (∀ j, j < i → okP (g l j) = true) →
    ∃ b, spec_l22Path.l0 k l (i : Int) = some b ∧ (b = true ↔ PathTo l i ∧ 1 ≤ l.length ∧ l.length ≤ 400) := by
  intro d
  induction d with
  | zero =>
    intro k i hd hi hk _
    obtain ⟨k, rfl⟩ : ∃ m, k = m + 1 := ⟨k - 1, by omega⟩
    simp only [spec_l22Path.l0]
    rw [if_neg (by omega), specIn]
    refine ⟨_, rfl, ?_⟩
    rw [decide_eq_true_eq]
    exact ⟨fun h => ⟨fun j h1 h2 => by omega, by omega, by omega⟩, fun h => by omega⟩
  | succ d ih =>
    intro k i hd hi hk hbef
    obtain ⟨k, rfl⟩ : ∃ m, k = m + 1 := ⟨k - 1, by omega⟩
    simp only [spec_l22Path.l0]
    rw [if_pos (by omega), if_pos (by omega), rd_nat, specOk]
    simp only [Option.bind_some]
    by_cases hok : okP (g l i) = true
    · rw [if_pos (by simpa using hok), w_succ (by omega)]
      have hbef' : ∀ j, j < i + 1 → okP (g l j) = true := fun j hj => by
        rcases Nat.eq_or_lt_of_le (Nat.le_of_lt_succ hj) with e | e
        · subst e; exact hok
        · exact hbef j e
      by_cases h0 : 0 < i
      · rw [if_pos (by omega), w_pred h0 (by omega), if_pos (by omega), if_pos (by omega), rd_nat, specBeside (hbef _ (by omega)) hok]
        simp only [Option.bind_some]
        by_cases hs : Step (g l (i - 1)) (g l i)
        · rw [if_pos (decide_eq_true hs)]
          obtain ⟨b, hb, hb'⟩ := ih k (i + 1) (by omega) (by omega) (by omega) hbef'
          exact ⟨b, hb, hb'.trans ⟨fun r => ⟨PathTo.cons hok (fun _ => hs) r.1, r.2⟩, fun r => ⟨fun j h1 h2 => r.1 j (by omega) h2, r.2⟩⟩⟩
        · rw [if_neg (by simpa using hs)]
          exact ⟨false, rfl, by simp only [Bool.false_eq_true, false_iff]; exact fun r => hs ((r.1 i (Nat.le_refl _) (by omega)).2 h0)⟩
      · rw [if_neg (by omega)]
        obtain ⟨b, hb, hb'⟩ := ih k (i + 1) (by omega) (by omega) (by omega) hbef'
        exact ⟨b, hb, hb'.trans ⟨fun r => ⟨PathTo.cons hok (fun h => absurd h h0) r.1, r.2⟩, fun r => ⟨fun j h1 h2 => r.1 j (by omega) h2, r.2⟩⟩⟩
    · rw [if_neg (by simpa using hok)]
      exact ⟨false, rfl, by simp only [Bool.false_eq_true, false_iff]; exact fun r => hok (r.1 i (Nat.le_refl _) (by omega)).1⟩
theorem l22Path_f (l : List PT) (hl : l.length < 1000000000000000000) (k : Nat) (hk : l.length + 2 ≤ k) : ∃ b, spec_l22Path.f k l = some b ∧ (b = true ↔ IsPath l) := by
  obtain ⟨b, hb, hb'⟩ := l22Path_l0 l hl l.length k 0 (by omega) (by omega) (by omega) (fun j hj => by omega)
  exact ⟨b, hb, hb'.trans ⟨fun r => ⟨r.2.1, r.2.2, r.1⟩, fun r => ⟨r.2.2, r.1, r.2.1⟩⟩⟩

/-- does the step from b go on as that from a to b -/
def goesOn (a b c : PT) : Bool := c.f0 - b.f0 == b.f0 - a.f0 && c.f1 - b.f1 == b.f1 - a.f1
theorem implGoes {a b c : PT} (ha : okP a = true) (hb : okP b = true) (hc : okP c = true) : impl_goesOn.f a.f0 a.f1 b.f0 b.f1 c.f0 c.f1 = some (goesOn a b c) := by
  rw [okP_iff] at ha hb hc
  unfold impl_goesOn.f goesOn
  rw [w_id (x := c.f0 - b.f0) (by omega) (by omega), w_id (x := b.f0 - a.f0) (by omega) (by omega), w_id (x := c.f1 - b.f1) (by omega) (by omega), w_id (x := b.f1 - a.f1) (by omega) (by omega)]
  by_cases h : c.f0 - b.f0 = b.f0 - a.f0
  · rw [if_pos h, h]; simp
  · rw [if_neg h, show (c.f0 - b.f0 == b.f0 - a.f0) = false from beq_eq_false_iff_ne.2 h]; rfl
/-- is place j of a path one at which it begins, turns, or ends -/
def turnAt (l : List PT) (j : Nat) : Bool := decide (j = 0) || decide (j + 1 = l.length) || !goesOn (g l (j - 1)) (g l j) (g l (j + 1))
def turnsFrom (l : List PT) (i : Nat) : List PT := ((List.range' i (l.length - i)).filter (turnAt l)).map (g l)
def turns (l : List PT) : List PT := turnsFrom l 0
theorem turnsFrom_end (l : List PT) (i : Nat) (h : l.length ≤ i) : turnsFrom l i = [] := by
  unfold turnsFrom
  rw [show l.length - i = 0 by omega]; rfl
theorem turnsFrom_step (l : List PT) (i : Nat) (h : i < l.length) : turnsFrom l i = (if turnAt l i = true then [g l i] else []) ++ turnsFrom l (i + 1) := by
  unfold turnsFrom
  rw [show l.length - i = (l.length - (i + 1)) + 1 by omega, List.range'_succ, List.filter_cons]
  split <;> simp
theorem pt_eta (p : PT) : (⟨p.f0, p.f1⟩ : PT) = p := rfl
theorem codeTurns_l0 (l : List PT) (hp : IsPath l) : ∀ (d k i : Nat) (acc : List PT), l.length - i = d → i ≤ l.length → d < k → acc.length ≤ i →
    impl_CodeTurns.l0 k l acc (wrap64 ((l.length : Int) - 1)) l (l.length : Int) (i : Int) = some (acc ++ turnsFrom l i) := by
  obtain ⟨h1, h2, hp⟩ := hp
  have hw : wrap64 ((l.length : Int) - 1) = ((l.length - 1 : Nat) : Int) := w_pred (by omega) (by omega)
  rw [hw]
  intro d
  induction d with
  | zero =>
    intro k i acc hd hi hk ha
    obtain ⟨k, rfl⟩ : ∃ m, k = m + 1 := ⟨k - 1, by omega⟩
    simp only [impl_CodeTurns.l0]
    rw [if_neg (by omega), turnsFrom_end l i (by omega), List.append_nil]
  | succ d ih =>
    intro k i acc hd hi hk ha
    obtain ⟨k, rfl⟩ : ∃ m, k = m + 1 := ⟨k - 1, by omega⟩
    simp only [impl_CodeTurns.l0]
    rw [if_pos (by omega), if_pos (by omega), if_pos (by omega), rd_nat, pt_eta, turnsFrom_step l i (by omega), w_succ (by omega)]
    have hadd : turnAt l i = true → impl_CodeTurns.l0 k l (acc ++ [g l i]) ((l.length - 1 : Nat) : Int) l (l.length : Int) ((i + 1 : Nat) : Int) = some (acc ++ ((if turnAt l i = true then [g l i] else []) ++ turnsFrom l (i + 1))) := fun ht => by
      rw [if_pos ht, ih k (i + 1) (acc ++ [g l i]) (by omega) (by omega) (by omega) (by simp; omega), List.append_assoc]
    by_cases e0 : i = 0
    · rw [if_pos (by omega), if_pos (by omega)]
      exact hadd (by simp [turnAt, e0])
    · rw [if_neg (by omega)]
      by_cases e1 : i + 1 = l.length
      · rw [if_pos (by omega), if_pos (by omega)]
        exact hadd (by simp [turnAt, e1])
      · rw [if_neg (by omega), w_pred (by omega) (by omega), if_pos (by omega), if_pos (by omega), if_pos (by omega), if_pos (by omega), rd_nat, rd_nat,
          implGoes (hp _ (by omega) (by omega)).1 (hp _ (by omega) (by omega)).1 (hp _ (by omega) (by omega)).1]
        simp only [Option.bind_some]
        have ht : turnAt l i = !goesOn (g l (i - 1)) (g l i) (g l (i + 1)) := by simp [turnAt, e0, e1]
        by_cases hg : goesOn (g l (i - 1)) (g l i) (g l (i + 1)) = true
        · rw [if_pos hg, ih k (i + 1) acc (by omega) (by omega) (by omega) (by omega), ht, hg]
          rfl
        · rw [if_neg hg, if_pos (by omega)]
          exact hadd (by rw [ht]; simpa using hg)
theorem l22Turns_l0 (l : List PT) (hp : IsPath l) : ∀ (d k i : Nat) (acc : List PT), l.length - i = d → i ≤ l.length → 1 ≤ i → d < k → acc.length ≤ i →
    spec_l22Turns.l0 k l acc (i : Int) = some (acc ++ turnsFrom l i) := by
  obtain ⟨h1, h2, hp⟩ := hp
  have hw : wrap64 ((l.length : Int) - 1) = ((l.length - 1 : Nat) : Int) := w_pred (by omega) (by omega)
  intro d
  induction d with
  | zero =>
    intro k i acc hd hi _ hk ha
    obtain ⟨k, rfl⟩ : ∃ m, k = m + 1 := ⟨k - 1, by omega⟩
    simp only [spec_l22Turns.l0]
    rw [if_neg (by omega), turnsFrom_end l i (by omega), List.append_nil]
  | succ d ih =>
    intro k i acc hd hi e0 hk ha
    obtain ⟨k, rfl⟩ : ∃ m, k = m + 1 := ⟨k - 1, by omega⟩
    simp only [spec_l22Turns.l0]
    rw [if_pos (by omega), hw, turnsFrom_step l i (by omega), w_succ (by omega), rd_nat]
    have hadd : turnAt l i = true → spec_l22Turns.l0 k l (acc ++ [g l i]) ((i + 1 : Nat) : Int) = some (acc ++ ((if turnAt l i = true then [g l i] else []) ++ turnsFrom l (i + 1))) := fun ht => by
      rw [if_pos ht, ih k (i + 1) (acc ++ [g l i]) (by omega) (by omega) (by omega) (by omega) (by simp; omega), List.append_assoc]
    by_cases e1 : i + 1 = l.length
    · rw [if_pos (by omega), if_pos (by omega), if_pos (by omega), pt_eta]
      exact hadd (by simp [turnAt, e1])
    · have oa := (hp (i - 1) (by omega) (by omega)).1
      have ob := (hp i (by omega) (by omega)).1
      have oc := (hp (i + 1) (by omega) (by omega)).1
      have ht : turnAt l i = !goesOn (g l (i - 1)) (g l i) (g l (i + 1)) := by simp [turnAt, e1]; omega
      rw [okP_iff] at oa ob oc
      rw [if_neg (by omega), if_pos (by omega), if_pos (by omega), if_pos (by omega), w_pred (by omega) (by omega), if_pos (by omega), if_pos (by omega), rd_nat, rd_nat, pt_eta,
        w_id (x := (g l (i + 1)).f0 - (g l i).f0) (by omega) (by omega), w_id (x := (g l i).f0 - (g l (i - 1)).f0) (by omega) (by omega), w_id (x := (g l (i + 1)).f1 - (g l i).f1) (by omega) (by omega), w_id (x := (g l i).f1 - (g l (i - 1)).f1) (by omega) (by omega)]
      by_cases hx : (g l (i + 1)).f0 - (g l i).f0 = (g l i).f0 - (g l (i - 1)).f0
      · rw [if_pos hx]
        by_cases hy : (g l (i + 1)).f1 - (g l i).f1 = (g l i).f1 - (g l (i - 1)).f1
        · rw [if_pos hy, ih k (i + 1) acc (by omega) (by omega) (by omega) (by omega) (by omega), ht, show goesOn (g l (i - 1)) (g l i) (g l (i + 1)) = true by simp [goesOn, hx, hy]]
          rfl
        · rw [if_neg hy, if_pos (by omega)]
          exact hadd (by rw [ht]; simp [goesOn, hy])
      · rw [if_neg hx, if_pos (by omega)]
        exact hadd (by rw [ht]; simp [goesOn, hx])
theorem l22Turns_f (l : List PT) (hp : IsPath l) (k : Nat) (hk : l.length < k) : spec_l22Turns.f k l = some (turns l) := by
  have h1 := hp.1
  unfold spec_l22Turns.f turns
  rw [if_pos (by omega), rd_zero, pt_eta, turnsFrom_step l 0 (by omega), if_pos (by simp [turnAt])]
  exact l22Turns_l0 l hp (l.length - 1) k 1 [g l 0] (by omega) (by omega) (by omega) (by omega) (by simp)
open Classical in
/-- what CodeTurns answers -/
noncomputable def codeTurns (l : List PT) : List PT := if IsPath l then turns l else []
theorem implCodeTurns (l : List PT) (hl : l.length < 1000000000000000000) (k : Nat) (hk : l.length + 2 ≤ k) : impl_CodeTurns.f k l = some (codeTurns l) := by
  obtain ⟨b, hb, hb'⟩ := isPath_f l hl k hk
  unfold impl_CodeTurns.f codeTurns
  rw [hb]
  simp only [Option.bind_some]
  by_cases hp : IsPath l
  · rw [if_pos (hb'.2 hp), if_pos hp]
    exact codeTurns_l0 l hp l.length k 0 [] (by omega) (by omega) (by omega) (by simp)
  · rw [if_neg (fun h => hp (hb'.1 h)), if_neg hp]
theorem specCodeTurns (l : List PT) (hl : l.length < 1000000000000000000) (k : Nat) (hk : l.length + 2 ≤ k) : spec_CodeTurns.f k l = some (codeTurns l) := by
  obtain ⟨b, hb, hb'⟩ := l22Path_f l hl k hk
  unfold spec_CodeTurns.f codeTurns
  rw [hb]
  simp only [Option.bind_some]
  by_cases hp : IsPath l
  · rw [if_pos (hb'.2 hp), if_pos hp, l22Turns_f l hp k (by omega)]
    rfl
  · rw [if_neg (fun h => hp (hb'.1 h)), if_neg hp]
end Go.Proofs.Ytdacpdhpifocbaa.Q

