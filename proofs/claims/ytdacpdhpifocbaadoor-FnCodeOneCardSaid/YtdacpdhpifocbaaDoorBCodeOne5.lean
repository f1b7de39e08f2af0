/- Part 6 of what CodeOne rests on: contracts of the program's functions and plain facts (the print's texts and the session's own, put together). -/
import Derived.Test.YtdacpdhpifocbaaDoorBCodeOne4
namespace Go.Proofs.YtdacpdhpifocbaaDoor.P
open Go.RowKit Go.Proofs.YtdacpdhpifocbaaDoorW.PrintWords Go.Proofs.YtdacpdhpifocbaaDoorW.PrintLast Go.Proofs.YtdacpdhpifocbaaDoorW.PrintMore
attribute [local go_sem] max2_int min2_int max_two min_two max_three min_three max_four min_four   -- for this text's walks alone
set_option linter.unusedVariables false
set_option linter.unusedSimpArgs false

/-! ### spec_l6Open: function 36 -/
def spec_l6Open.f (l0 : List Int) : Option (List Int × Int) := if (l0.length : Int) > 2000 then (if 2000 ≤ (l0.length : Int) then (some (l0.take 2000, 0)) else (none)) else (some (l0, 0))
set_option maxHeartbeats 8000000 in
set_option maxRecDepth 100000 in
theorem spec_l6Open.calls (A0 : Option Addr) (c0 : Nat) (l0 : List Int) (r1 : List Int) (r2 : Int) (w0 w : World) (hB : Below w0.heap.size w0 w) (hr0 : Kd.C (Kd.int .u8) w0 A0 l0.length l0) (hc0 : l0.length ≤ c0) (h : spec_l6Open.f l0 = some (r1, r2)) :
  Calls Tryd.prog 36 #[.slice A0 l0.length c0] w fun e w' => ∃ g_ : Nat, e = .returned (.pointer (some ⟨g_, 0, none⟩)) ∧ IsS78 w0 w' g_ r1 r2 ∧ Below w0.heap.size w0 w' ∧ Below w.heap.size w w' := by
 have hu78 := Tryd.underlying78; have HR0 := Aside0.mk hr0; have HC0 := Aside0.mk hc0; clear hr0 hc0; have HBW := Aside0.mk (Below.refl w.heap.size w); have HW0 := Aside0.mk hB.size; have HB := Aside0.mk hB; clear hB; have H : (if (l0.length : Int) > 2000 then (if 2000 ≤ (l0.length : Int) then (some (l0.take 2000, 0)) else (none)) else (some (l0, 0))) = some (r1, r2) := h; clear h
 by_cases c2 : (l0.length : Int) > 2000
 ·rw [if_pos c2] at H
  have c2b0 : decide (2000 < (l0.length : Int)) = true := decide_eq_true c2; have c2b1 : decide (2000 < l0.length) = true := decide_eq_true (by omega); clear c2
  by_cases c3 : 2000 ≤ (l0.length : Int)
  ·rw [if_pos c3] at H
   have c3b0 := eq_true c3; have c3b1 : decide (2000 ≤ (l0.length : Int)) = true := decide_eq_true c3; clear c3; simp only [Option.some.injEq, Prod.mk.injEq] at H; obtain ⟨rfl, rfl⟩ := H; obtain ⟨i04, hi04, _, hsz4, _⟩ := info_parts info5; obtain ⟨hcut4, hA4, hC4⟩ := print_take_of (P := Tryd.prog) (Value.int .u8) 0 29 5 .i64 Tryd.underlying29 hi04 hsz4 A0 c0 l0 2000 (by omega) (of_decide_eq_true (by first | (with_reducible assumption) | assumption)) HC0.out; have HR101 := Aside0.mk (Kd.C_of_reads (h1 := fun _ => rfl) (hA4 _ (Kd.reads_of_C HR0.out))); have HC101 := Aside0.mk hC4; clear hA4 hC4 hi04 hsz4; go_enter Tryd.func36, Tryd.ntmps36; go_wp2_with (first | ((with_reducible refine gate_dst (N := 10) rfl ?_); refine box_event ?hg (N := 10) ?hd (cs := #[.slice A0 (l0.take 2000).length c0, .int .i64 0]) (t := 78) ?hr ?_; (case hd => rfl); (case hg => rfl); (case hr => first | (go_simp; done) | (go_simp; rfl)); intro gb102 hg w5 hbox hb; have n0_ := Aside0.mk (below_step HBW.out hb); have n1_ := Aside0.mk (below_step (by repeat (first | (with_reducible first | exact HB.out | apply below_alloc | apply pw_below_drewN | apply below_drew1) | exact HB.out)) hb); have n2_ := Aside0.mk (hbox); have n3_ := Aside0.mk ((by rw [hg]; exact (below_size (by repeat (first | (with_reducible first | exact HBW.out | apply below_alloc | apply pw_below_drewN | apply below_drew1) | exact HBW.out))) : w.heap.size ≤ gb102)); have n4_ := Aside0.mk ((Nat.le_trans HW0.out (by rw [hg]; exact (below_size (by repeat (first | (with_reducible first | exact HBW.out | apply below_alloc | apply pw_below_drewN | apply below_drew1) | exact HBW.out))) : w.heap.size ≤ gb102) : w0.heap.size ≤ gb102)); clear HBW; clear HB; have HBW := n0_; have HB := n1_; have BK102 := n2_; have GW102 := n3_; have GE102 := n4_; clear n0_ n1_ n2_ n3_ n4_; clear hb hbox hg)); go_ret
   exact ⟨_, rfl, (show IsS78 w0 _ gb102 (l0.take 2000) 0 from ⟨_, _, by (with_reducible repeat (first | refine blk_drewN ?_ _ | refine blk_drew ?_ | refine blk_alloc ?_ _)); exact BK102.out, GE102.out, HR101.out⟩), by repeat (first | (with_reducible first | exact HB.out | apply below_alloc | apply pw_below_drewN | apply below_drew1 | refine below_set ?_ GE102.out) | exact HB.out), by repeat (first | (with_reducible first | exact HBW.out | apply below_alloc | apply pw_below_drewN | apply below_drew1 | refine below_set ?_ GW102.out) | exact HBW.out)⟩
  ·rw [if_neg c3] at H; exact absurd H (by simp)
 ·rw [if_neg c2] at H
  have c2b0 : decide (2000 < (l0.length : Int)) = false := decide_eq_false c2; have c2b1 : decide (2000 < l0.length) = false := decide_eq_false (by omega); clear c2; simp only [Option.some.injEq, Prod.mk.injEq] at H; obtain ⟨rfl, rfl⟩ := H; go_enter Tryd.func36, Tryd.ntmps36; go_wp2_with (first | ((with_reducible refine gate_dst (N := 10) rfl ?_); refine box_event ?hg (N := 10) ?hd (cs := #[.slice A0 l0.length c0, .int .i64 0]) (t := 78) ?hr ?_; (case hd => rfl); (case hg => rfl); (case hr => first | (go_simp; done) | (go_simp; rfl)); intro gb103 hg w6 hbox hb; have n0_ := Aside0.mk (below_step HBW.out hb); have n1_ := Aside0.mk (below_step (by repeat (first | (with_reducible first | exact HB.out | apply below_alloc | apply pw_below_drewN | apply below_drew1) | exact HB.out)) hb); have n2_ := Aside0.mk (hbox); have n3_ := Aside0.mk ((by rw [hg]; exact (below_size (by repeat (first | (with_reducible first | exact HBW.out | apply below_alloc | apply pw_below_drewN | apply below_drew1) | exact HBW.out))) : w.heap.size ≤ gb103)); have n4_ := Aside0.mk ((Nat.le_trans HW0.out (by rw [hg]; exact (below_size (by repeat (first | (with_reducible first | exact HBW.out | apply below_alloc | apply pw_below_drewN | apply below_drew1) | exact HBW.out))) : w.heap.size ≤ gb103) : w0.heap.size ≤ gb103)); clear HBW; clear HB; have HBW := n0_; have HB := n1_; have BK103 := n2_; have GW103 := n3_; have GE103 := n4_; clear n0_ n1_ n2_ n3_ n4_; clear hb hbox hg)); go_ret
  exact ⟨_, rfl, (show IsS78 w0 _ gb103 l0 0 from ⟨_, _, by (with_reducible repeat (first | refine blk_drewN ?_ _ | refine blk_drew ?_ | refine blk_alloc ?_ _)); exact BK103.out, GE103.out, HR0.out⟩), by repeat (first | (with_reducible first | exact HB.out | apply below_alloc | apply pw_below_drewN | apply below_drew1 | refine below_set ?_ GE103.out) | exact HB.out), by repeat (first | (with_reducible first | exact HBW.out | apply below_alloc | apply pw_below_drewN | apply below_drew1 | refine below_set ?_ GW103.out) | exact HBW.out)⟩

end Go.Proofs.YtdacpdhpifocbaaDoor.P

namespace Go.Proofs.YtdacpdhpifocbaaDoor.P
open Go.RowKit Go.Proofs.YtdacpdhpifocbaaDoorW.PrintWords Go.Proofs.YtdacpdhpifocbaaDoorW.PrintLast Go.Proofs.YtdacpdhpifocbaaDoorW.PrintMore
attribute [local go_sem] max2_int min2_int max_two min_two max_three min_three max_four min_four   -- for this text's walks alone
set_option linter.unusedVariables false
set_option linter.unusedSimpArgs false

/-! ### spec_DrawCodeWrite: function 15 -/
def spec_DrawCodeWrite.f (k : Nat) (l0 : List Int) : Option ((List (S35))) := (spec_l6Open.f l0).bind fun bt101 => ((spec_l72Path.f k bt101.1 bt101.2).bind fun bt104 => (some bt104.1))
theorem spec_DrawCodeWrite.mono : ∀ a0 k, LeO (spec_DrawCodeWrite.f k a0) (spec_DrawCodeWrite.f (k + 1) a0) := by
  intro a0 k
  unfold spec_DrawCodeWrite.f
  repeat' first
      | (with_reducible exact spec_l72Path.mono _ _ _)
      | (with_reducible exact LeO.refl _)
      | (with_reducible exact LeO.none _)
      | (with_reducible refine LeO.ite ?_ ?_)
      | (with_reducible refine LeO.bind ?_ (fun _ => ?_))
      | exact spec_l72Path.mono _ _ _
      | exact LeO.none _
      | refine LeO.ite ?_ ?_
      | refine LeO.bind ?_ (fun _ => ?_)
set_option maxHeartbeats 8000000 in
set_option maxRecDepth 100000 in
theorem spec_DrawCodeWrite.calls (k : Nat) (A0 : Option Addr) (c0 : Nat) (l0 : List Int) (r : List (S35)) (w : World) (hr0 : Kd.C (Kd.int .u8) w A0 l0.length l0) (hc0 : l0.length ≤ c0) (h : spec_DrawCodeWrite.f k l0 = some r) :
  Calls Tryd.prog 15 #[.slice A0 l0.length c0] w fun e w' => ∃ v0_ : Value, e = .returned (v0_) ∧ Kd.R k35 35 w' w.heap.size (fun _ => True) v0_ r ∧ Below w.heap.size w w' := by
 have HR0 := Aside0.mk hr0; have HC0 := Aside0.mk hc0; clear hr0 hc0; have HB := Aside0.mk (Below.refl w.heap.size w); have H : ((spec_l6Open.f l0).bind fun bt101 => ((spec_l72Path.f k bt101.1 bt101.2).bind fun bt104 => (some bt104.1))) = some r := h; clear h; replace H := Option.bind_eq_some_iff.mp H; obtain ⟨⟨t101, t102⟩, A20, H⟩ := H; replace H : ((spec_l72Path.f k t101 t102).bind fun bt104 => (some bt104.1)) = some r := H; have A2 := Aside0.mk A20; clear A20; replace H := Option.bind_eq_some_iff.mp H; obtain ⟨⟨t104, t107⟩, A30, H⟩ := H; replace H : (some t104) = some r := H; have A3 := Aside0.mk A30; clear A30; obtain rfl := Option.some.inj H; go_enter Tryd.func15, Tryd.ntmps15; go_wp2_with (first | ((with_reducible refine gate_callee (f := 36) rfl ?_); refine goesL_ (some 4) rfl rfl Tryd.func36 (by kernel_rfl) rfl #[.slice A0 l0.length c0] rfl (by (try simp only [List.map_toArray, List.map_cons, List.map_nil]); first | done | rfl | (simp only [List.length_drop, List.length_take]; rfl)) ?_; (with_reducible refine (spec_l6Open.calls _ _ l0 t101 t102 w _ ?side1 ?side2 ?side3 A2.out).mono ?_); (case side1 => repeat (first | (with_reducible first | exact HB.out | apply below_alloc | apply pw_below_drewN | apply below_drew1) | exact HB.out)); (case side2 => exact HR0.out); (case side3 => exact HC0.out); rintro e w4 ⟨g103, rfl, hi, hb, hb2⟩; refine ⟨_, rfl, ?_⟩; have n0_ := Aside0.mk (hb); have n1_ := Aside0.mk (hi); clear HB; have HB := n0_; have HI103 := n1_; clear n0_ n1_; (try clear hb); (try clear hb2); (try clear hk); (try clear hi)) | ((with_reducible refine gate_callee (f := 35) rfl ?_); refine goesL_ (some 5) rfl rfl Tryd.func35 (by kernel_rfl) rfl #[.pointer (some ⟨g103, 0, none⟩)] rfl (by (try simp only [List.map_toArray, List.map_cons, List.map_nil]); first | done | rfl | (simp only [List.length_drop, List.length_take]; rfl)) ?_; (with_reducible refine (spec_l72Path.calls k g103 t101 t102 t104 t107 w _ ?side1 ?side2 A3.out).mono ?_); (case side1 => repeat (first | (with_reducible first | exact HI103.out | apply IsS78.alloc | apply IsS78.drewN | apply IsS78.drew | apply IsS78.set_1) | exact HI103.out)); (case side2 => repeat (first | (with_reducible first | exact HB.out | apply below_alloc | apply pw_below_drewN | apply below_drew1 | refine below_set ?_ (IsS78.ge HI103.out)) | exact HB.out)); rintro e w5 ⟨v105, rfl, ho0, hi, hb, hk⟩; refine ⟨_, rfl, ?_⟩; have n0_ := Aside0.mk (Kd.R_lower ho0 (below_size (by repeat (first | (with_reducible first | exact HB.out | apply below_alloc | apply pw_below_drewN | apply below_drew1 | refine below_set ?_ (IsS78.ge HI103.out)) | exact HB.out)))); have n1_ := Aside0.mk (hb); have n2_ := Aside0.mk (hi); clear HB; clear HI103; have HO106 := n0_; have HB := n1_; have HI103 := n2_; clear n0_ n1_ n2_; (try clear hb); (try clear hb2); (try clear hk); (try clear hi); (try clear ho0))); go_ret
 exact ⟨_, by first | rfl | (simp [errW_none, errW_some] <;> rfl) | (simp [*, errW_none, errW_some] <;> rfl), by (with_reducible repeat (first | apply Kd.R_alloc | apply Kd.R_drewN | apply Kd.R_drew)); exact HO106.out, by repeat (first | (with_reducible first | exact HB.out | apply below_alloc | apply pw_below_drewN | apply below_drew1 | refine below_set ?_ (IsS78.ge HI103.out)) | exact HB.out)⟩

end Go.Proofs.YtdacpdhpifocbaaDoor.P

namespace Go.Proofs.YtdacpdhpifocbaaDoor.P
open Go.RowKit Go.Proofs.YtdacpdhpifocbaaDoorW.PrintWords Go.Proofs.YtdacpdhpifocbaaDoorW.PrintLast Go.Proofs.YtdacpdhpifocbaaDoorW.PrintMore
attribute [local go_sem] max2_int min2_int max_two min_two max_three min_three max_four min_four   -- for this text's walks alone
set_option linter.unusedVariables false
set_option linter.unusedSimpArgs false

/-! ### spec_DrawCodeTurns: function 16 -/
def spec_DrawCodeTurns.f (k : Nat) (l0 : List Int) : Option ((List (S35))) := (spec_l6Open.f l0).bind fun bt101 => ((spec_l72Path.f k bt101.1 bt101.2).bind fun bt104 => (some bt104.1))
theorem spec_DrawCodeTurns.mono : ∀ a0 k, LeO (spec_DrawCodeTurns.f k a0) (spec_DrawCodeTurns.f (k + 1) a0) := by
  intro a0 k
  unfold spec_DrawCodeTurns.f
  repeat' first
      | (with_reducible exact spec_l72Path.mono _ _ _)
      | (with_reducible exact LeO.refl _)
      | (with_reducible exact LeO.none _)
      | (with_reducible refine LeO.ite ?_ ?_)
      | (with_reducible refine LeO.bind ?_ (fun _ => ?_))
      | exact spec_l72Path.mono _ _ _
      | exact LeO.none _
      | refine LeO.ite ?_ ?_
      | refine LeO.bind ?_ (fun _ => ?_)
set_option maxHeartbeats 8000000 in
set_option maxRecDepth 100000 in
theorem spec_DrawCodeTurns.calls (k : Nat) (A0 : Option Addr) (c0 : Nat) (l0 : List Int) (r : List (S35)) (w : World) (hr0 : Kd.C (Kd.int .u8) w A0 l0.length l0) (hc0 : l0.length ≤ c0) (h : spec_DrawCodeTurns.f k l0 = some r) :
  Calls Tryd.prog 16 #[.slice A0 l0.length c0] w fun e w' => ∃ v0_ : Value, e = .returned (v0_) ∧ Kd.R k35 35 w' w.heap.size (fun _ => True) v0_ r ∧ Below w.heap.size w w' := by
 have HR0 := Aside0.mk hr0; have HC0 := Aside0.mk hc0; clear hr0 hc0; have HB := Aside0.mk (Below.refl w.heap.size w); have H : ((spec_l6Open.f l0).bind fun bt101 => ((spec_l72Path.f k bt101.1 bt101.2).bind fun bt104 => (some bt104.1))) = some r := h; clear h; replace H := Option.bind_eq_some_iff.mp H; obtain ⟨⟨t101, t102⟩, A20, H⟩ := H; replace H : ((spec_l72Path.f k t101 t102).bind fun bt104 => (some bt104.1)) = some r := H; have A2 := Aside0.mk A20; clear A20; replace H := Option.bind_eq_some_iff.mp H; obtain ⟨⟨t104, t107⟩, A30, H⟩ := H; replace H : (some t104) = some r := H; have A3 := Aside0.mk A30; clear A30; obtain rfl := Option.some.inj H; go_enter Tryd.func16, Tryd.ntmps16; go_wp2_with (first | ((with_reducible refine gate_callee (f := 36) rfl ?_); refine goesL_ (some 4) rfl rfl Tryd.func36 (by kernel_rfl) rfl #[.slice A0 l0.length c0] rfl (by (try simp only [List.map_toArray, List.map_cons, List.map_nil]); first | done | rfl | (simp only [List.length_drop, List.length_take]; rfl)) ?_; (with_reducible refine (spec_l6Open.calls _ _ l0 t101 t102 w _ ?side1 ?side2 ?side3 A2.out).mono ?_); (case side1 => repeat (first | (with_reducible first | exact HB.out | apply below_alloc | apply pw_below_drewN | apply below_drew1) | exact HB.out)); (case side2 => exact HR0.out); (case side3 => exact HC0.out); rintro e w4 ⟨g103, rfl, hi, hb, hb2⟩; refine ⟨_, rfl, ?_⟩; have n0_ := Aside0.mk (hb); have n1_ := Aside0.mk (hi); clear HB; have HB := n0_; have HI103 := n1_; clear n0_ n1_; (try clear hb); (try clear hb2); (try clear hk); (try clear hi)) | ((with_reducible refine gate_callee (f := 35) rfl ?_); refine goesL_ (some 5) rfl rfl Tryd.func35 (by kernel_rfl) rfl #[.pointer (some ⟨g103, 0, none⟩)] rfl (by (try simp only [List.map_toArray, List.map_cons, List.map_nil]); first | done | rfl | (simp only [List.length_drop, List.length_take]; rfl)) ?_; (with_reducible refine (spec_l72Path.calls k g103 t101 t102 t104 t107 w _ ?side1 ?side2 A3.out).mono ?_); (case side1 => repeat (first | (with_reducible first | exact HI103.out | apply IsS78.alloc | apply IsS78.drewN | apply IsS78.drew | apply IsS78.set_1) | exact HI103.out)); (case side2 => repeat (first | (with_reducible first | exact HB.out | apply below_alloc | apply pw_below_drewN | apply below_drew1 | refine below_set ?_ (IsS78.ge HI103.out)) | exact HB.out)); rintro e w5 ⟨v105, rfl, ho0, hi, hb, hk⟩; refine ⟨_, rfl, ?_⟩; have n0_ := Aside0.mk (Kd.R_lower ho0 (below_size (by repeat (first | (with_reducible first | exact HB.out | apply below_alloc | apply pw_below_drewN | apply below_drew1 | refine below_set ?_ (IsS78.ge HI103.out)) | exact HB.out)))); have n1_ := Aside0.mk (hb); have n2_ := Aside0.mk (hi); clear HB; clear HI103; have HO106 := n0_; have HB := n1_; have HI103 := n2_; clear n0_ n1_ n2_; (try clear hb); (try clear hb2); (try clear hk); (try clear hi); (try clear ho0))); go_ret
 exact ⟨_, by first | rfl | (simp [errW_none, errW_some] <;> rfl) | (simp [*, errW_none, errW_some] <;> rfl), by (with_reducible repeat (first | apply Kd.R_alloc | apply Kd.R_drewN | apply Kd.R_drew)); exact HO106.out, by repeat (first | (with_reducible first | exact HB.out | apply below_alloc | apply pw_below_drewN | apply below_drew1 | refine below_set ?_ (IsS78.ge HI103.out)) | exact HB.out)⟩

end Go.Proofs.YtdacpdhpifocbaaDoor.P

namespace Go.Proofs.YtdacpdhpifocbaaDoor.P
open Go.RowKit Go.Proofs.YtdacpdhpifocbaaDoorW.PrintWords Go.Proofs.YtdacpdhpifocbaaDoorW.PrintLast Go.Proofs.YtdacpdhpifocbaaDoorW.PrintMore
attribute [local go_sem] max2_int min2_int max_two min_two max_three min_three max_four min_four   -- for this text's walks alone
set_option linter.unusedVariables false
set_option linter.unusedSimpArgs false

attribute [local go_sem high] eqA35
/-! ### laws_luSame: function 17 -/
def laws_luSame.l0 : Nat → List (S35) → List (S35) → Int → Option (Bool)
  | 0, _, _, _ => none
  | k + 1, x0, x1, x5 => if x5 < (x0.length : Int) then (if 0 ≤ x5 then (if x5 < (x1.length : Int) then (if (!(((rd_T35 x0 x5).f0) == ((rd_T35 x1 x5).f0)) || (!(((rd_T35 x0 x5).f1) == ((rd_T35 x1 x5).f1)))) = true then (some false) else (laws_luSame.l0 k x0 x1 (wrap64 (x5 + 1)))) else (none)) else (none)) else (some true)
def laws_luSame.f (k : Nat) (l0 : List (S35)) (l1 : List (S35)) : Option (Bool) := if (l0.length : Int) = (l1.length : Int) then (laws_luSame.l0 k l0 l1 0) else (some false)
theorem laws_luSame.mono_l : ∀ k, (∀ y0 y1 y2, LeO (laws_luSame.l0 k y0 y1 y2) (laws_luSame.l0 (k + 1) y0 y1 y2))
  | 0 => fun _ _ _ r h => by simp [laws_luSame.l0] at h
  | k + 1 => by
    have ih0 := laws_luSame.mono_l k
    · intro y0 y1 y2
      unfold laws_luSame.l0
      repeat' first
      | (with_reducible exact ih0 _ _ _)
      | (with_reducible exact LeO.refl _)
      | (with_reducible exact LeO.none _)
      | (with_reducible refine LeO.ite ?_ ?_)
      | (with_reducible refine LeO.bind ?_ (fun _ => ?_))
      | exact ih0 _ _ _
      | exact LeO.none _
      | refine LeO.ite ?_ ?_
      | refine LeO.bind ?_ (fun _ => ?_)
theorem laws_luSame.mono : ∀ a0 a1 k, LeO (laws_luSame.f k a0 a1) (laws_luSame.f (k + 1) a0 a1) := by
  intro a0 a1 k
  have ih0 := laws_luSame.mono_l k
  unfold laws_luSame.f
  repeat' first
      | (with_reducible exact ih0 _ _ _)
      | (with_reducible exact LeO.refl _)
      | (with_reducible exact LeO.none _)
      | (with_reducible refine LeO.ite ?_ ?_)
      | (with_reducible refine LeO.bind ?_ (fun _ => ?_))
      | exact ih0 _ _ _
      | exact LeO.none _
      | refine LeO.ite ?_ ?_
      | refine LeO.bind ?_ (fun _ => ?_)
set_option maxHeartbeats 8000000 in
set_option maxRecDepth 100000 in
theorem laws_luSame.calls (k : Nat) (A0 : Option Addr) (c0 : Nat) (l0 : List (S35)) (A1 : Option Addr) (c1 : Nat) (l1 : List (S35)) (r : Bool) (w : World) (hr0 : Kd.C k35 w A0 l0.length l0) (hc0 : l0.length ≤ c0) (hr1 : Kd.C k35 w A1 l1.length l1) (hc1 : l1.length ≤ c1) (h : laws_luSame.f k l0 l1 = some r) :
  Calls Tryd.prog 17 #[.slice A0 l0.length c0, .slice A1 l1.length c1] w fun e w' => e = .returned (.bool r) ∧ Drawn0 w w' := by
 have hu35 := Tryd.underlying35; have HR0 := Aside0.mk hr0; have HC0 := Aside0.mk hc0; clear hr0 hc0; have HR1 := Aside0.mk hr1; have HC1 := Aside0.mk hc1; clear hr1 hc1; have H : (if (l0.length : Int) = (l1.length : Int) then (laws_luSame.l0 k l0 l1 0) else (some false)) = some r := h; clear h
 by_cases c3 : (l0.length : Int) = (l1.length : Int)
 ·rw [if_pos c3] at H
  have c3b0 : ((l0.length : Int) == (l1.length : Int)) = true := beq_iff_eq.mpr c3; have c3b1 : ((l0.length : Int) != (l1.length : Int)) = false := bne_eq_false_iff_eq.mpr c3
  have c3b2 : (l0.length == l1.length) = true := by first | simpa using c3 | (simp at c3 ⊢; omega)
  clear c3; have H' := Aside0.mk H; clear H; go_enter Tryd.func17, Tryd.ntmps17; go_wp2
  repeat (go_quiet (fail); try go_wp2)
  go_loopg [5] k (fun kq v5 w' => ∃ (x5_1 : Int), v5 = .int .i64 x5_1 ∧ Aside0 (laws_luSame.l0 kq l0 l1 x5_1 = some r) ∧ Aside0 (kq ≤ k) ∧ Drawn0 w w')
  case atStart => exact ⟨(0), (by first | rfl | (simp; done) | (simp [*]; done)), H', ⟨Nat.le_refl _⟩, by repeat (first | exact Drawn0.refl _ | apply Drawn0.step)⟩
  case round =>
   clear H'
   try clear c1
   try clear p2
   try clear c3
   try clear c3b0
   try clear c3b1
   try clear c3b2
   obtain ⟨x5_1, rfl, HA, HK1, ⟨m1, rfl⟩⟩ := hrel
   cases gk with
   | zero => exact absurd HA.out (by simp [laws_luSame.l0])
   | succ k1 =>
    have H := HA.out; clear HA; simp only [laws_luSame.l0] at H
    by_cases c4 : x5_1 < (l0.length : Int)
    ·rw [if_pos c4] at H
     have c4b0 : decide (x5_1 < (l0.length : Int)) = true := decide_eq_true c4; clear c4
     by_cases c5 : 0 ≤ x5_1
     ·rw [if_pos c5] at H
      have c5b0 : decide (0 ≤ x5_1) = true := decide_eq_true c5; clear c5
      by_cases c6 : x5_1 < (l1.length : Int)
      ·rw [if_pos c6] at H
       have c6b0 : decide (x5_1 < (l1.length : Int)) = true := decide_eq_true c6; clear c6
       by_cases c7 : (!(((rd_T35 l0 x5_1).f0) == ((rd_T35 l1 x5_1).f0)) || (!(((rd_T35 l0 x5_1).f1) == ((rd_T35 l1 x5_1).f1)))) = true
       ·rw [if_pos c7] at H
        have c7b0 : (!(((rd_T35 l0 x5_1).f0) == ((rd_T35 l1 x5_1).f0)) || (!(((rd_T35 l0 x5_1).f1) == ((rd_T35 l1 x5_1).f1)))) = true := c7; clear c7; obtain rfl := Option.some.inj H; have p101 : 0 ≤ (x5_1 : Int) := of_decide_eq_true (by first | (with_reducible assumption) | assumption); have q101 : x5_1 < (l0.length : Int) := of_decide_eq_true (by first | (with_reducible assumption) | assumption); obtain ⟨ad101, e101, hx101_0, hx101_1⟩ := at_T35 HR0.out x5_1 p101 q101
        cases e101
        replace p101 := eq_true p101; replace q101 := eq_true q101; have p102 : 0 ≤ (x5_1 : Int) := of_decide_eq_true (by first | (with_reducible assumption) | assumption); have q102 : x5_1 < (l1.length : Int) := of_decide_eq_true (by first | (with_reducible assumption) | assumption); obtain ⟨ad102, e102, hx102_0, hx102_1⟩ := at_T35 HR1.out x5_1 p102 q102
        cases e102
        replace p102 := eq_true p102; replace q102 := eq_true q102; go_wp2
        repeat (go_quiet (fail); try go_wp2)
        go_ret
        exact ⟨by first | rfl | (simp; done) | (simp [*]; done), by repeat (first | exact Drawn0.refl _ | apply Drawn0.step)⟩
       ·rw [if_neg c7] at H
        have c7b0 : (!(((rd_T35 l0 x5_1).f0) == ((rd_T35 l1 x5_1).f0)) || (!(((rd_T35 l0 x5_1).f1) == ((rd_T35 l1 x5_1).f1)))) = false := by simpa using c7
        clear c7; have H' := Aside0.mk H; clear H; have p101 : 0 ≤ (x5_1 : Int) := of_decide_eq_true (by first | (with_reducible assumption) | assumption); have q101 : x5_1 < (l0.length : Int) := of_decide_eq_true (by first | (with_reducible assumption) | assumption); obtain ⟨ad101, e101, hx101_0, hx101_1⟩ := at_T35 HR0.out x5_1 p101 q101
        cases e101
        replace p101 := eq_true p101; replace q101 := eq_true q101; have p102 : 0 ≤ (x5_1 : Int) := of_decide_eq_true (by first | (with_reducible assumption) | assumption); have q102 : x5_1 < (l1.length : Int) := of_decide_eq_true (by first | (with_reducible assumption) | assumption); obtain ⟨ad102, e102, hx102_0, hx102_1⟩ := at_T35 HR1.out x5_1 p102 q102
        cases e102
        replace p102 := eq_true p102; replace q102 := eq_true q102; go_wp2
        repeat (go_quiet (fail); try go_wp2)
        go_roundg k1
        case measure => have := HK1.out; omega
        case rel => exact ⟨(wrap64 (x5_1 + 1)), (by first | rfl | (simp; done) | (simp [*]; done)), H', ⟨by have := HK1.out; omega⟩, by repeat (first | exact Drawn0.refl _ | apply Drawn0.step)⟩
      ·rw [if_neg c6] at H; exact absurd H (by simp)
     ·rw [if_neg c5] at H; exact absurd H (by simp)
    ·rw [if_neg c4] at H
     have c4b0 : decide (x5_1 < (l0.length : Int)) = false := decide_eq_false c4; clear c4; obtain rfl := Option.some.inj H; go_wp2
     repeat (go_quiet (fail); try go_wp2)
     go_ret
     exact ⟨by first | rfl | (simp; done) | (simp [*]; done), by repeat (first | exact Drawn0.refl _ | apply Drawn0.step)⟩
 ·rw [if_neg c3] at H
  have c3b0 : ((l0.length : Int) == (l1.length : Int)) = false := beq_eq_false_iff_ne.mpr c3; have c3b1 : ((l0.length : Int) != (l1.length : Int)) = true := bne_iff_ne.mpr c3
  have c3b2 : (l0.length == l1.length) = false := by first | simpa using c3 | (simp at c3 ⊢; omega)
  obtain rfl := Option.some.inj H; go_enter Tryd.func17, Tryd.ntmps17; go_wp2
  repeat (go_quiet (fail); try go_wp2)
  go_ret
  exact ⟨by first | rfl | (simp; done) | (simp [*]; done), by repeat (first | exact Drawn0.refl _ | apply Drawn0.step)⟩

end Go.Proofs.YtdacpdhpifocbaaDoor.P

namespace Go.Proofs.YtdacpdhpifocbaaDoor.P
open Go.RowKit Go.Proofs.YtdacpdhpifocbaaDoorW.PrintWords Go.Proofs.YtdacpdhpifocbaaDoorW.PrintLast Go.Proofs.YtdacpdhpifocbaaDoorW.PrintMore
attribute [local go_sem] max2_int min2_int max_two min_two max_three min_three max_four min_four   -- for this text's walks alone
set_option linter.unusedVariables false
set_option linter.unusedSimpArgs false

/-! ### laws_FnCodeOne: function 4 -/
mutual
def laws_FnCodeOne.j0 : Nat → List Int → List Int → Bool → Option (Bool)
  | 0, _, _, _ => none
  | k + 1, x0, x1, x16 => if x16 = true then (some true) else ((spec_DrawCodeWrite.f k x0).bind fun t101 => ((spec_DrawCodeTurns.f k x1).bind fun t104 => ((impl_CodeWrite.f k t101).bind fun t107 => ((impl_CodeWrite.f k t104).bind fun t108 => ((spec_CodeWrite.f k t101).bind fun t109 => (if t107.toList = t109.toList then (if t107.toList = ([] : List UInt8) then (laws_FnCodeOne.j1 k t101 t104 t107 t108 true) else (laws_FnCodeOne.j1 k t101 t104 t107 t108 (t108.toList == ([] : List UInt8)))) else (laws_FnCodeOne.j1 k t101 t104 t107 t108 true)))))))
def laws_FnCodeOne.j1 : Nat → List (S35) → List (S35) → ByteArray → ByteArray → Bool → Option (Bool)
  | 0, _, _, _, _, _ => none
  | k + 1, x5, x6, x7, x8, x36 => if x36 = true then ((spec_CodeWrite.f k x5).bind fun t110 => (some (x7.toList == t110.toList))) else ((laws_luSame.f k x5 x6).bind fun t111 => (if ((x7.toList == x8.toList) == t111) = true then (if 0 ≤ 2 then (if 2 ≤ (x7.size : Int) then (if (x7.extract 0 2).toList = ([71, 48] : List UInt8) then (if 2 ≤ (x8.size : Int) then (some ((x8.extract 0 2).toList == ([71, 48] : List UInt8))) else (none)) else (some false)) else (none)) else (none)) else (some false)))
end
def laws_FnCodeOne.f (k : Nat) (l0 : List Int) (l1 : List Int) : Option (Bool) := if (l0.length : Int) > 1048576 then (laws_FnCodeOne.j0 k l0 l1 true) else (laws_FnCodeOne.j0 k l0 l1 (decide ((l1.length : Int) > 1048576)))
theorem laws_FnCodeOne.mono_l : ∀ k, (∀ y0 y1 y2, LeO (laws_FnCodeOne.j0 k y0 y1 y2) (laws_FnCodeOne.j0 (k + 1) y0 y1 y2)) ∧ (∀ y0 y1 y2 y3 y4, LeO (laws_FnCodeOne.j1 k y0 y1 y2 y3 y4) (laws_FnCodeOne.j1 (k + 1) y0 y1 y2 y3 y4))
  | 0 => ⟨fun _ _ _ r h => by simp [laws_FnCodeOne.j0] at h, fun _ _ _ _ _ r h => by simp [laws_FnCodeOne.j1] at h⟩
  | k + 1 => by
    obtain ⟨ih0, ih1⟩ := laws_FnCodeOne.mono_l k
    refine ⟨?_, ?_⟩
    · intro y0 y1 y2
      unfold laws_FnCodeOne.j0
      repeat' first
      | (with_reducible exact ih0 _ _ _)
      | (with_reducible exact ih1 _ _ _ _ _)
      | (with_reducible exact impl_CodeWrite.mono _ _)
      | (with_reducible exact laws_luSame.mono _ _ _)
      | (with_reducible exact spec_CodeWrite.mono _ _)
      | (with_reducible exact spec_DrawCodeTurns.mono _ _)
      | (with_reducible exact spec_DrawCodeWrite.mono _ _)
      | (with_reducible exact LeO.refl _)
      | (with_reducible exact LeO.none _)
      | (with_reducible refine LeO.ite ?_ ?_)
      | (with_reducible refine LeO.bind ?_ (fun _ => ?_))
      | exact ih0 _ _ _
      | exact ih1 _ _ _ _ _
      | exact impl_CodeWrite.mono _ _
      | exact laws_luSame.mono _ _ _
      | exact spec_CodeWrite.mono _ _
      | exact spec_DrawCodeTurns.mono _ _
      | exact spec_DrawCodeWrite.mono _ _
      | exact LeO.none _
      | refine LeO.ite ?_ ?_
      | refine LeO.bind ?_ (fun _ => ?_)
    · intro y0 y1 y2 y3 y4
      unfold laws_FnCodeOne.j1
      repeat' first
      | (with_reducible exact ih0 _ _ _)
      | (with_reducible exact ih1 _ _ _ _ _)
      | (with_reducible exact impl_CodeWrite.mono _ _)
      | (with_reducible exact laws_luSame.mono _ _ _)
      | (with_reducible exact spec_CodeWrite.mono _ _)
      | (with_reducible exact spec_DrawCodeTurns.mono _ _)
      | (with_reducible exact spec_DrawCodeWrite.mono _ _)
      | (with_reducible exact LeO.refl _)
      | (with_reducible exact LeO.none _)
      | (with_reducible refine LeO.ite ?_ ?_)
      | (with_reducible refine LeO.bind ?_ (fun _ => ?_))
      | exact ih0 _ _ _
      | exact ih1 _ _ _ _ _
      | exact impl_CodeWrite.mono _ _
      | exact laws_luSame.mono _ _ _
      | exact spec_CodeWrite.mono _ _
      | exact spec_DrawCodeTurns.mono _ _
      | exact spec_DrawCodeWrite.mono _ _
      | exact LeO.none _
      | refine LeO.ite ?_ ?_
      | refine LeO.bind ?_ (fun _ => ?_)
theorem laws_FnCodeOne.mono : ∀ a0 a1 k, LeO (laws_FnCodeOne.f k a0 a1) (laws_FnCodeOne.f (k + 1) a0 a1) := by
  intro a0 a1 k
  obtain ⟨ih0, ih1⟩ := laws_FnCodeOne.mono_l k
  unfold laws_FnCodeOne.f
  repeat' first
      | (with_reducible exact ih0 _ _ _)
      | (with_reducible exact ih1 _ _ _ _ _)
      | (with_reducible exact impl_CodeWrite.mono _ _)
      | (with_reducible exact laws_luSame.mono _ _ _)
      | (with_reducible exact spec_CodeWrite.mono _ _)
      | (with_reducible exact spec_DrawCodeTurns.mono _ _)
      | (with_reducible exact spec_DrawCodeWrite.mono _ _)
      | (with_reducible exact LeO.refl _)
      | (with_reducible exact LeO.none _)
      | (with_reducible refine LeO.ite ?_ ?_)
      | (with_reducible refine LeO.bind ?_ (fun _ => ?_))
      | exact ih0 _ _ _
      | exact ih1 _ _ _ _ _
      | exact impl_CodeWrite.mono _ _
      | exact laws_luSame.mono _ _ _
      | exact spec_CodeWrite.mono _ _
      | exact spec_DrawCodeTurns.mono _ _
      | exact spec_DrawCodeWrite.mono _ _
      | exact LeO.none _
      | refine LeO.ite ?_ ?_
      | refine LeO.bind ?_ (fun _ => ?_)
set_option maxHeartbeats 8000000 in
set_option maxRecDepth 100000 in
theorem laws_FnCodeOne.calls (k : Nat) (A0 : Option Addr) (c0 : Nat) (l0 : List Int) (A1 : Option Addr) (c1 : Nat) (l1 : List Int) (r : Bool) (w : World) (hr0 : Kd.C (Kd.int .u8) w A0 l0.length l0) (hc0 : l0.length ≤ c0) (hr1 : Kd.C (Kd.int .u8) w A1 l1.length l1) (hc1 : l1.length ≤ c1) (h : laws_FnCodeOne.f k l0 l1 = some r) :
  Calls Tryd.prog 4 #[.slice A0 l0.length c0, .slice A1 l1.length c1] w fun e w' => e = .returned (.bool r) ∧ Below w.heap.size w w' := by
 have HR0 := Aside0.mk hr0; have HC0 := Aside0.mk hc0; clear hr0 hc0; have HR1 := Aside0.mk hr1; have HC1 := Aside0.mk hc1; clear hr1 hc1; have HB := Aside0.mk (Below.refl w.heap.size w); have H : (if (l0.length : Int) > 1048576 then (laws_FnCodeOne.j0 k l0 l1 true) else (laws_FnCodeOne.j0 k l0 l1 (decide ((l1.length : Int) > 1048576)))) = some r := h; clear h; have HC3 := Aside0.mk H; clear H; go_enter Tryd.func4, Tryd.ntmps4; go_upto_region 1 with (fail); go_cut [16] (fun v16 wc => ∃ (kq : Nat) (x16_2 : Bool), v16 = .bool x16_2 ∧ Aside0 (laws_FnCodeOne.j0 kq l0 l1 x16_2 = some r) ∧ Aside0 (kq ≤ k) ∧ Aside0 (Below w.heap.size w wc))
 case first =>
  have H := HC3.out; clear HC3
  by_cases c4 : (l0.length : Int) > 1048576
  ·rw [if_pos c4] at H
   have c4b0 : decide (1048576 < (l0.length : Int)) = true := decide_eq_true c4; have c4b1 : decide (1048576 < l0.length) = true := decide_eq_true (by omega); clear c4; (first | rw [c4b0] | (simp only [i64_w, i32_w]; rw [c4b0]) | skip); have H' := Aside0.mk H; clear H; go_wp2; go_meet
   case rel => exact ⟨_, (true), (by first | rfl | (simp; done) | (simp [*]; done)), H', ⟨by first | omega | exact Nat.le_refl _⟩, ⟨by repeat (first | (with_reducible first | exact HB.out | apply below_alloc | apply pw_below_drewN | apply below_drew1) | exact HB.out)⟩⟩
  ·rw [if_neg c4] at H
   have c4b0 : decide (1048576 < (l0.length : Int)) = false := decide_eq_false c4; have c4b1 : decide (1048576 < l0.length) = false := decide_eq_false (by omega); clear c4; (first | rw [c4b0] | (simp only [i64_w, i32_w]; rw [c4b0]) | skip); have H' := Aside0.mk H; clear H; go_wp2; go_meet
   case rel => exact ⟨_, (decide ((l1.length : Int) > 1048576)), (by first | rfl | (simp; done) | (simp [*]; done)), H', ⟨by first | omega | exact Nat.le_refl _⟩, ⟨by repeat (first | (with_reducible first | exact HB.out | apply below_alloc | apply pw_below_drewN | apply below_drew1) | exact HB.out)⟩⟩
 case rest =>
  clear HC3
  try clear c1
  try clear p2
  try clear c4
  try clear c4b0
  try clear c4b1
  obtain ⟨kq, x16_2, rfl, HA, HJ2, HB⟩ := hcut
  cases kq with
  | zero => exact absurd HA.out (by simp [laws_FnCodeOne.j0])
  | succ kj2 =>
   have H := HA.out; clear HA; simp only [laws_FnCodeOne.j0] at H
   by_cases c5 : x16_2 = true
   ·subst c5
    have H1 : (some true) = some r := by rw [if_pos rfl] at H; exact H
    clear H; have H := H1; clear H1; obtain rfl := Option.some.inj H; go_wp2; go_ret
    exact ⟨by first | rfl | (simp [errW_none, errW_some] <;> rfl) | (simp [*, errW_none, errW_some] <;> rfl), by repeat (first | (with_reducible first | exact HB.out | apply below_alloc | apply pw_below_drewN | apply below_drew1) | exact HB.out)⟩
   ·replace c5 := Bool.eq_false_iff.mpr c5
    subst c5
    have H1 : ((spec_DrawCodeWrite.f kj2 l0).bind fun t101 => ((spec_DrawCodeTurns.f kj2 l1).bind fun t104 => ((impl_CodeWrite.f kj2 t101).bind fun t107 => ((impl_CodeWrite.f kj2 t104).bind fun t108 => ((spec_CodeWrite.f kj2 t101).bind fun t109 => (if t107.toList = t109.toList then (if t107.toList = ([] : List UInt8) then (laws_FnCodeOne.j1 kj2 t101 t104 t107 t108 true) else (laws_FnCodeOne.j1 kj2 t101 t104 t107 t108 (t108.toList == ([] : List UInt8)))) else (laws_FnCodeOne.j1 kj2 t101 t104 t107 t108 true))))))) = some r := by rw [if_neg (show ¬ (false = true) by decide)] at H; exact H
    clear H; have H := H1; clear H1; replace H := Option.bind_eq_some_iff.mp H; obtain ⟨t101, A60, H⟩ := H; replace H : ((spec_DrawCodeTurns.f kj2 l1).bind fun t104 => ((impl_CodeWrite.f kj2 t101).bind fun t107 => ((impl_CodeWrite.f kj2 t104).bind fun t108 => ((spec_CodeWrite.f kj2 t101).bind fun t109 => (if t107.toList = t109.toList then (if t107.toList = ([] : List UInt8) then (laws_FnCodeOne.j1 kj2 t101 t104 t107 t108 true) else (laws_FnCodeOne.j1 kj2 t101 t104 t107 t108 (t108.toList == ([] : List UInt8)))) else (laws_FnCodeOne.j1 kj2 t101 t104 t107 t108 true)))))) = some r := H; have A6 := Aside0.mk A60; clear A60; replace H := Option.bind_eq_some_iff.mp H; obtain ⟨t104, A70, H⟩ := H; replace H : ((impl_CodeWrite.f kj2 t101).bind fun t107 => ((impl_CodeWrite.f kj2 t104).bind fun t108 => ((spec_CodeWrite.f kj2 t101).bind fun t109 => (if t107.toList = t109.toList then (if t107.toList = ([] : List UInt8) then (laws_FnCodeOne.j1 kj2 t101 t104 t107 t108 true) else (laws_FnCodeOne.j1 kj2 t101 t104 t107 t108 (t108.toList == ([] : List UInt8)))) else (laws_FnCodeOne.j1 kj2 t101 t104 t107 t108 true))))) = some r := H; have A7 := Aside0.mk A70; clear A70; replace H := Option.bind_eq_some_iff.mp H; obtain ⟨t107, A80, H⟩ := H; replace H : ((impl_CodeWrite.f kj2 t104).bind fun t108 => ((spec_CodeWrite.f kj2 t101).bind fun t109 => (if t107.toList = t109.toList then (if t107.toList = ([] : List UInt8) then (laws_FnCodeOne.j1 kj2 t101 t104 t107 t108 true) else (laws_FnCodeOne.j1 kj2 t101 t104 t107 t108 (t108.toList == ([] : List UInt8)))) else (laws_FnCodeOne.j1 kj2 t101 t104 t107 t108 true)))) = some r := H; have A8 := Aside0.mk A80; clear A80; replace H := Option.bind_eq_some_iff.mp H; obtain ⟨t108, A90, H⟩ := H; replace H : ((spec_CodeWrite.f kj2 t101).bind fun t109 => (if t107.toList = t109.toList then (if t107.toList = ([] : List UInt8) then (laws_FnCodeOne.j1 kj2 t101 t104 t107 t108 true) else (laws_FnCodeOne.j1 kj2 t101 t104 t107 t108 (t108.toList == ([] : List UInt8)))) else (laws_FnCodeOne.j1 kj2 t101 t104 t107 t108 true))) = some r := H; have A9 := Aside0.mk A90; clear A90; have HC10 := Aside0.mk H; clear H; go_upto_region 7 with (first | ((with_reducible refine gate_callee (f := 15) rfl ?_); refine goesL_ (some 18) rfl rfl Tryd.func15 (by kernel_rfl) rfl #[.slice A0 l0.length c0] rfl (by (try simp only [List.map_toArray, List.map_cons, List.map_nil]); first | done | rfl | (simp only [List.length_drop, List.length_take]; rfl)) ?_; (with_reducible refine (spec_DrawCodeWrite.calls kj2 _ _ l0 t101 _ ?side1 ?side2 A6.out).mono ?_); (case side1 => repeat (first | exact (Kd.C_below HR0.out HB.out) | (with_reducible refine Kd.C_alloc ?_ _) | (with_reducible refine Kd.C_drewN ?_ _) | (with_reducible refine Kd.C_drew ?_))); (case side2 => exact HC0.out); rintro e w11 ⟨v102, rfl, ho0, hb⟩; refine ⟨_, rfl, ?_⟩; have n0_ := Aside0.mk (Kd.R_lower ho0 (below_size (by repeat (first | (with_reducible first | exact HB.out | apply below_alloc | apply pw_below_drewN | apply below_drew1) | exact HB.out)))); have n1_ := Aside0.mk (below_step (by repeat (first | (with_reducible first | exact HB.out | apply below_alloc | apply pw_below_drewN | apply below_drew1) | exact HB.out)) hb); clear HB; have HO103 := n0_; have HB := n1_; clear n0_ n1_; (try clear hb); (try clear hb2); (try clear hk); (try clear hi); (try clear ho0)) | ((with_reducible refine gate_callee (f := 16) rfl ?_); refine goesL_ (some 20) rfl rfl Tryd.func16 (by kernel_rfl) rfl #[.slice A1 l1.length c1] rfl (by (try simp only [List.map_toArray, List.map_cons, List.map_nil]); first | done | rfl | (simp only [List.length_drop, List.length_take]; rfl)) ?_; (with_reducible refine (spec_DrawCodeTurns.calls kj2 _ _ l1 t104 _ ?side1 ?side2 A7.out).mono ?_); (case side1 => repeat (first | exact (Kd.C_below HR1.out HB.out) | (with_reducible refine Kd.C_alloc ?_ _) | (with_reducible refine Kd.C_drewN ?_ _) | (with_reducible refine Kd.C_drew ?_))); (case side2 => exact HC1.out); rintro e w12 ⟨v105, rfl, ho0, hb⟩; refine ⟨_, rfl, ?_⟩; have n0_ := Aside0.mk (Kd.R_elder' (by (with_reducible repeat (first | apply Kd.R_alloc | apply Kd.R_drewN | apply Kd.R_drew)); exact HO103.out) (Kd.R_base ho0) hb); have n1_ := Aside0.mk (Kd.R_lower (Kd.R_new' ho0 (Kd.R_lt (by (with_reducible repeat (first | apply Kd.R_alloc | apply Kd.R_drewN | apply Kd.R_drew)); exact HO103.out))) (below_size (by repeat (first | (with_reducible first | exact HB.out | apply below_alloc | apply pw_below_drewN | apply below_drew1) | exact HB.out)))); have n2_ := Aside0.mk (below_step (by repeat (first | (with_reducible first | exact HB.out | apply below_alloc | apply pw_below_drewN | apply below_drew1) | exact HB.out)) hb); clear HO103; clear HB; have HO103 := n0_; have HO106 := n1_; have HB := n2_; clear n0_ n1_ n2_; (try clear hb); (try clear hb2); (try clear hk); (try clear hi); (try clear ho0); obtain ⟨Ao13, co13, eo13⟩ := Kd.R_slice HO103.out; subst eo13) | ((with_reducible refine gate_callee (f := 13) rfl ?_); refine goesL_ (some 22) rfl rfl Tryd.func13 (by kernel_rfl) rfl #[.slice Ao13 t101.length co13] rfl (by (try simp only [List.map_toArray, List.map_cons, List.map_nil]); first | done | rfl | (simp only [List.length_drop, List.length_take]; rfl)) ?_; (with_reducible refine (impl_CodeWrite.calls kj2 _ _ t101 t107 _ ?side1 ?side2 A8.out).mono ?_); (case side1 => repeat (first | exact (Kd.R_reads' HO103.out).2.2 | (with_reducible refine Kd.C_alloc ?_ _) | (with_reducible refine Kd.C_drewN ?_ _) | (with_reducible refine Kd.C_drew ?_))); (case side2 => exact (Kd.R_reads' HO103.out).2.1); rintro e w14 ⟨rfl, hb⟩; refine ⟨_, rfl, ?_⟩; have n0_ := Aside0.mk (Kd.R_below (by (with_reducible repeat (first | apply Kd.R_alloc | apply Kd.R_drewN | apply Kd.R_drew)); exact HO103.out) hb); have n1_ := Aside0.mk (Kd.R_below (by (with_reducible repeat (first | apply Kd.R_alloc | apply Kd.R_drewN | apply Kd.R_drew)); exact HO106.out) hb); have n2_ := Aside0.mk (below_step (by repeat (first | (with_reducible first | exact HB.out | apply below_alloc | apply pw_below_drewN | apply below_drew1) | exact HB.out)) hb); clear HO103; clear HO106; clear HB; have HO103 := n0_; have HO106 := n1_; have HB := n2_; clear n0_ n1_ n2_; (try clear hb); (try clear hb2); (try clear hk); (try clear hi); obtain ⟨Ao15, co15, eo15⟩ := Kd.R_slice HO106.out; subst eo15) | ((with_reducible refine gate_callee (f := 13) rfl ?_); refine goesL_ (some 24) rfl rfl Tryd.func13 (by kernel_rfl) rfl #[.slice Ao15 t104.length co15] rfl (by (try simp only [List.map_toArray, List.map_cons, List.map_nil]); first | done | rfl | (simp only [List.length_drop, List.length_take]; rfl)) ?_; (with_reducible refine (impl_CodeWrite.calls kj2 _ _ t104 t108 _ ?side1 ?side2 A9.out).mono ?_); (case side1 => repeat (first | exact (Kd.R_reads' HO106.out).2.2 | (with_reducible refine Kd.C_alloc ?_ _) | (with_reducible refine Kd.C_drewN ?_ _) | (with_reducible refine Kd.C_drew ?_))); (case side2 => exact (Kd.R_reads' HO106.out).2.1); rintro e w16 ⟨rfl, hb⟩; refine ⟨_, rfl, ?_⟩; have n0_ := Aside0.mk (Kd.R_below (by (with_reducible repeat (first | apply Kd.R_alloc | apply Kd.R_drewN | apply Kd.R_drew)); exact HO103.out) hb); have n1_ := Aside0.mk (Kd.R_below (by (with_reducible repeat (first | apply Kd.R_alloc | apply Kd.R_drewN | apply Kd.R_drew)); exact HO106.out) hb); have n2_ := Aside0.mk (below_step (by repeat (first | (with_reducible first | exact HB.out | apply below_alloc | apply pw_below_drewN | apply below_drew1) | exact HB.out)) hb); clear HO103; clear HO106; clear HB; have HO103 := n0_; have HO106 := n1_; have HB := n2_; clear n0_ n1_ n2_; (try clear hb); (try clear hb2); (try clear hk); (try clear hi)))
    (try simp only [Act.put, List.setIfInBounds_toArray, List.set_cons_zero, List.set_cons_succ]); go_cut [36] (fun v36 wc => ∃ (kq : Nat) (x36_9 : Bool), v36 = .bool x36_9 ∧ Aside0 (laws_FnCodeOne.j1 kq t101 t104 t107 t108 x36_9 = some r) ∧ Aside0 (kq ≤ kj2) ∧ Aside0 (Kd.R k35 35 wc w.heap.size (fun k_ => some k_ ≠ ((.slice Ao15 t104.length co15) : Value).ownBlock) (.slice Ao13 t101.length co13) t101) ∧ Aside0 (Kd.R k35 35 wc w.heap.size (fun k_ => some k_ ≠ ((.slice Ao13 t101.length co13) : Value).ownBlock) (.slice Ao15 t104.length co15) t104) ∧ Aside0 (Below w.heap.size w wc))
    case first =>
     have H := HC10.out; clear HC10; replace H := Option.bind_eq_some_iff.mp H; obtain ⟨t109, A170, H⟩ := H; replace H : (if t107.toList = t109.toList then (if t107.toList = ([] : List UInt8) then (laws_FnCodeOne.j1 kj2 t101 t104 t107 t108 true) else (laws_FnCodeOne.j1 kj2 t101 t104 t107 t108 (t108.toList == ([] : List UInt8)))) else (laws_FnCodeOne.j1 kj2 t101 t104 t107 t108 true)) = some r := H; have A17 := Aside0.mk A170; clear A170
     by_cases c18 : t107.toList = t109.toList
     ·rw [if_pos c18] at H
      have c18b0 : (t107.toList == t109.toList) = true := beq_iff_eq.mpr c18; have c18b1 : (t107.toList != t109.toList) = false := bne_eq_false_iff_eq.mpr c18; clear c18; (first | rw [c18b0] | (simp only [i64_w, i32_w]; rw [c18b0]) | skip)
      by_cases c19 : t107.toList = ([] : List UInt8)
      ·rw [if_pos c19] at H
       have c19b0 : (t107.toList == ([] : List UInt8)) = true := beq_iff_eq.mpr c19; have c19b1 : (t107.toList != ([] : List UInt8)) = false := bne_eq_false_iff_eq.mpr c19; clear c19; have H' := Aside0.mk H; clear H; go_wp2_with (first | ((with_reducible refine gate_callee (f := 11) rfl ?_); refine goesL_ (some 27) rfl rfl Tryd.func11 (by kernel_rfl) rfl #[.slice Ao13 t101.length co13] rfl (by (try simp only [List.map_toArray, List.map_cons, List.map_nil]); first | done | rfl | (simp only [List.length_drop, List.length_take]; rfl)) ?_; (with_reducible refine (spec_CodeWrite.calls kj2 _ _ t101 t109 _ ?side1 ?side2 A17.out).mono ?_); (case side1 => repeat (first | exact (Kd.R_reads' HO103.out).2.2 | (with_reducible refine Kd.C_alloc ?_ _) | (with_reducible refine Kd.C_drewN ?_ _) | (with_reducible refine Kd.C_drew ?_))); (case side2 => exact (Kd.R_reads' HO103.out).2.1); rintro e w20 ⟨rfl, hb⟩; refine ⟨_, rfl, ?_⟩; have n0_ := Aside0.mk (Kd.R_below (by (with_reducible repeat (first | apply Kd.R_alloc | apply Kd.R_drewN | apply Kd.R_drew)); exact HO103.out) hb); have n1_ := Aside0.mk (Kd.R_below (by (with_reducible repeat (first | apply Kd.R_alloc | apply Kd.R_drewN | apply Kd.R_drew)); exact HO106.out) hb); have n2_ := Aside0.mk (below_step (by repeat (first | (with_reducible first | exact HB.out | apply below_alloc | apply pw_below_drewN | apply below_drew1) | exact HB.out)) hb); clear HO103; clear HO106; clear HB; have HO103 := n0_; have HO106 := n1_; have HB := n2_; clear n0_ n1_ n2_; (try clear hb); (try clear hb2); (try clear hk); (try clear hi))); go_meet
       case rel => exact ⟨_, (true), (by first | rfl | (simp; done) | (simp [*]; done)), H', ⟨by have := HJ2.out; first | omega | exact Nat.le_refl _⟩, ⟨by (with_reducible repeat (first | apply Kd.R_alloc | apply Kd.R_drewN | apply Kd.R_drew)); exact Kd.R_mono HO103.out (fun _ hk => hk.2)⟩, ⟨by (with_reducible repeat (first | apply Kd.R_alloc | apply Kd.R_drewN | apply Kd.R_drew)); exact Kd.R_mono HO106.out (fun _ hk => hk.2)⟩, ⟨by repeat (first | (with_reducible first | exact HB.out | apply below_alloc | apply pw_below_drewN | apply below_drew1) | exact HB.out)⟩⟩
      ·rw [if_neg c19] at H
       have c19b0 : (t107.toList == ([] : List UInt8)) = false := beq_eq_false_iff_ne.mpr c19; have c19b1 : (t107.toList != ([] : List UInt8)) = true := bne_iff_ne.mpr c19; have H' := Aside0.mk H; clear H; go_wp2_with (first | ((with_reducible refine gate_callee (f := 11) rfl ?_); refine goesL_ (some 27) rfl rfl Tryd.func11 (by kernel_rfl) rfl #[.slice Ao13 t101.length co13] rfl (by (try simp only [List.map_toArray, List.map_cons, List.map_nil]); first | done | rfl | (simp only [List.length_drop, List.length_take]; rfl)) ?_; (with_reducible refine (spec_CodeWrite.calls kj2 _ _ t101 t109 _ ?side1 ?side2 A17.out).mono ?_); (case side1 => repeat (first | exact (Kd.R_reads' HO103.out).2.2 | (with_reducible refine Kd.C_alloc ?_ _) | (with_reducible refine Kd.C_drewN ?_ _) | (with_reducible refine Kd.C_drew ?_))); (case side2 => exact (Kd.R_reads' HO103.out).2.1); rintro e w21 ⟨rfl, hb⟩; refine ⟨_, rfl, ?_⟩; have n0_ := Aside0.mk (Kd.R_below (by (with_reducible repeat (first | apply Kd.R_alloc | apply Kd.R_drewN | apply Kd.R_drew)); exact HO103.out) hb); have n1_ := Aside0.mk (Kd.R_below (by (with_reducible repeat (first | apply Kd.R_alloc | apply Kd.R_drewN | apply Kd.R_drew)); exact HO106.out) hb); have n2_ := Aside0.mk (below_step (by repeat (first | (with_reducible first | exact HB.out | apply below_alloc | apply pw_below_drewN | apply below_drew1) | exact HB.out)) hb); clear HO103; clear HO106; clear HB; have HO103 := n0_; have HO106 := n1_; have HB := n2_; clear n0_ n1_ n2_; (try clear hb); (try clear hb2); (try clear hk); (try clear hi))); go_meet
       case rel => exact ⟨_, ((t108.toList == ([] : List UInt8))), (by first | rfl | (simp; done) | (simp [*]; done)), H', ⟨by have := HJ2.out; first | omega | exact Nat.le_refl _⟩, ⟨by (with_reducible repeat (first | apply Kd.R_alloc | apply Kd.R_drewN | apply Kd.R_drew)); exact Kd.R_mono HO103.out (fun _ hk => hk.2)⟩, ⟨by (with_reducible repeat (first | apply Kd.R_alloc | apply Kd.R_drewN | apply Kd.R_drew)); exact Kd.R_mono HO106.out (fun _ hk => hk.2)⟩, ⟨by repeat (first | (with_reducible first | exact HB.out | apply below_alloc | apply pw_below_drewN | apply below_drew1) | exact HB.out)⟩⟩
     ·rw [if_neg c18] at H
      have c18b0 : (t107.toList == t109.toList) = false := beq_eq_false_iff_ne.mpr c18; have c18b1 : (t107.toList != t109.toList) = true := bne_iff_ne.mpr c18; (first | rw [c18b0] | (simp only [i64_w, i32_w]; rw [c18b0]) | skip); have H' := Aside0.mk H; clear H; go_wp2_with (first | ((with_reducible refine gate_callee (f := 11) rfl ?_); refine goesL_ (some 27) rfl rfl Tryd.func11 (by kernel_rfl) rfl #[.slice Ao13 t101.length co13] rfl (by (try simp only [List.map_toArray, List.map_cons, List.map_nil]); first | done | rfl | (simp only [List.length_drop, List.length_take]; rfl)) ?_; (with_reducible refine (spec_CodeWrite.calls kj2 _ _ t101 t109 _ ?side1 ?side2 A17.out).mono ?_); (case side1 => repeat (first | exact (Kd.R_reads' HO103.out).2.2 | (with_reducible refine Kd.C_alloc ?_ _) | (with_reducible refine Kd.C_drewN ?_ _) | (with_reducible refine Kd.C_drew ?_))); (case side2 => exact (Kd.R_reads' HO103.out).2.1); rintro e w22 ⟨rfl, hb⟩; refine ⟨_, rfl, ?_⟩; have n0_ := Aside0.mk (Kd.R_below (by (with_reducible repeat (first | apply Kd.R_alloc | apply Kd.R_drewN | apply Kd.R_drew)); exact HO103.out) hb); have n1_ := Aside0.mk (Kd.R_below (by (with_reducible repeat (first | apply Kd.R_alloc | apply Kd.R_drewN | apply Kd.R_drew)); exact HO106.out) hb); have n2_ := Aside0.mk (below_step (by repeat (first | (with_reducible first | exact HB.out | apply below_alloc | apply pw_below_drewN | apply below_drew1) | exact HB.out)) hb); clear HO103; clear HO106; clear HB; have HO103 := n0_; have HO106 := n1_; have HB := n2_; clear n0_ n1_ n2_; (try clear hb); (try clear hb2); (try clear hk); (try clear hi))); go_meet
      case rel => exact ⟨_, (true), (by first | rfl | (simp; done) | (simp [*]; done)), H', ⟨by have := HJ2.out; first | omega | exact Nat.le_refl _⟩, ⟨by (with_reducible repeat (first | apply Kd.R_alloc | apply Kd.R_drewN | apply Kd.R_drew)); exact Kd.R_mono HO103.out (fun _ hk => hk.2)⟩, ⟨by (with_reducible repeat (first | apply Kd.R_alloc | apply Kd.R_drewN | apply Kd.R_drew)); exact Kd.R_mono HO106.out (fun _ hk => hk.2)⟩, ⟨by repeat (first | (with_reducible first | exact HB.out | apply below_alloc | apply pw_below_drewN | apply below_drew1) | exact HB.out)⟩⟩
    case rest =>
     clear HC10
     try clear c1
     try clear p2
     try clear c4
     try clear c4b0
     try clear c4b1
     try clear c5
     try clear c11
     try clear c13
     try clear c15
     try clear c16
     try clear c18
     try clear c18b0
     try clear c18b1
     try clear c19
     try clear c19b0
     try clear c19b1
     try clear p2
     obtain ⟨kq, x36_9, rfl, HA, HJ9, HO_5, HO_6, HB⟩ := hcut
     cases kq with
     | zero => exact absurd HA.out (by simp [laws_FnCodeOne.j1])
     | succ kj9 =>
      have H := HA.out; clear HA; simp only [laws_FnCodeOne.j1] at H
      by_cases c23 : x36_9 = true
      ·subst c23
       have H1 : ((spec_CodeWrite.f kj9 t101).bind fun t110 => (some (t107.toList == t110.toList))) = some r := by rw [if_pos rfl] at H; exact H
       clear H; have H := H1; clear H1; replace H := Option.bind_eq_some_iff.mp H; obtain ⟨t110, A240, H⟩ := H; replace H : (some (t107.toList == t110.toList)) = some r := H; have A24 := Aside0.mk A240; clear A240; obtain rfl := Option.some.inj H; go_wp2_with (first | ((with_reducible refine gate_callee (f := 11) rfl ?_); refine goesL_ (some 39) rfl rfl Tryd.func11 (by kernel_rfl) rfl #[.slice Ao13 t101.length co13] rfl (by (try simp only [List.map_toArray, List.map_cons, List.map_nil]); first | done | rfl | (simp only [List.length_drop, List.length_take]; rfl)) ?_; (with_reducible refine (spec_CodeWrite.calls kj9 _ _ t101 t110 _ ?side1 ?side2 A24.out).mono ?_); (case side1 => repeat (first | exact (Kd.R_reads' HO_5.out).2.2 | (with_reducible refine Kd.C_alloc ?_ _) | (with_reducible refine Kd.C_drewN ?_ _) | (with_reducible refine Kd.C_drew ?_))); (case side2 => exact (Kd.R_reads' HO_5.out).2.1); rintro e w25 ⟨rfl, hb⟩; refine ⟨_, rfl, ?_⟩; have n0_ := Aside0.mk (Kd.R_below (by (with_reducible repeat (first | apply Kd.R_alloc | apply Kd.R_drewN | apply Kd.R_drew)); exact HO_5.out) hb); have n1_ := Aside0.mk (Kd.R_below (by (with_reducible repeat (first | apply Kd.R_alloc | apply Kd.R_drewN | apply Kd.R_drew)); exact HO_6.out) hb); have n2_ := Aside0.mk (below_step (by repeat (first | (with_reducible first | exact HB.out | apply below_alloc | apply pw_below_drewN | apply below_drew1) | exact HB.out)) hb); clear HO_5; clear HO_6; clear HB; have HO_5 := n0_; have HO_6 := n1_; have HB := n2_; clear n0_ n1_ n2_; (try clear hb); (try clear hb2); (try clear hk); (try clear hi))); go_ret
       exact ⟨by first | rfl | (simp [errW_none, errW_some] <;> rfl) | (simp [*, errW_none, errW_some] <;> rfl), by repeat (first | (with_reducible first | exact HB.out | apply below_alloc | apply pw_below_drewN | apply below_drew1) | exact HB.out)⟩
      ·replace c23 := Bool.eq_false_iff.mpr c23
       subst c23
       have H1 : ((laws_luSame.f kj9 t101 t104).bind fun t111 => (if ((t107.toList == t108.toList) == t111) = true then (if 0 ≤ 2 then (if 2 ≤ (t107.size : Int) then (if (t107.extract 0 2).toList = ([71, 48] : List UInt8) then (if 2 ≤ (t108.size : Int) then (some ((t108.extract 0 2).toList == ([71, 48] : List UInt8))) else (none)) else (some false)) else (none)) else (none)) else (some false))) = some r := by rw [if_neg (show ¬ (false = true) by decide)] at H; exact H
       clear H; have H := H1; clear H1; replace H := Option.bind_eq_some_iff.mp H; obtain ⟨t111, A260, H⟩ := H; replace H : (if ((t107.toList == t108.toList) == t111) = true then (if 0 ≤ 2 then (if 2 ≤ (t107.size : Int) then (if (t107.extract 0 2).toList = ([71, 48] : List UInt8) then (if 2 ≤ (t108.size : Int) then (some ((t108.extract 0 2).toList == ([71, 48] : List UInt8))) else (none)) else (some false)) else (none)) else (none)) else (some false)) = some r := H; have A26 := Aside0.mk A260; clear A260
       by_cases c27 : ((t107.toList == t108.toList) == t111) = true
       ·rw [if_pos c27] at H
        have c27b0 : ((t107.toList == t108.toList) == t111) = true := c27; (try (have c27b1 : decide ((t107.toList == t108.toList) = t111) = true := by simpa using c27)); (try (have c27b2 : ((t107.toList == t108.toList) == t111) = true := by simpa using c27)); clear c27
        by_cases c28 : 0 ≤ 2
        ·rw [if_pos c28] at H
         have c28b0 := eq_true c28; have c28b1 : decide (0 ≤ 2) = true := decide_eq_true c28; clear c28
         by_cases c29 : 2 ≤ (t107.size : Int)
         ·rw [if_pos c29] at H
          have c29b0 := eq_true c29; have c29b1 : decide (2 ≤ (t107.size : Int)) = true := decide_eq_true c29; clear c29
          by_cases c30 : (t107.extract 0 2).toList = ([71, 48] : List UInt8)
          ·rw [if_pos c30] at H
           have c30b0 : ((t107.extract 0 2).toList == ([71, 48] : List UInt8)) = true := beq_iff_eq.mpr c30; have c30b1 : ((t107.extract 0 2).toList != ([71, 48] : List UInt8)) = false := bne_eq_false_iff_eq.mpr c30; clear c30; have c31b0 := eq_true (of_decide_eq_true (by first | (with_reducible assumption) | assumption) : 0 ≤ 2)
           by_cases c32 : 2 ≤ (t108.size : Int)
           ·rw [if_pos c32] at H
            have c32b0 := eq_true c32; have c32b1 : decide (2 ≤ (t108.size : Int)) = true := decide_eq_true c32; clear c32; obtain rfl := Option.some.inj H; go_wp2_with (first | ((with_reducible refine gate_callee (f := 17) rfl ?_); refine goesL_ (some 46) rfl rfl Tryd.func17 (by kernel_rfl) rfl #[.slice Ao13 t101.length co13, .slice Ao15 t104.length co15] rfl (by (try simp only [List.map_toArray, List.map_cons, List.map_nil]); first | done | rfl | (simp only [List.length_drop, List.length_take]; rfl)) ?_; (with_reducible refine (laws_luSame.calls kj9 _ _ t101 _ _ t104 t111 _ ?side1 ?side2 ?side3 ?side4 A26.out).mono ?_); (case side1 => repeat (first | exact (Kd.R_reads' HO_5.out).2.2 | (with_reducible refine Kd.C_alloc ?_ _) | (with_reducible refine Kd.C_drewN ?_ _) | (with_reducible refine Kd.C_drew ?_))); (case side2 => exact (Kd.R_reads' HO_5.out).2.1); (case side3 => repeat (first | exact (Kd.R_reads' HO_6.out).2.2 | (with_reducible refine Kd.C_alloc ?_ _) | (with_reducible refine Kd.C_drewN ?_ _) | (with_reducible refine Kd.C_drew ?_))); (case side4 => exact (Kd.R_reads' HO_6.out).2.1); rintro e w' ⟨rfl, ⟨nd, rfl⟩⟩; refine ⟨_, rfl, ?_⟩)); go_ret
            exact ⟨by first | rfl | (simp [errW_none, errW_some] <;> rfl) | (simp [*, errW_none, errW_some] <;> rfl), by repeat (first | (with_reducible first | exact HB.out | apply below_alloc | apply pw_below_drewN | apply below_drew1) | exact HB.out)⟩
           ·rw [if_neg c32] at H; exact absurd H (by simp)
          ·rw [if_neg c30] at H
           have c30b0 : ((t107.extract 0 2).toList == ([71, 48] : List UInt8)) = false := beq_eq_false_iff_ne.mpr c30; have c30b1 : ((t107.extract 0 2).toList != ([71, 48] : List UInt8)) = true := bne_iff_ne.mpr c30; obtain rfl := Option.some.inj H; go_wp2_with (first | ((with_reducible refine gate_callee (f := 17) rfl ?_); refine goesL_ (some 46) rfl rfl Tryd.func17 (by kernel_rfl) rfl #[.slice Ao13 t101.length co13, .slice Ao15 t104.length co15] rfl (by (try simp only [List.map_toArray, List.map_cons, List.map_nil]); first | done | rfl | (simp only [List.length_drop, List.length_take]; rfl)) ?_; (with_reducible refine (laws_luSame.calls kj9 _ _ t101 _ _ t104 t111 _ ?side1 ?side2 ?side3 ?side4 A26.out).mono ?_); (case side1 => repeat (first | exact (Kd.R_reads' HO_5.out).2.2 | (with_reducible refine Kd.C_alloc ?_ _) | (with_reducible refine Kd.C_drewN ?_ _) | (with_reducible refine Kd.C_drew ?_))); (case side2 => exact (Kd.R_reads' HO_5.out).2.1); (case side3 => repeat (first | exact (Kd.R_reads' HO_6.out).2.2 | (with_reducible refine Kd.C_alloc ?_ _) | (with_reducible refine Kd.C_drewN ?_ _) | (with_reducible refine Kd.C_drew ?_))); (case side4 => exact (Kd.R_reads' HO_6.out).2.1); rintro e w' ⟨rfl, ⟨nd, rfl⟩⟩; refine ⟨_, rfl, ?_⟩)); go_ret
           exact ⟨by first | rfl | (simp [errW_none, errW_some] <;> rfl) | (simp [*, errW_none, errW_some] <;> rfl), by repeat (first | (with_reducible first | exact HB.out | apply below_alloc | apply pw_below_drewN | apply below_drew1) | exact HB.out)⟩
         ·rw [if_neg c29] at H; exact absurd H (by simp)
        ·rw [if_neg c28] at H; exact absurd H (by simp)
       ·rw [if_neg c27] at H
        have c27b0 : ((t107.toList == t108.toList) == t111) = false := by simpa using c27
        (try (have c27b1 : decide ((t107.toList == t108.toList) = t111) = false := by simpa using c27)); (try (have c27b2 : ((t107.toList == t108.toList) == t111) = false := by simpa using c27)); (try (have c27b3 : ¬ ((t107.toList == t108.toList) = t111) := by simpa using c27)); clear c27; obtain rfl := Option.some.inj H; go_wp2_with (first | ((with_reducible refine gate_callee (f := 17) rfl ?_); refine goesL_ (some 46) rfl rfl Tryd.func17 (by kernel_rfl) rfl #[.slice Ao13 t101.length co13, .slice Ao15 t104.length co15] rfl (by (try simp only [List.map_toArray, List.map_cons, List.map_nil]); first | done | rfl | (simp only [List.length_drop, List.length_take]; rfl)) ?_; (with_reducible refine (laws_luSame.calls kj9 _ _ t101 _ _ t104 t111 _ ?side1 ?side2 ?side3 ?side4 A26.out).mono ?_); (case side1 => repeat (first | exact (Kd.R_reads' HO_5.out).2.2 | (with_reducible refine Kd.C_alloc ?_ _) | (with_reducible refine Kd.C_drewN ?_ _) | (with_reducible refine Kd.C_drew ?_))); (case side2 => exact (Kd.R_reads' HO_5.out).2.1); (case side3 => repeat (first | exact (Kd.R_reads' HO_6.out).2.2 | (with_reducible refine Kd.C_alloc ?_ _) | (with_reducible refine Kd.C_drewN ?_ _) | (with_reducible refine Kd.C_drew ?_))); (case side4 => exact (Kd.R_reads' HO_6.out).2.1); rintro e w' ⟨rfl, ⟨nd, rfl⟩⟩; refine ⟨_, rfl, ?_⟩)); go_ret
        exact ⟨by first | rfl | (simp [errW_none, errW_some] <;> rfl) | (simp [*, errW_none, errW_some] <;> rfl), by repeat (first | (with_reducible first | exact HB.out | apply below_alloc | apply pw_below_drewN | apply below_drew1) | exact HB.out)⟩

/-- THE ONE PURE STATEMENT of laws_FnCodeOne: yours. -/
def laws_FnCodeOne.Pure : Prop := ∀ (l0 : List Int) (l1 : List Int), l0.length ≤ maxLen → l0.length * 1 ≤ 140737488351232 → (∀ x ∈ l0, (Lit.int .u8 x).wf = true) → l1.length ≤ maxLen → l1.length * 1 ≤ 140737488351232 → (∀ x ∈ l1, (Lit.int .u8 x).wf = true) → ∃ k, laws_FnCodeOne.f k l0 l1 = some true
theorem laws_FnCodeOne.walk (P : laws_FnCodeOne.Pure) (a0 : Option Addr) (len0 cap0 : Nat) (z0 : List Int) (a1 : Option Addr) (len1 cap1 : Nat) (z1 : List Int) (w : World) (w0 : (a0 = none ∧ len0 = 0 ∧ cap0 = 0 ∧ z0 = []) ∨ ∃ x, a0 = some x ∧ len0 ≤ cap0 ∧ cap0 ≤ maxLen ∧ z0.length = cap0 ∧ (∀ i, i < z0.length → w.cell? (x.add i) = some (.int .u8 (z0.getD i 0))) ∧ ∀ n ∈ z0, (Lit.int .u8 n).wf = true) (y0 : len0 * 1 ≤ 140737488351232) (w1 : (a1 = none ∧ len1 = 0 ∧ cap1 = 0 ∧ z1 = []) ∨ ∃ x, a1 = some x ∧ len1 ≤ cap1 ∧ cap1 ≤ maxLen ∧ z1.length = cap1 ∧ (∀ i, i < z1.length → w.cell? (x.add i) = some (.int .u8 (z1.getD i 0))) ∧ ∀ n ∈ z1, (Lit.int .u8 n).wf = true) (y1 : len1 * 1 ≤ 140737488351232) :
  Calls Tryd.prog 4 #[.slice a0 len0 cap0, .slice a1 len1 cap1] w fun e w' => e = .returned (.bool true) ∧ Below w.heap.size w w' := by
 obtain ⟨l0, rfl, hr0, hm0, hw0, hc0⟩ := ReadsInt.ofRowC w0; obtain ⟨l1, rfl, hr1, hm1, hw1, hc1⟩ := ReadsInt.ofRowC w1; obtain ⟨k, h⟩ := P l0 l1 hm0 y0 hw0 hm1 y1 hw1; refine (laws_FnCodeOne.calls k _ _ l0 _ _ l1 true w (Kd.C_of_reads (d := (0 : Int)) (h1 := fun _ => rfl) hr0) hc0 (Kd.C_of_reads (d := (0 : Int)) (h1 := fun _ => rfl) hr1) hc1 h).mono ?_; rintro e w' ⟨rfl, hd⟩
 exact ⟨rfl, hd⟩

end Go.Proofs.YtdacpdhpifocbaaDoor.P

namespace Go.Proofs.YtdacpdhpifocbaaDoor.Q
open Go.RowKit Go.Proofs.YtdacpdhpifocbaaDoor.P Go.Proofs.YtdacpdhpifocbaaDoorW.PrintWords Go.Proofs.YtdacpdhpifocbaaDoorW.PrintLast
set_option linter.unusedVariables false

abbrev PT := S35
def g (l : List PT) (i : Nat) : PT := l.getD i z35
theorem rd_nat (l : List PT) (i : Nat) : rd_T35 l (i : Int) = g l i := by simp [rd_T35, g]
theorem rd_zero (l : List PT) : rd_T35 l 0 = g l 0 := by simp [rd_T35, g]
theorem w_id {x : Int} (h0 : -9223372036854775808 ≤ x) (h1 : x < 9223372036854775808) : wrap64 x = x := by unfold wrap64; omega
theorem w_succ {i : Nat} (h : i < 1000000000000000000) : wrap64 ((i : Int) + 1) = ((i + 1 : Nat) : Int) := by rw [w_id (by omega) (by omega)]; omega
theorem w_pred {i : Nat} (h0 : 0 < i) (h : i < 1000000000000000000) : wrap64 ((i : Int) - 1) = ((i - 1 : Nat) : Int) := by rw [w_id (by omega) (by omega)]; omega
theorem g_eq {l : List PT} {i : Nat} (h : i < l.length) : g l i = l[i] := by simp [g, List.getD_eq_getElem?_getD, h]
theorem PT.ext {a b : PT} (h0 : a.f0 = b.f0) (h1 : a.f1 = b.f1) : a = b := by cases a; cases b; simp_all

instance : DecidableEq PT := fun a b => if h : a.f0 = b.f0 ∧ a.f1 = b.f1 then isTrue (PT.ext h.1 h.2) else isFalse (fun e => h ⟨by rw [e], by rw [e]⟩)
/-- a point of the grid -/
def okP (p : PT) : Bool := decide (0 ≤ p.f0 ∧ p.f0 ≤ 9 ∧ 0 ≤ p.f1 ∧ p.f1 ≤ 9)
theorem okP_iff {p : PT} : okP p = true ↔ 0 ≤ p.f0 ∧ p.f0 ≤ 9 ∧ 0 ≤ p.f1 ∧ p.f1 ≤ 9 := by simp [okP]
theorem implOk (a b : Int) : impl_PtOk.f a b = some (okP ⟨a, b⟩) := by
  unfold impl_PtOk.f okP
  by_cases h1 : a ≥ 0
  · by_cases h2 : a ≤ 9
    · by_cases h3 : b ≥ 0
      · rw [if_pos h1, if_pos h2, if_pos h3]; congr 1; simp only [decide_eq_decide]; omega
      · rw [if_pos h1, if_pos h2, if_neg h3]; congr 1; symm; simp only [decide_eq_false_iff_not]; omega
    · rw [if_pos h1, if_neg h2]; congr 1; symm; simp only [decide_eq_false_iff_not]; omega
  · rw [if_neg h1]; congr 1; symm; simp only [decide_eq_false_iff_not]; omega
theorem specIn (a b c : Int) : spec_l6In.f a b c = some (decide (b ≤ a ∧ a ≤ c)) := by
  unfold spec_l6In.f
  by_cases h1 : a ≥ b
  · rw [if_pos h1]; congr 1; simp only [decide_eq_decide]; omega
  · rw [if_neg h1]; congr 1; symm; simp only [decide_eq_false_iff_not]; omega
theorem specOk (a b : Int) : spec_PtOk.f a b = some (okP ⟨a, b⟩) := by
  unfold spec_PtOk.f okP
  rw [specIn, specIn]
  simp only [Option.bind_some]
  by_cases h1 : 0 ≤ a ∧ a ≤ 9
  · rw [decide_eq_true h1, if_pos rfl]; congr 1; simp only [decide_eq_decide]; omega
  · rw [decide_eq_false h1, if_neg (by decide)]; congr 1; symm; simp only [decide_eq_false_iff_not]; omega

/-- one step apart -/
def stepP (a b : PT) : Bool := (wrap64 (a.f0 + 1) == b.f0 && a.f1 == b.f1) || ((a.f0 == b.f0 && wrap64 (a.f1 + 1) == b.f1) || ((wrap64 (a.f0 - 1) == b.f0 && a.f1 == b.f1) || (a.f0 == b.f0 && wrap64 (a.f1 - 1) == b.f1)))
theorem implStep (a b : PT) : impl_isStep.f a.f0 a.f1 b.f0 b.f1 = some (stepP a b) := rfl
/-- one step apart, as numbers -/
def Step (a b : PT) : Prop := (b.f0 = a.f0 + 1 ∧ b.f1 = a.f1) ∨ (b.f0 = a.f0 ∧ b.f1 = a.f1 + 1) ∨ (b.f0 = a.f0 - 1 ∧ b.f1 = a.f1) ∨ (b.f0 = a.f0 ∧ b.f1 = a.f1 - 1)
instance (a b : PT) : Decidable (Step a b) := by unfold Step; infer_instance
theorem stepP_iff {a b : PT} (ha : okP a = true) : stepP a b = true ↔ Step a b := by
  rw [okP_iff] at ha
  unfold stepP Step
  rw [w_id (x := a.f0 + 1) (by omega) (by omega), w_id (x := a.f1 + 1) (by omega) (by omega), w_id (x := a.f0 - 1) (by omega) (by omega), w_id (x := a.f1 - 1) (by omega) (by omega)]
  simp only [Bool.or_eq_true, Bool.and_eq_true, beq_iff_eq]
  omega
theorem dot_one {x y : Int} (hx : -9 ≤ x ∧ x ≤ 9) (hy : -9 ≤ y ∧ y ≤ 9) : x * x + y * y = 1 ↔ (x = 1 ∧ y = 0) ∨ (x = 0 ∧ y = 1) ∨ (x = -1 ∧ y = 0) ∨ (x = 0 ∧ y = -1) := by
  obtain ⟨h1, h2⟩ := hx
  obtain ⟨h3, h4⟩ := hy
  have ex : x * x = 0 ∧ x = 0 ∨ x * x = 1 ∧ (x = 1 ∨ x = -1) ∨ 4 ≤ x * x ∧ (x ≤ -2 ∨ 2 ≤ x) := by
    have : x = -9 ∨ x = -8 ∨ x = -7 ∨ x = -6 ∨ x = -5 ∨ x = -4 ∨ x = -3 ∨ x = -2 ∨ x = -1 ∨ x = 0 ∨ x = 1 ∨ x = 2 ∨ x = 3 ∨ x = 4 ∨ x = 5 ∨ x = 6 ∨ x = 7 ∨ x = 8 ∨ x = 9 := by omega
    rcases this with h | h | h | h | h | h | h | h | h | h | h | h | h | h | h | h | h | h | h <;> subst h <;> decide
  have ey : y * y = 0 ∧ y = 0 ∨ y * y = 1 ∧ (y = 1 ∨ y = -1) ∨ 4 ≤ y * y ∧ (y ≤ -2 ∨ 2 ≤ y) := by
    have : y = -9 ∨ y = -8 ∨ y = -7 ∨ y = -6 ∨ y = -5 ∨ y = -4 ∨ y = -3 ∨ y = -2 ∨ y = -1 ∨ y = 0 ∨ y = 1 ∨ y = 2 ∨ y = 3 ∨ y = 4 ∨ y = 5 ∨ y = 6 ∨ y = 7 ∨ y = 8 ∨ y = 9 := by omega
    rcases this with h | h | h | h | h | h | h | h | h | h | h | h | h | h | h | h | h | h | h <;> subst h <;> decide
  generalize x * x = a at *
  generalize y * y = b at *
  omega
theorem w_mul {x y : Int} (hx : -9 ≤ x ∧ x ≤ 9) (hy : -9 ≤ y ∧ y ≤ 9) : -81 ≤ x * y ∧ x * y ≤ 81 := by
  have : x = -9 ∨ x = -8 ∨ x = -7 ∨ x = -6 ∨ x = -5 ∨ x = -4 ∨ x = -3 ∨ x = -2 ∨ x = -1 ∨ x = 0 ∨ x = 1 ∨ x = 2 ∨ x = 3 ∨ x = 4 ∨ x = 5 ∨ x = 6 ∨ x = 7 ∨ x = 8 ∨ x = 9 := by omega
  rcases this with h | h | h | h | h | h | h | h | h | h | h | h | h | h | h | h | h | h | h <;> subst h <;> omega
theorem specBeside {a b : PT} (ha : okP a = true) (hb : okP b = true) : spec_l13Beside.f a.f0 a.f1 b.f0 b.f1 = some (decide (Step a b)) := by
  rw [okP_iff] at ha hb
  unfold spec_l13Beside.f spec_l2Dot.f
  simp only [Option.bind_some]
  have hx : -9 ≤ b.f0 - a.f0 ∧ b.f0 - a.f0 ≤ 9 := by omega
  have hy : -9 ≤ b.f1 - a.f1 ∧ b.f1 - a.f1 ≤ 9 := by omega
  have mx := w_mul hx hx
  have my := w_mul hy hy
  rw [w_id (x := b.f0 - a.f0) (by omega) (by omega), w_id (x := b.f1 - a.f1) (by omega) (by omega), w_id (x := (b.f0 - a.f0) * (b.f0 - a.f0)) (by omega) (by omega), w_id (x := (b.f1 - a.f1) * (b.f1 - a.f1)) (by omega) (by omega), w_id (by omega) (by omega)]
  congr 1
  rw [Bool.eq_iff_iff, beq_iff_eq, decide_eq_true_eq, dot_one hx hy]
  unfold Step
  omega

/-- a path: 1 to 400 points of the grid, each one step from the one ahead -/
def PathTo (l : List PT) (i : Nat) : Prop := ∀ j, i ≤ j → j < l.length → okP (g l j) = true ∧ (0 < j → Step (g l (j - 1)) (g l j))
def IsPath (l : List PT) : Prop := 1 ≤ l.length ∧ l.length ≤ 400 ∧ PathTo l 0
theorem PathTo.cons {l : List PT} {i : Nat} (h : okP (g l i) = true) (h' : 0 < i → Step (g l (i - 1)) (g l i)) (r : PathTo l (i + 1)) : PathTo l i := by
  intro j h1 h2
  rcases Nat.eq_or_lt_of_le h1 with e | e
  · subst e; exact ⟨h, h'⟩
  · exact r j e h2
theorem isPath_l0 (l : List PT) (hl : l.length < 1000000000000000000) : ∀ (d k i : Nat), l.length - i = d → i ≤ l.length → d < k → (∀ j, j < i → okP (g l j) = true) →
    ∃ b, impl_isPath.l0 k l l (l.length : Int) (i : Int) = some b ∧ (b = true ↔ PathTo l i) := by
  intro d
  induction d with
  | zero =>
    intro k i hd hi hk _
    obtain ⟨k, rfl⟩ : ∃ m, k = m + 1 := ⟨k - 1, by omega⟩
    refine ⟨true, ?_, by simp only [true_iff]; intro j h1 h2; omega⟩
    simp only [impl_isPath.l0]
    rw [if_neg (by omega)]
  | succ d ih =>
    intro k i hd hi hk hbef
    obtain ⟨k, rfl⟩ : ∃ m, k = m + 1 := ⟨k - 1, by omega⟩
    simp only [impl_isPath.l0]
    rw [if_pos (by omega), if_pos (by omega), if_pos (by omega), rd_nat, implOk]
    simp only [Option.bind_some]
    by_cases hok : okP (g l i) = true
    · rw [if_pos (by simpa using hok), w_succ (by omega)]
      have hbef' : ∀ j, j < i + 1 → okP (g l j) = true := fun j hj => by
        rcases Nat.eq_or_lt_of_le (Nat.le_of_lt_succ hj) with e | e
        · subst e; exact hok
        · exact hbef j e
      by_cases h0 : 0 < i
      · rw [if_pos (by omega), w_pred h0 (by omega), if_pos (by omega), if_pos (by omega), rd_nat, implStep]
        simp only [Option.bind_some]
        by_cases hs : stepP (g l (i - 1)) (g l i) = true
        · rw [if_pos hs]
          obtain ⟨b, hb, hb'⟩ := ih k (i + 1) (by omega) (by omega) (by omega) hbef'
          refine ⟨b, hb, hb'.trans ⟨fun r => PathTo.cons hok (fun _ => (stepP_iff (hbef _ (by omega))).1 hs) r, fun r j h1 h2 => r j (by omega) h2⟩⟩
        · rw [if_neg hs]
          refine ⟨false, rfl, by simp only [Bool.false_eq_true, false_iff]; exact fun r => hs ((stepP_iff (hbef _ (by omega))).2 ((r i (Nat.le_refl _) (by omega)).2 h0))⟩
      · rw [if_neg (by omega)]
        obtain ⟨b, hb, hb'⟩ := ih k (i + 1) (by omega) (by omega) (by omega) hbef'
        exact ⟨b, hb, hb'.trans ⟨fun r => PathTo.cons hok (fun h => absurd h h0) r, fun r j h1 h2 => r j (by omega) h2⟩⟩
    · rw [if_neg (by simpa using hok)]
      exact ⟨false, rfl, by simp only [Bool.false_eq_true, false_iff]; exact fun r => hok (r i (Nat.le_refl _) (by omega)).1⟩
theorem isPath_f (l : List PT) (hl : l.length < 1000000000000000000) (k : Nat) (hk : l.length + 2 ≤ k) : ∃ b, impl_isPath.f k l = some b ∧ (b = true ↔ IsPath l) := by
  obtain ⟨k, rfl⟩ : ∃ m, k = m + 1 := ⟨k - 1, by omega⟩
  unfold impl_isPath.f IsPath
  simp only [impl_isPath.j0]
  by_cases h1 : (l.length : Int) < 1
  · rw [if_pos h1, if_pos trivial]
    exact ⟨false, rfl, by simp only [Bool.false_eq_true, false_iff]; omega⟩
  · rw [if_neg h1]
    by_cases h2 : (l.length : Int) > 400
    · rw [decide_eq_true h2, if_pos rfl]
      exact ⟨false, rfl, by simp only [Bool.false_eq_true, false_iff]; omega⟩
    · rw [decide_eq_false h2, if_neg (by decide)]
      obtain ⟨b, hb, hb'⟩ := isPath_l0 l hl l.length k 0 (by omega) (by omega) (by omega) (fun j hj => by omega)
      exact ⟨b, hb, hb'.trans ⟨fun r => ⟨by omega, by omega, r⟩, fun r => r.2.2⟩⟩
theorem l22Path_l0 (l : List PT) (hl : l.length < 1000000000000000000) : ∀ (d k i : Nat), l.length - i = d → i ≤ l.length → d < k → (∀ j, j < i → okP (g l j) = true) →
    ∃ b, spec_l22Path.l0 k l (i : Int) = some b ∧ (b = true ↔ PathTo l i ∧ 1 ≤ l.length ∧ l.length ≤ 400) := by
  intro d
  induction d with
  | zero =>
    intro k i hd hi hk _
    obtain ⟨k, rfl⟩ : ∃ m, k = m + 1 := ⟨k - 1, by omega⟩
    simp only [spec_l22Path.l0]
    rw [if_neg (by omega), specIn]
    refine ⟨_, rfl, ?_⟩
    rw [decide_eq_true_eq]
    exact ⟨fun h => ⟨fun j h1 h2 => by omega, by omega, by omega⟩, fun h => by omega⟩
  | succ d ih =>
    intro k i hd hi hk hbef
    obtain ⟨k, rfl⟩ : ∃ m, k = m + 1 := ⟨k - 1, by omega⟩
    simp only [spec_l22Path.l0]
    rw [if_pos (by omega), if_pos (by omega), rd_nat, specOk]
    simp only [Option.bind_some]
    by_cases hok : okP (g l i) = true
    · rw [if_pos (by simpa using hok), w_succ (by omega)]
      have hbef' : ∀ j, j < i + 1 → okP (g l j) = true := fun j hj => by
        rcases Nat.eq_or_lt_of_le (Nat.le_of_lt_succ hj) with e | e
        · subst e; exact hok
        · exact hbef j e
      by_cases h0 : 0 < i
      · rw [if_pos (by omega), w_pred h0 (by omega), if_pos (by omega), if_pos (by omega), rd_nat, specBeside (hbef _ (by omega)) hok]
        simp only [Option.bind_some]
        by_cases hs : Step (g l (i - 1)) (g l i)
        · rw [if_pos (decide_eq_true hs)]
          obtain ⟨b, hb, hb'⟩ := ih k (i + 1) (by omega) (by omega) (by omega) hbef'
          exact ⟨b, hb, hb'.trans ⟨fun r => ⟨PathTo.cons hok (fun _ => hs) r.1, r.2⟩, fun r => ⟨fun j h1 h2 => r.1 j (by omega) h2, r.2⟩⟩⟩
        · rw [if_neg (by simpa using hs)]
          exact ⟨false, rfl, by simp only [Bool.false_eq_true, false_iff]; exact fun r => hs ((r.1 i (Nat.le_refl _) (by omega)).2 h0)⟩
      · rw [if_neg (by omega)]
        obtain ⟨b, hb, hb'⟩ := ih k (i + 1) (by omega) (by omega) (by omega) hbef'
        exact ⟨b, hb, hb'.trans ⟨fun r => ⟨PathTo.cons hok (fun h => absurd h h0) r.1, r.2⟩, fun r => ⟨fun j h1 h2 => r.1 j (by omega) h2, r.2⟩⟩⟩
    · rw [if_neg (by simpa using hok)]
      exact ⟨false, rfl, by simp only [Bool.false_eq_true, false_iff]; exact fun r => hok (r.1 i (Nat.le_refl _) (by omega)).1⟩
theorem l22Path_f (l : List PT) (hl : l.length < 1000000000000000000) (k : Nat) (hk : l.length + 2 ≤ k) : ∃ b, spec_l22Path.f k l = some b ∧ (b = true ↔ IsPath l) := by
  obtain ⟨b, hb, hb'⟩ := l22Path_l0 l hl l.length k 0 (by omega) (by omega) (by omega) (fun j hj => by omega)
  exact ⟨b, hb, hb'.trans ⟨fun r => ⟨r.2.1, r.2.2, r.1⟩, fun r => ⟨r.2.2, r.1, r.2.1⟩⟩⟩

/-- does the step from b go on as that from a to b -/
def goesOn (a b c : PT) : Bool := c.f0 - b.f0 == b.f0 - a.f0 && c.f1 - b.f1 == b.f1 - a.f1
theorem implGoes {a b c : PT} (ha : okP a = true) (hb : okP b = true) (hc : okP c = true) : impl_goesOn.f a.f0 a.f1 b.f0 b.f1 c.f0 c.f1 = some (goesOn a b c) := by
  rw [okP_iff] at ha hb hc
  unfold impl_goesOn.f goesOn
  rw [w_id (x := c.f0 - b.f0) (by omega) (by omega), w_id (x := b.f0 - a.f0) (by omega) (by omega), w_id (x := c.f1 - b.f1) (by omega) (by omega), w_id (x := b.f1 - a.f1) (by omega) (by omega)]
  by_cases h : c.f0 - b.f0 = b.f0 - a.f0
  · rw [if_pos h, h]; simp
  · rw [if_neg h, show (c.f0 - b.f0 == b.f0 - a.f0) = false from beq_eq_false_iff_ne.2 h]; rfl
/-- is place j of a path one at which it begins, turns, or ends -/
def turnAt (l : List PT) (j : Nat) : Bool := decide (j = 0) || decide (j + 1 = l.length) || !goesOn (g l (j - 1)) (g l j) (g l (j + 1))
def turnsFrom (l : List PT) (i : Nat) : List PT := ((List.range' i (l.length - i)).filter (turnAt l)).map (g l)
def turns (l : List PT) : List PT := turnsFrom l 0
theorem turnsFrom_end (l : List PT) (i : Nat) (h : l.length ≤ i) : turnsFrom l i = [] := by
  unfold turnsFrom
  rw [show l.length - i = 0 by omega]; rfl
theorem turnsFrom_step (l : List PT) (i : Nat) (h : i < l.length) : turnsFrom l i = (if turnAt l i = true then [g l i] else []) ++ turnsFrom l (i + 1) := by
  unfold turnsFrom
  rw [show l.length - i = (l.length - (i + 1)) + 1 by omega, List.range'_succ, List.filter_cons]
  split <;> simp
theorem pt_eta (p : PT) : (⟨p.f0, p.f1⟩ : PT) = p := rfl
theorem codeTurns_l0 (l : List PT) (hp : IsPath l) : ∀ (d k i : Nat) (acc : List PT), l.length - i = d → i ≤ l.length → d < k → acc.length ≤ i →
    impl_CodeTurns.l0 k l acc (wrap64 ((l.length : Int) - 1)) l (l.length : Int) (i : Int) = some (acc ++ turnsFrom l i) := by
  obtain ⟨h1, h2, hp⟩ := hp
  have hw : wrap64 ((l.length : Int) - 1) = ((l.length - 1 : Nat) : Int) := w_pred (by omega) (by omega)
  rw [hw]
  intro d
  induction d with
  | zero =>
    intro k i acc hd hi hk ha
    obtain ⟨k, rfl⟩ : ∃ m, k = m + 1 := ⟨k - 1, by omega⟩
    simp only [impl_CodeTurns.l0]
    rw [if_neg (by omega), turnsFrom_end l i (by omega), List.append_nil]
  | succ d ih =>
    intro k i acc hd hi hk ha
    obtain ⟨k, rfl⟩ : ∃ m, k = m + 1 := ⟨k - 1, by omega⟩
    simp only [impl_CodeTurns.l0]
    rw [if_pos (by omega), if_pos (by omega), if_pos (by omega), rd_nat, pt_eta, turnsFrom_step l i (by omega), w_succ (by omega)]
    have hadd : turnAt l i = true → impl_CodeTurns.l0 k l (acc ++ [g l i]) ((l.length - 1 : Nat) : Int) l (l.length : Int) ((i + 1 : Nat) : Int) = some (acc ++ ((if turnAt l i = true then [g l i] else []) ++ turnsFrom l (i + 1))) := fun ht => by
      rw [if_pos ht, ih k (i + 1) (acc ++ [g l i]) (by omega) (by omega) (by omega) (by simp; omega), List.append_assoc]
    by_cases e0 : i = 0
    · rw [if_pos (by omega), if_pos (by omega)]
      exact hadd (by simp [turnAt, e0])
    · rw [if_neg (by omega)]
      by_cases e1 : i + 1 = l.length
      · rw [if_pos (by omega), if_pos (by omega)]
        exact hadd (by simp [turnAt, e1])
      · rw [if_neg (by omega), w_pred (by omega) (by omega), if_pos (by omega), if_pos (by omega), if_pos (by omega), if_pos (by omega), rd_nat, rd_nat,
          implGoes (hp _ (by omega) (by omega)).1 (hp _ (by omega) (by omega)).1 (hp _ (by omega) (by omega)).1]
        simp only [Option.bind_some]
        have ht : turnAt l i = !goesOn (g l (i - 1)) (g l i) (g l (i + 1)) := by simp [turnAt, e0, e1]
        by_cases hg : goesOn (g l (i - 1)) (g l i) (g l (i + 1)) = true
        · rw [if_pos hg, ih k (i + 1) acc (by omega) (by omega) (by omega) (by omega), ht, hg]
          rfl
        · rw [if_neg hg, if_pos (by omega)]
          exact hadd (by rw [ht]; simpa using hg)
theorem l22Turns_l0 (l : List PT) (hp : IsPath l) : ∀ (d k i : Nat) (acc : List PT), l.length - i = d → i ≤ l.length → 1 ≤ i → d < k → acc.length ≤ i →
    spec_l22Turns.l0 k l acc (i : Int) = some (acc ++ turnsFrom l i) := by
  obtain ⟨h1, h2, hp⟩ := hp
  have hw : wrap64 ((l.length : Int) - 1) = ((l.length - 1 : Nat) : Int) := w_pred (by omega) (by omega)
  intro d
  induction d with
  | zero =>
    intro k i acc hd hi _ hk ha
    obtain ⟨k, rfl⟩ : ∃ m, k = m + 1 := ⟨k - 1, by omega⟩
    simp only [spec_l22Turns.l0]
    rw [if_neg (by omega), turnsFrom_end l i (by omega), List.append_nil]
  | succ d ih =>
    intro k i acc hd hi e0 hk ha
    obtain ⟨k, rfl⟩ : ∃ m, k = m + 1 := ⟨k - 1, by omega⟩
    simp only [spec_l22Turns.l0]
    rw [if_pos (by omega), hw, turnsFrom_step l i (by omega), w_succ (by omega), rd_nat]
    have hadd : turnAt l i = true → spec_l22Turns.l0 k l (acc ++ [g l i]) ((i + 1 : Nat) : Int) = some (acc ++ ((if turnAt l i = true then [g l i] else []) ++ turnsFrom l (i + 1))) := fun ht => by
      rw [if_pos ht, ih k (i + 1) (acc ++ [g l i]) (by omega) (by omega) (by omega) (by omega) (by simp; omega), List.append_assoc]
    by_cases e1 : i + 1 = l.length
    · rw [if_pos (by omega), if_pos (by omega), if_pos (by omega), pt_eta]
      exact hadd (by simp [turnAt, e1])
    · have oa := (hp (i - 1) (by omega) (by omega)).1
      have ob := (hp i (by omega) (by omega)).1
      have oc := (hp (i + 1) (by omega) (by omega)).1
      have ht : turnAt l i = !goesOn (g l (i - 1)) (g l i) (g l (i + 1)) := by simp [turnAt, e1]; omega
      rw [okP_iff] at oa ob oc
      rw [if_neg (by omega), if_pos (by omega), if_pos (by omega), if_pos (by omega), w_pred (by omega) (by omega), if_pos (by omega), if_pos (by omega), rd_nat, rd_nat, pt_eta,
        w_id (x := (g l (i + 1)).f0 - (g l i).f0) (by omega) (by omega), w_id (x := (g l i).f0 - (g l (i - 1)).f0) (by omega) (by omega), w_id (x := (g l (i + 1)).f1 - (g l i).f1) (by omega) (by omega), w_id (x := (g l i).f1 - (g l (i - 1)).f1) (by omega) (by omega)]
      by_cases hx : (g l (i + 1)).f0 - (g l i).f0 = (g l i).f0 - (g l (i - 1)).f0
      · rw [if_pos hx]
        by_cases hy : (g l (i + 1)).f1 - (g l i).f1 = (g l i).f1 - (g l (i - 1)).f1
        · rw [if_pos hy, ih k (i + 1) acc (by omega) (by omega) (by omega) (by omega) (by omega), ht, show goesOn (g l (i - 1)) (g l i) (g l (i + 1)) = true by simp [goesOn, hx, hy]]
          rfl
        · rw [if_neg hy, if_pos (by omega)]
          exact hadd (by rw [ht]; simp [goesOn, hy])
      · rw [if_neg hx, if_pos (by omega)]
        exact hadd (by rw [ht]; simp [goesOn, hx])
theorem l22Turns_f (l : List PT) (hp : IsPath l) (k : Nat) (hk : l.length < k) : spec_l22Turns.f k l = some (turns l) := by
  have h1 := hp.1
  unfold spec_l22Turns.f turns
  rw [if_pos (by omega), rd_zero, pt_eta, turnsFrom_step l 0 (by omega), if_pos (by simp [turnAt])]
  exact l22Turns_l0 l hp (l.length - 1) k 1 [g l 0] (by omega) (by omega) (by omega) (by omega) (by simp)
open Classical in
/-- what CodeTurns answers -/
noncomputable def codeTurns (l : List PT) : List PT := if IsPath l then turns l else []
theorem implCodeTurns (l : List PT) (hl : l.length < 1000000000000000000) (k : Nat) (hk : l.length + 2 ≤ k) : impl_CodeTurns.f k l = some (codeTurns l) := by
  obtain ⟨b, hb, hb'⟩ := isPath_f l hl k hk
  unfold impl_CodeTurns.f codeTurns
  rw [hb]
  simp only [Option.bind_some]
  by_cases hp : IsPath l
  · rw [if_pos (hb'.2 hp), if_pos hp]
    exact codeTurns_l0 l hp l.length k 0 [] (by omega) (by omega) (by omega) (by simp)
  · rw [if_neg (fun h => hp (hb'.1 h)), if_neg hp]
end Go.Proofs.YtdacpdhpifocbaaDoor.Q

namespace Go.Proofs.YtdacpdhpifocbaaDoor.Q
open Go.RowKit Go.Proofs.YtdacpdhpifocbaaDoor.P Go.Proofs.YtdacpdhpifocbaaDoorW.PrintWords Go.Proofs.YtdacpdhpifocbaaDoorW.PrintLast
set_option linter.unusedVariables false

def sgn (a b : Int) : Int := if a < b then 1 else if a > b then -1 else 0
def nxt (a b : PT) : PT := ⟨a.f0 + sgn a.f0 b.f0, a.f1 + sgn a.f1 b.f1⟩
def dist (a b : PT) : Nat := (a.f0 - b.f0).natAbs + (a.f1 - b.f1).natAbs
def leg : Nat → PT → PT → List PT
  | 0, _, _ => []
  | n + 1, a, b => nxt a b :: leg n (nxt a b) b
def InLine (a b : PT) : Prop := a.f0 = b.f0 ∨ a.f1 = b.f1
theorem sgn_spec (a b : Int) : a < b ∧ sgn a b = 1 ∨ b < a ∧ sgn a b = -1 ∨ a = b ∧ sgn a b = 0 := by
  unfold sgn
  by_cases h : a < b
  · rw [if_pos h]; omega
  · rw [if_neg h]
    by_cases h' : a > b
    · rw [if_pos h']; omega
    · rw [if_neg h']; omega
theorem dist_zero {a b : PT} : dist a b = 0 ↔ a = b := by
  unfold dist
  constructor
  · intro h
    exact PT.ext (by omega) (by omega)
  · intro h
    subst h
    omega
theorem ne_bool {a b : PT} : ((!(a.f0 == b.f0) || (!(a.f1 == b.f1))) = true) ↔ a ≠ b := by
  simp only [Bool.or_eq_true, Bool.not_eq_true', beq_eq_false_iff_ne]
  constructor
  · rintro h rfl
    omega
  · intro h
    by_cases h0 : a.f0 = b.f0
    · exact .inr fun h1 => h (PT.ext h0 h1)
    · exact .inl h0
instance (a b : PT) : Decidable (InLine a b) := by unfold InLine; infer_instance
/-- may one stay on a line from a to b -/
def good (a b : PT) : Bool := okP b && decide (a ≠ b) && decide (InLine a b)
def stayGo : PT → List PT → Option (List PT)
  | _, [] => some []
  | a, b :: r => if good a b = true then (stayGo b r).map (leg (dist a b) a b ++ ·) else none
theorem good_iff {a b : PT} : good a b = true ↔ okP b = true ∧ a ≠ b ∧ InLine a b := by simp [good, and_assoc]
def fin (r : Option (List PT)) (acc : List PT) : List PT × Bool :=
  match r with
  | none => ([], false)
  | some l => if (acc ++ l).length ≤ 400 then (acc ++ l, true) else ([], false)
/-- what CodeStay answers -/
def stay (t : List PT) : List PT × Bool :=
  match t with
  | [] => ([], false)
  | a :: r => if r.length ≤ 399 ∧ okP a = true then fin (stayGo a r) [a] else ([], false)
end Go.Proofs.YtdacpdhpifocbaaDoor.Q

namespace Go.Proofs.YtdacpdhpifocbaaDoor.Q
open Go.RowKit Go.Proofs.YtdacpdhpifocbaaDoor.P Go.Proofs.YtdacpdhpifocbaaDoorW.PrintWords Go.Proofs.YtdacpdhpifocbaaDoorW.PrintLast
set_option linter.unusedVariables false

theorem extend {a b c : PT} {n : Nat} (hl : InLine b c) (hd : dist b c = n + 1) (hs : Step a b) (h0 : (nxt b c).f0 - b.f0 = b.f0 - a.f0) (h1 : (nxt b c).f1 - b.f1 = b.f1 - a.f1) :
    InLine a c ∧ dist a c = n + 2 ∧ nxt a c = b ∧ a ≠ c := by
  have e0 : (nxt b c).f0 = b.f0 + sgn b.f0 c.f0 := rfl
  have e1 : (nxt b c).f1 = b.f1 + sgn b.f1 c.f1 := rfl
  rw [e0] at h0
  rw [e1] at h1
  have key : InLine a c ∧ dist a c = n + 2 ∧ (a.f0 + sgn a.f0 c.f0 = b.f0 ∧ a.f1 + sgn a.f1 c.f1 = b.f1) := by
    unfold dist InLine Step at *
    rcases sgn_spec b.f0 c.f0 with ⟨p, e⟩ | ⟨p, e⟩ | ⟨p, e⟩ <;> rcases sgn_spec b.f1 c.f1 with ⟨p', e'⟩ | ⟨p', e'⟩ | ⟨p', e'⟩ <;> rw [e] at h0 <;> rw [e'] at h1 <;>
      rcases sgn_spec a.f0 c.f0 with ⟨q, f⟩ | ⟨q, f⟩ | ⟨q, f⟩ <;> rcases sgn_spec a.f1 c.f1 with ⟨q', f'⟩ | ⟨q', f'⟩ | ⟨q', f'⟩ <;> rw [f, f'] <;> omega
  refine ⟨key.1, key.2.1, PT.ext key.2.2.1 key.2.2.2, fun e => ?_⟩
  rw [dist_zero.2 e] at key
  omega
theorem step_nxt {a b : PT} (hs : Step a b) : InLine a b ∧ dist a b = 1 ∧ nxt a b = b ∧ a ≠ b := by
  have key : InLine a b ∧ dist a b = 1 ∧ (a.f0 + sgn a.f0 b.f0 = b.f0 ∧ a.f1 + sgn a.f1 b.f1 = b.f1) := by
    unfold dist InLine Step at *
    rcases sgn_spec a.f0 b.f0 with ⟨q, f⟩ | ⟨q, f⟩ | ⟨q, f⟩ <;> rcases sgn_spec a.f1 b.f1 with ⟨q', f'⟩ | ⟨q', f'⟩ | ⟨q', f'⟩ <;> rw [f, f'] <;> omega
  refine ⟨key.1, key.2.1, PT.ext key.2.2.1 key.2.2.2, fun e => ?_⟩
  rw [dist_zero.2 e] at key
  omega
theorem drop_g {l : List PT} {i : Nat} (h : i < l.length) : l.drop i = g l i :: l.drop (i + 1) := by rw [List.drop_eq_getElem_cons h, g_eq h]
/-- From each point of a path on, what is between its turns is the path. -/
theorem stayGo_turns (l : List PT) (hp : PathTo l 0) : ∀ (d i : Nat), l.length - i = d + 1 → stayGo (g l i) (turnsFrom l (i + 1)) = some (l.drop (i + 1)) := by
  intro d
  induction d with
  | zero =>
    intro i hd
    rw [turnsFrom_end l (i + 1) (by omega), List.drop_of_length_le (by omega)]
    rfl
  | succ d ih =>
    intro i hd
    have hs : Step (g l i) (g l (i + 1)) := (hp (i + 1) (by omega) (by omega)).2 (by omega)
    have hb := (hp (i + 1) (by omega) (by omega)).1
    have h := ih (i + 1) (by omega)
    rw [turnsFrom_step l (i + 1) (by omega)]
    by_cases ht : turnAt l (i + 1) = true
    · rw [if_pos ht, List.singleton_append]
      obtain ⟨h1, h2, h3, h4⟩ := step_nxt hs
      simp only [stayGo]
      rw [if_pos (good_iff.2 ⟨hb, h4, h1⟩), h, h2]
      simp only [leg, Option.map_some, h3, List.singleton_append]
      rw [drop_g (show i + 1 < l.length by omega)]
    · rw [if_neg ht, List.nil_append]
      have hlast : i + 1 + 1 < l.length := by
        rcases Nat.lt_or_ge (i + 1 + 1) l.length with h' | h'
        · exact h'
        · exact absurd (show turnAt l (i + 1) = true by simp [turnAt]; omega) ht
      have hg : goesOn (g l i) (g l (i + 1)) (g l (i + 1 + 1)) = true := by
        simp only [turnAt, Bool.or_eq_true, Bool.not_eq_true', not_or] at ht
        simpa using ht.2
      simp only [goesOn, Bool.and_eq_true, beq_iff_eq] at hg
      rw [drop_g hlast] at h
      cases hc : turnsFrom l (i + 1 + 1) with
      | nil =>
        rw [hc] at h
        simp [stayGo] at h
      | cons c t =>
        rw [hc] at h
        simp only [stayGo] at h ⊢
        by_cases hgd : good (g l (i + 1)) c = true
        · rw [if_pos hgd] at h
          obtain ⟨hok, hne, hl⟩ := good_iff.1 hgd
          obtain ⟨n, hn⟩ : ∃ n, dist (g l (i + 1)) c = n + 1 := ⟨dist (g l (i + 1)) c - 1, by
            have : dist (g l (i + 1)) c ≠ 0 := fun e => hne (dist_zero.1 e)
            omega⟩
          obtain ⟨m, hm, hm'⟩ := Option.map_eq_some_iff.1 h
          rw [hn] at hm'
          simp only [leg, List.cons_append] at hm'
          obtain ⟨e1, e2⟩ := List.cons.inj hm'
          obtain ⟨x1, x2, x3, x4⟩ := extend hl hn hs (by rw [e1]; exact hg.1) (by rw [e1]; exact hg.2)
          rw [if_pos (good_iff.2 ⟨hok, x4, x1⟩), hm, x2]
          simp only [Option.map_some]
          rw [drop_g (show i + 1 < l.length by omega), drop_g hlast, ← hm']
          simp [leg, x3, e1]
        · rw [if_neg hgd] at h
          cases h
theorem stay_turns (l : List PT) (hp : IsPath l) : stay (turns l) = (l, true) := by
  obtain ⟨h1, h2, hp⟩ := hp
  have h := stayGo_turns l hp (l.length - 1) 0 (by omega)
  unfold turns
  rw [turnsFrom_step l 0 (by omega), if_pos (by simp [turnAt]), List.singleton_append]
  simp only [stay]
  have hlen : (turnsFrom l (0 + 1)).length ≤ l.length - 1 := by
    unfold turnsFrom
    rw [List.length_map]
    exact Nat.le_trans (List.length_filter_le _ _) (by simp)
  rw [if_pos ⟨by omega, (hp 0 (by omega) (by omega)).1⟩, h]
  have e : [g l 0] ++ l.drop 1 = l := by
    have := drop_g (show 0 < l.length by omega)
    simpa using this.symm
  simp only [fin]
  rw [e, if_pos h2]

theorem codeTurns_path {l : List PT} (h : IsPath l) : codeTurns l = turns l := by unfold codeTurns; rw [if_pos h]
end Go.Proofs.YtdacpdhpifocbaaDoor.Q

namespace Go.Proofs.YtdacpdhpifocbaaDoor.Q
open Go.RowKit Go.Proofs.YtdacpdhpifocbaaDoor.P Go.Proofs.YtdacpdhpifocbaaDoor.Ch Go.Proofs.YtdacpdhpifocbaaDoorW.PrintWords Go.Proofs.YtdacpdhpifocbaaDoorW.PrintLast
set_option linter.unusedVariables false

theorem mem_g0 {l : List PT} {p : PT} : p ∈ l ↔ ∃ j, j < l.length ∧ g l j = p := by
  rw [List.mem_iff_getElem]
  exact ⟨fun ⟨j, h, e⟩ => ⟨j, h, by rw [g_eq h]; exact e⟩, fun ⟨j, h, e⟩ => ⟨j, h, by rw [← g_eq h]; exact e⟩⟩
theorem turns_mem {l : List PT} {p : PT} (h : p ∈ turns l) : p ∈ l := by
  unfold turns turnsFrom at h
  obtain ⟨j, hj, rfl⟩ := List.mem_map.1 h
  have := (List.mem_filter.1 hj).1
  rw [List.mem_range'] at this
  obtain ⟨i, hi, rfl⟩ := this
  exact mem_g0.2 ⟨0 + 1 * i, by omega, rfl⟩
theorem turns_le (l : List PT) : (turns l).length ≤ l.length := by
  unfold turns turnsFrom
  rw [List.length_map]
  exact Nat.le_trans (List.length_filter_le _ _) (by simp)
theorem path_ok {l : List PT} (h : IsPath l) : ∀ p ∈ l, okP p = true := fun p hp => by
  obtain ⟨j, hj, rfl⟩ := mem_g0.1 hp
  exact (h.2.2 j (Nat.zero_le _) hj).1
theorem codeTurns_small (l : List PT) : smallPts (codeTurns l) = true := by
  unfold codeTurns
  split
  · rename_i h
    simp only [smallPts, Bool.and_eq_true, List.all_eq_true, decide_eq_true_eq]
    refine ⟨Nat.le_trans (turns_le l) h.2.1, fun p hp => ?_⟩
    have := okP_iff.1 (path_ok h p (turns_mem hp))
    omega
  · rfl
/-- the text of a path, or none -/
noncomputable def cwText (l : List PT) : ByteArray := ⟨(wlines 0 (codeTurns l)).toArray⟩
theorem implCodeWrite (l : List PT) (hl : l.length < 1000000000000000000) (k : Nat) (hk : l.length + 2 ≤ k) : impl_CodeWrite.f k l = some (cwText l) := by
  unfold impl_CodeWrite.f cwText
  rw [implCodeTurns l hl k hk]
  simp only [Option.bind_some]
  rw [if_pos (codeTurns_small l)]
theorem dec1 (x : Int) (h0 : 0 ≤ x) (h9 : x ≤ 9) (k : Nat) (hk : 1 ≤ k) : spec_l6Dec.f k x = some ⟨#[UInt8.ofNat (48 + x.toNat)]⟩ := by
  obtain ⟨k, rfl⟩ : ∃ m, k = m + 1 := ⟨k - 1, by omega⟩
  simp only [spec_l6Dec.f]
  rw [if_neg (by omega), if_neg (by omega), if_pos (by omega), w_id (by omega) (by omega)]
  congr 1
  unfold strOfNums
  simp only [List.map_cons, List.map_nil]
  congr 3
  rw [show (48 + x) % 256 = ((48 + x.toNat : Nat) : Int) by omega, Int.toNat_natCast]
theorem line_app (b : ByteArray) (i : Nat) (p : PT) (a : UInt8) (ha : a = if i = 0 then 48 else 49) : ((((((b ++ (⟨#[71, a]⟩ : ByteArray)) ++ (⟨#[32, 88]⟩ : ByteArray)) ++ (⟨#[UInt8.ofNat (48 + p.f0.toNat)]⟩ : ByteArray)) ++ (⟨#[32, 89]⟩ : ByteArray)) ++ (⟨#[UInt8.ofNat (48 + p.f1.toNat)]⟩ : ByteArray)) ++ (⟨#[10]⟩ : ByteArray)) = b ++ ⟨(lineL i p.f0.toNat p.f1.toNat).toArray⟩ := by
  subst ha
  apply ByteArray.ext
  simp [ByteArray.data_append, lineL, Array.append_assoc]
theorem l22Write_l0 (t : List PT) (ht : t.length ≤ 400) (hok : ∀ p ∈ t, okP p = true) : ∀ (d k i : Nat) (b : ByteArray), t.length - i = d → i ≤ t.length → d + 1 < k → b.size ≤ 9 * i →
    spec_l22Write.l0 k t b (i : Int) = some (b ++ ⟨(wlines i (t.drop i)).toArray⟩) := by
  intro d
  induction d with
  | zero =>
    intro k i b hd hi hk hb
    obtain ⟨k, rfl⟩ : ∃ m, k = m + 1 := ⟨k - 1, by omega⟩
    simp only [spec_l22Write.l0]
    rw [if_neg (by omega), List.drop_eq_nil_of_le (by omega)]
    congr 1
    apply ByteArray.ext
    simp [wlines, ByteArray.data_append]
  | succ d ih =>
    intro k i b hd hi hk hb
    obtain ⟨k, rfl⟩ : ∃ m, k = m + 1 := ⟨k - 1, by omega⟩
    have ok := okP_iff.1 (hok _ (mem_g0.2 ⟨i, by omega, rfl⟩))
    have hd0 := dec1 (g t i).f0 (by omega) (by omega) k (by omega)
    have hd1 := dec1 (g t i).f1 (by omega) (by omega) k (by omega)
    have sz : ∀ (x : ByteArray) (y : Array UInt8), (x ++ (⟨y⟩ : ByteArray)).size = x.size + y.size := fun x y => by rw [ByteArray.size_append]; rfl
    have sz1 : ∀ x : UInt8, (⟨#[x]⟩ : ByteArray).size = 1 := fun _ => rfl
    have key : ∀ a : UInt8, a = (if i = 0 then 48 else 49) → spec_l22Write.l0 k t ((((((b ++ (⟨#[71, a]⟩ : ByteArray)) ++ (⟨#[32, 88]⟩ : ByteArray)) ++ (⟨#[UInt8.ofNat (48 + (g t i).f0.toNat)]⟩ : ByteArray)) ++ (⟨#[32, 89]⟩ : ByteArray)) ++ (⟨#[UInt8.ofNat (48 + (g t i).f1.toNat)]⟩ : ByteArray)) ++ (⟨#[10]⟩ : ByteArray)) (wrap64 ((i : Int) + 1)) = some (b ++ ⟨(wlines i (t.drop i)).toArray⟩) := fun a ha => by
      rw [line_app b i (g t i) a ha, w_succ (by omega), ih k (i + 1) _ (by omega) (by omega) (by omega) (by rw [sz]; simp [lineL]; omega)]
      rw [List.drop_eq_getElem_cons (show i < t.length by omega), ← g_eq]
      congr 1
      apply ByteArray.ext
      simp [wlines, ByteArray.data_append, Array.append_assoc]
    simp only [spec_l22Write.l0]
    rw [if_pos (by omega), rd_nat, hd0, hd1]
    simp only [Option.bind_some, sz, sz1, List.size_toArray, List.length_cons, List.length_nil]
    by_cases h0 : i = 0
    · rw [if_pos (by omega), if_pos (by omega), if_pos (by omega), if_pos (by omega), if_pos (by omega), if_pos (by omega), if_pos (by omega), if_pos (by omega)]
      exact key 48 (by rw [if_pos h0])
    · rw [if_neg (by omega), if_pos (by omega), if_pos (by omega), if_pos (by omega), if_pos (by omega), if_pos (by omega), if_pos (by omega), if_pos (by omega)]
      exact key 49 (by rw [if_neg h0])
theorem specl22Write (l : List PT) (hp : IsPath l) (k : Nat) (hk : l.length + 3 ≤ k) : spec_l22Write.f k l = some (cwText l) := by
  unfold spec_l22Write.f cwText
  rw [l22Turns_f l hp k (by omega)]
  simp only [Option.bind_some]
  have := l22Write_l0 (turns l) (Nat.le_trans (turns_le l) hp.2.1) (fun p h => path_ok hp p (turns_mem h)) (turns l).length k 0 ⟨#[]⟩ (by omega) (by omega) (by have := turns_le l; omega) (by decide)
  rw [show ((0 : Nat) : Int) = 0 from rfl] at this
  rw [this, List.drop_zero, codeTurns_path hp]
  congr 1
  try (apply ByteArray.ext; simp [ByteArray.data_append])
theorem specCodeWrite (l : List PT) (hl : l.length < 1000000000000000000) (k : Nat) (hk : l.length + 3 ≤ k) : spec_CodeWrite.f k l = some (cwText l) := by
  obtain ⟨b, hb, hb'⟩ := l22Path_f l hl k (by omega)
  unfold spec_CodeWrite.f
  rw [hb]
  simp only [Option.bind_some]
  by_cases hp : IsPath l
  · rw [if_pos (hb'.2 hp), specl22Write l hp k hk]
    rfl
  · rw [if_neg (fun h => hp (hb'.1 h))]
    unfold cwText codeTurns
    rw [if_neg hp]
    rfl
theorem lineL_inj {i x y x' y' : Nat} (hx : x < 10) (hy : y < 10) (hx' : x' < 10) (hy' : y' < 10) (h : lineL i x y = lineL i x' y') : x = x' ∧ y = y' := by
  simp only [lineL, List.cons.injEq, true_and, and_true] at h
  obtain ⟨h1, h2⟩ := h
  have e : ∀ n : Nat, n < 10 → (UInt8.ofNat (48 + n)).toNat = 48 + n := fun n hn => by simp [UInt8.toNat_ofNat']; omega
  have e1 := congrArg UInt8.toNat h1
  have e2 := congrArg UInt8.toNat h2
  rw [e _ hx, e _ hx'] at e1
  rw [e _ hy, e _ hy'] at e2
  omega
theorem wlines_inj : ∀ (a b : List PT) (i : Nat), (∀ p ∈ a, okP p = true) → (∀ p ∈ b, okP p = true) → wlines i a = wlines i b → a = b
  | [], [], _, _, _, _ => rfl
  | [], q :: b, i, _, _, h => by simp [wlines, lineL] at h
  | p :: a, [], i, _, _, h => by simp [wlines, lineL] at h
  | p :: a, q :: b, i, ha, hb, h => by
    simp only [wlines] at h
    obtain ⟨h1, h2⟩ := List.append_inj h rfl
    have op := okP_iff.1 (ha p (by simp))
    have oq := okP_iff.1 (hb q (by simp))
    obtain ⟨e0, e1⟩ := lineL_inj (by omega) (by omega) (by omega) (by omega) h1
    have := wlines_inj a b (i + 1) (fun r hr => ha r (by simp [hr])) (fun r hr => hb r (by simp [hr])) h2
    rw [this, PT.ext (a := p) (b := q) (by omega) (by omega)]
/-- TWO PATHS OF ONE TEXT ARE ONE. -/
theorem cwText_inj {a b : List PT} (ha : IsPath a) (hb : IsPath b) (h : cwText a = cwText b) : a = b := by
  unfold cwText at h
  rw [codeTurns_path ha, codeTurns_path hb] at h
  have h' : (wlines 0 (turns a)).toArray = (wlines 0 (turns b)).toArray := congrArg ByteArray.data h
  have := wlines_inj _ _ 0 (fun p hp => path_ok ha p (turns_mem hp)) (fun p hp => path_ok hb p (turns_mem hp)) (List.toArray_inj h')
  have ea := stay_turns a ha
  rw [this, stay_turns b hb] at ea
  exact (Prod.ext_iff.1 ea).1.symm
theorem cwText_path {l : List PT} (h : cwText l ≠ ⟨#[]⟩) : IsPath l := by
  by_cases hp : IsPath l
  · exact hp
  · refine absurd ?_ h
    unfold cwText codeTurns
    rw [if_neg hp]
    rfl
/-- A path's text begins with its first line. -/
theorem cwText_head {l : List PT} (hp : IsPath l) : ∃ r, cwText l = ⟨(71 :: 48 :: r : List UInt8).toArray⟩ := by
  unfold cwText
  rw [codeTurns_path hp]
  unfold turns
  rw [turnsFrom_step l 0 hp.1, if_pos (by simp [turnAt])]
  exact ⟨_, rfl⟩
end Go.Proofs.YtdacpdhpifocbaaDoor.Q

namespace Go.Proofs.YtdacpdhpifocbaaDoor.Q
open Go.RowKit Go.Proofs.YtdacpdhpifocbaaDoor.P Go.Proofs.YtdacpdhpifocbaaDoor.Ch Go.Proofs.YtdacpdhpifocbaaDoorW.PrintWords Go.Proofs.YtdacpdhpifocbaaDoorW.PrintLast
set_option linter.unusedVariables false

/-! ### a text that is cut at a byte -/
def bx (l : List UInt8) : ByteArray := ⟨l.toArray⟩
theorem bx_size (l : List UInt8) : (bx l).size = l.length := rfl
theorem bx_list (l : List UInt8) : (bx l).data.toList = l := rfl
theorem bx_of (s : ByteArray) : s = bx s.data.toList := rfl
theorem extract_bx (l : List UInt8) (i j : Nat) : (bx l).extract i j = bx ((l.drop i).take (j - i)) := by
  apply ByteArray.ext
  apply Array.ext'
  simp [bx, ByteArray.data_extract, Array.toList_extract]
/-! ### what both do with the turns -/
/-- Turns that have been read, of a text. -/
noncomputable def rdWith (o : Option (List PT)) (s : ByteArray) : List PT × Bool :=
  match o with
  | none => ([], false)
  | some t => if (stay t).2 = true ∧ cwText (stay t).1 = s then ((stay t).1, true) else ([], false)
/-- THE PATH OF A TEXT, or none. -/
noncomputable def crd (s : ByteArray) : List PT × Bool := open Classical in if h : ∃ p, IsPath p ∧ cwText p = s then (h.choose, true) else ([], false)
theorem list_beq {a b : ByteArray} : (a.toList = b.toList) ↔ a = b := by
  refine ⟨fun h => ?_, fun h => by rw [h]⟩
  rw [Go.ByteArray.toList_eq, Go.ByteArray.toList_eq] at h
  exact ByteArray.ext (Array.ext' h)

/-! ### a line -/
def pre (acc : List PT) (o : Option (List PT)) : Option (List PT) := match o with | none => none | some t => some (acc ++ t)
/-! ### the text of a path, line by line -/
/-! ### the program's CodeRead -/
/-! ### the reference's CodeRead -/
end Go.Proofs.YtdacpdhpifocbaaDoor.Q

namespace Go.Proofs.YtdacpdhpifocbaaDoor.Q
open Go.RowKit Go.Proofs.YtdacpdhpifocbaaDoor.P Go.Proofs.YtdacpdhpifocbaaDoorW.PrintWords Go.Proofs.YtdacpdhpifocbaaDoorW.PrintLast
set_option linter.unusedVariables false

theorem ext_g' {a b : List PT} (h : a.length = b.length) (h' : ∀ j, j < a.length → g a j = g b j) : a = b := by
  apply List.ext_getElem h
  intro i h1 h2
  have := h' i h1
  rwa [g_eq h1, g_eq h2] at this
theorem luSame_l0 (a b : List PT) (hl : a.length < 1000000000000000000) (hab : a.length = b.length) : ∀ (d k i : Nat), a.length - i = d → i ≤ a.length → d < k →
    ∃ r, laws_luSame.l0 k a b (i : Int) = some r ∧ (r = true ↔ ∀ j, i ≤ j → j < a.length → g a j = g b j) := by
  intro d
  induction d with
  | zero =>
    intro k i hd hi hk
    obtain ⟨k, rfl⟩ : ∃ m, k = m + 1 := ⟨k - 1, by omega⟩
    refine ⟨true, ?_, by simp only [true_iff]; intro j h1 h2; omega⟩
    simp only [laws_luSame.l0]
    rw [if_neg (by omega)]
  | succ d ih =>
    intro k i hd hi hk
    obtain ⟨k, rfl⟩ : ∃ m, k = m + 1 := ⟨k - 1, by omega⟩
    simp only [laws_luSame.l0]
    rw [if_pos (by omega), if_pos (by omega), if_pos (by omega), rd_nat, rd_nat]
    by_cases h : g a i = g b i
    · rw [if_neg (by rw [ne_bool]; simpa using h), w_succ (by omega)]
      obtain ⟨r, hr, hr'⟩ := ih k (i + 1) (by omega) (by omega) (by omega)
      refine ⟨r, hr, hr'.trans ⟨fun q j h1 h2 => ?_, fun q j h1 h2 => q j (by omega) h2⟩⟩
      rcases Nat.eq_or_lt_of_le h1 with e | e
      · subst e; exact h
      · exact q j e h2
    · rw [if_pos (by rw [ne_bool]; exact h)]
      exact ⟨false, rfl, by simp only [Bool.false_eq_true, false_iff]; exact fun q => h (q i (Nat.le_refl _) (by omega))⟩
theorem luSame_f (a b : List PT) (hl : a.length < 1000000000000000000) (k : Nat) (hk : a.length < k) : laws_luSame.f k a b = some (decide (a = b)) := by
  unfold laws_luSame.f
  by_cases h : a.length = b.length
  · rw [if_pos (by omega)]
    obtain ⟨r, hr, hr'⟩ := luSame_l0 a b hl h a.length k 0 (by omega) (by omega) (by omega)
    rw [show ((0 : Nat) : Int) = 0 from rfl] at hr
    rw [hr]
    congr 1
    rw [Bool.eq_iff_iff, hr', decide_eq_true_eq]
    exact ⟨fun q => ext_g' h (fun j hj => q j (by omega) hj), fun q j _ _ => by rw [q]⟩
  · rw [if_neg (by omega), decide_eq_false (fun e => h (by rw [e]))]
end Go.Proofs.YtdacpdhpifocbaaDoor.Q

namespace Go.Proofs.YtdacpdhpifocbaaDoor.Q
open Go.RowKit Go.Proofs.YtdacpdhpifocbaaDoor.P Go.Proofs.YtdacpdhpifocbaaDoorW.PrintWords Go.Proofs.YtdacpdhpifocbaaDoorW.PrintLast
set_option linter.unusedVariables false

/-- bytes of a code -/
def Bytes (s : List Int) : Prop := s.length ≤ 2000 ∧ ∀ b ∈ s, 0 ≤ b ∧ b ≤ 255
theorem rd_byte {s : List Int} (hs : Bytes s) (i : Int) : 0 ≤ rd s i ∧ rd s i ≤ 255 := by
  unfold rd
  rw [List.getD_eq_getElem?_getD]
  cases h : s[i.toNat]? with
  | none => simp
  | some b =>
    obtain ⟨hi, rfl⟩ := List.getElem?_eq_some_iff.1 h
    exact hs.2 _ (List.getElem_mem hi)
theorem xor_nat (a b : Nat) (ha : a < 4611686018427387904) (hb : b < 4611686018427387904) : Go.bits .xor .i64 (a : Int) (b : Int) = ((a ^^^ b : Nat) : Int) := by
  have hx : a ^^^ b < 2 ^ 62 := Nat.xor_lt_two_pow (by simpa using ha) (by simpa using hb)
  simp only [Go.bits, BitVec.ofInt_natCast, BitVec.toNat_xor, BitVec.toNat_ofNat]
  rw [show IntKind.bits .i64 = 64 from rfl, Nat.mod_eq_of_lt (show a < 2 ^ 64 by omega), Nat.mod_eq_of_lt (show b < 2 ^ 64 by omega), IntKind.wrap_i64]
  have : (a ^^^ b) < 4611686018427387904 := by simpa using hx
  omega
theorem xor_pos {a b : Int} (ha : 0 ≤ a ∧ a < 4611686018427387904) (hb : 0 ≤ b ∧ b < 4611686018427387904) : 0 ≤ Go.bits .xor .i64 a b := by
  obtain ⟨x, rfl⟩ := Int.eq_ofNat_of_zero_le ha.1
  obtain ⟨y, rfl⟩ := Int.eq_ofNat_of_zero_le hb.1
  rw [xor_nat x y (by omega) (by omega)]
  omega
theorem tmod_pos {a b : Int} (ha : 0 ≤ a) (hb : 0 < b) : 0 ≤ Int.tmod a b ∧ Int.tmod a b < b := ⟨Int.tmod_nonneg _ ha, Int.tmod_lt_of_pos _ hb⟩
theorem pick_f {s : List Int} (hs : Bytes s) (p n : Int) (hp : 0 ≤ p ∧ p ≤ 1000000) (hn : 1 ≤ n) (k : Nat) (hk : 1 ≤ k) :
    ∃ v, spec_l6Rd_pick.f k s p n = some (v, p + 1) ∧ 0 ≤ v ∧ v < n := by
  obtain ⟨k, rfl⟩ : ∃ m, k = m + 1 := ⟨k - 1, by omega⟩
  have hl := hs.1
  unfold spec_l6Rd_pick.f
  rw [if_neg (by omega), w_id (x := p + 1) (by omega) (by omega)]
  simp only [spec_l6Rd_pick.j0]
  by_cases h0 : s.length = 0
  · rw [if_pos (by simp [h0])]
    exact ⟨0, rfl, by omega, by omega⟩
  · rw [if_neg (by simp [h0]), w_id (x := p + 1 - 1) (by omega) (by omega), show p + 1 - 1 = p by omega]
    by_cases h1 : p < (s.length : Int)
    · rw [if_pos h1, if_pos hp.1, if_neg (by omega)]
      have hb := rd_byte hs p
      rw [w_id (x := rd s p) (by omega) (by omega)]
      obtain ⟨a, b⟩ := tmod_pos hb.1 (show 0 < n by omega)
      exact ⟨_, rfl, a, b⟩
    · rw [if_neg h1, if_neg (by omega)]
      obtain ⟨a1, a2⟩ := tmod_pos hp.1 (show (0 : Int) < s.length by omega)
      rw [if_pos a1, if_pos a2]
      rw [w_id (x := p * 7) (by omega) (by omega), w_id (x := p * 7 + 3) (by omega) (by omega)]
      obtain ⟨b1, b2⟩ := tmod_pos (show 0 ≤ p * 7 + 3 by omega) (show (0 : Int) < s.length by omega)
      rw [if_pos b1, if_pos b2, if_neg (by omega)]
      have hb := rd_byte hs (Int.tmod p (s.length : Int))
      have hc := rd_byte hs (Int.tmod (p * 7 + 3) (s.length : Int))
      generalize rd s (Int.tmod p (s.length : Int)) = x at *
      generalize rd s (Int.tmod (p * 7 + 3) (s.length : Int)) = y at *
      have hd : 0 ≤ Int.tdiv p (s.length : Int) ∧ Int.tdiv p (s.length : Int) ≤ 1000000 := by
        refine ⟨Int.tdiv_nonneg hp.1 (by omega), ?_⟩
        rw [Int.tdiv_eq_ediv_of_nonneg hp.1]
        exact Int.le_trans (Int.ediv_le_self _ hp.1) hp.2
      generalize Int.tdiv p (s.length : Int) = z at *
      rw [w_id (x := x) (by omega) (by omega), w_id (x := y) (by omega) (by omega), w_id (x := z) (by omega) (by omega), w_id (x := x * 131) (by omega) (by omega), w_id (x := y * 1117) (by omega) (by omega), w_id (x := x * 131 + y * 1117) (by omega) (by omega),
        w_id (x := p * 29) (by omega) (by omega), w_id (x := x * 131 + y * 1117 + p * 29) (by omega) (by omega), w_id (x := z * 53) (by omega) (by omega), w_id (x := x * 131 + y * 1117 + p * 29 + z * 53) (by omega) (by omega)]
      have ht : 0 ≤ x * 131 + y * 1117 + p * 29 + z * 53 ∧ x * 131 + y * 1117 + p * 29 + z * 53 < 1000000000 := by omega
      generalize x * 131 + y * 1117 + p * 29 + z * 53 = t at *
      have hu : 0 ≤ Int.tdiv t 64 ∧ Int.tdiv t 64 < 1000000000 := by
        rw [Int.tdiv_eq_ediv_of_nonneg ht.1]
        omega
      rw [w_id (x := Int.tdiv t 64) (by omega) (by omega)]
      obtain ⟨c1, c2⟩ := tmod_pos (xor_pos (a := t) (b := Int.tdiv t 64) (by omega) (by omega)) (show 0 < n by omega)
      exact ⟨_, rfl, c1, c2⟩
theorem open_f (l : List Int) (hb : ∀ x ∈ l, (Lit.int .u8 x).wf = true) : ∃ s, spec_l6Open.f l = some (s, 0) ∧ Bytes s := by
  have hb' : ∀ x ∈ l, 0 ≤ x ∧ x ≤ 255 := fun x hx => by
    have := hb x hx
    simp [Lit.wf, IntKind.min, IntKind.max, IntKind.bits, IntKind.signed] at this
    omega
  unfold spec_l6Open.f
  by_cases h : (l.length : Int) > 2000
  · rw [if_pos h, if_pos (by omega)]
    exact ⟨_, rfl, by simp; omega, fun b hb => hb' b (List.mem_of_mem_take hb)⟩
  · rw [if_neg h]
    exact ⟨_, rfl, by omega, hb'⟩
theorem l71Pt_f {s : List Int} (hs : Bytes s) (p : Int) (hp : 0 ≤ p ∧ p ≤ 999990) (k : Nat) (hk : 1 ≤ k) :
    ∃ x y q, spec_l71Pt.f k s p = some (x, y, q) ∧ p ≤ q ∧ q ≤ p + 4 ∧ -1 ≤ x ∧ x ≤ 10 ∧ -1 ≤ y ∧ y ≤ 10 := by
  unfold spec_l71Pt.f
  obtain ⟨a, ha, a0, a1⟩ := pick_f hs p 10 (by omega) (by omega) k hk
  rw [ha]
  simp only [Option.bind_some]
  obtain ⟨b, hb, b0, b1⟩ := pick_f hs (p + 1) 10 (by omega) (by omega) k hk
  rw [hb]
  simp only [Option.bind_some]
  obtain ⟨c, hc, c0, c1⟩ := pick_f hs (p + 1 + 1) 40 (by omega) (by omega) k hk
  rw [hc]
  simp only [Option.bind_some]
  obtain ⟨d, hd, d0, d1⟩ := pick_f hs (p + 1 + 1 + 1) 2 (by omega) (by omega) k hk
  have hr : -1 ≤ rd [-1, 10] d ∧ rd [-1, 10] d ≤ 10 := by
    have : d = 0 ∨ d = 1 := by omega
    rcases this with rfl | rfl <;> simp [rd]
  by_cases e0 : c = 0
  · rw [if_pos e0, hd]
    simp only [Option.bind_some]
    rw [if_pos d0, if_pos (by simpa using d1)]
    exact ⟨_, _, _, rfl, by omega, by omega, hr.1, hr.2, by omega, by omega⟩
  · rw [if_neg e0]
    by_cases e1 : c = 1
    · rw [if_pos e1, hd]
      simp only [Option.bind_some]
      rw [if_pos d0, if_pos (by simpa using d1)]
      exact ⟨_, _, _, rfl, by omega, by omega, by omega, by omega, hr.1, hr.2⟩
    · rw [if_neg e1]
      exact ⟨_, _, _, rfl, by omega, by omega, by omega, by omega, by omega, by omega⟩
end Go.Proofs.YtdacpdhpifocbaaDoor.Q

namespace Go.Proofs.YtdacpdhpifocbaaDoor.Q
open Go.RowKit Go.Proofs.YtdacpdhpifocbaaDoor.P Go.Proofs.YtdacpdhpifocbaaDoorW.PrintWords Go.Proofs.YtdacpdhpifocbaaDoorW.PrintLast
set_option linter.unusedVariables false
/-- a point that is drawn -/
def Small (p : PT) : Prop := -1 ≤ p.f0 ∧ p.f0 ≤ 10 ∧ -1 ≤ p.f1 ∧ p.f1 ≤ 10
theorem small_snoc {l : List PT} {p : PT} (h : ∀ q ∈ l, Small q) (hp : Small p) : ∀ q ∈ l ++ [p], Small q := fun q hq => by
  rcases List.mem_append.1 hq with h' | h'
  · exact h q h'
  · rw [List.mem_singleton.1 h']; exact hp
end Go.Proofs.YtdacpdhpifocbaaDoor.Q

namespace Go.Proofs.YtdacpdhpifocbaaDoor.Q
open Go.RowKit Go.Proofs.YtdacpdhpifocbaaDoor.P Go.Proofs.YtdacpdhpifocbaaDoorW.PrintWords Go.Proofs.YtdacpdhpifocbaaDoorW.PrintLast
set_option linter.unusedVariables false
set_option maxHeartbeats 2000000
theorem small_ok {p : PT} (h : okP p = true) : Small p := by
  rw [okP_iff] at h
  unfold Small
  omega
theorem drawPath_l0 {s : List Int} (hs : Bytes s) : ∀ (d k : Nat) (acc : List PT) (p a b t : Int), 0 ≤ p → p + 10 * (d : Int) ≤ 900000 → acc.length + d ≤ 1000 → 3 * d + 5 ≤ k → d ≤ 1000 → (∀ q ∈ acc, Small q) → 0 ≤ a ∧ a < 10 → 0 ≤ b ∧ b < 10 → 0 ≤ t ∧ t < 4 →
    ∃ r q, spec_l72Path.l0 k acc t (d : Int) s p a b = some (r, q) ∧ p ≤ q ∧ q ≤ p + 10 * (d : Int) + 10 ∧ r.length ≤ acc.length + d + 1 ∧ ∀ q ∈ r, Small q := by
  intro d
  induction d with
  | zero =>
    intro k acc p a b t hp hp' h2 hk hd hsm ha hb ht
    obtain ⟨k, rfl⟩ : ∃ m, k = m + 1 + 1 + 1 := ⟨k - 3, by omega⟩
    simp only [spec_l72Path.l0]
    rw [if_neg (by omega)]
    obtain ⟨v, hv, v0, v1⟩ := pick_f hs p 16 (by omega) (by omega) (k + 1 + 1) (by omega)
    rw [hv]
    simp only [Option.bind_some]
    by_cases e : v = 0
    · rw [if_pos e]
      obtain ⟨x, y, q, hq, q0, q1, z0, z1, z2, z3⟩ := l71Pt_f hs (p + 1) (by omega) (k + 1 + 1) (by omega)
      rw [hq]
      simp only [Option.bind_some]
      rw [if_pos (by omega)]
      simp only [spec_l72Path.j4]
      exact ⟨_, _, rfl, by omega, by omega, by simp, small_snoc hsm ⟨z0, z1, z2, z3⟩⟩
    · rw [if_neg e]
      by_cases e1 : v = 1
      · rw [if_pos e1, if_pos (by omega)]
        simp only [spec_l72Path.j3, spec_l72Path.j4]
        exact ⟨_, _, rfl, by omega, by omega, by simp, fun q hq => by simp at hq⟩
      · rw [if_neg e1]
        simp only [spec_l72Path.j3, spec_l72Path.j4]
        exact ⟨_, _, rfl, by omega, by omega, by omega, hsm⟩
  | succ d ih =>
    intro k acc p a b t hp hp' h2 hk hd hsm ha hb ht
    obtain ⟨k, rfl⟩ : ∃ m, k = m + 1 + 1 + 1 := ⟨k - 3, by omega⟩
    simp only [spec_l72Path.l0]
    rw [if_pos (by omega)]
    obtain ⟨v, hv, v0, v1⟩ := pick_f hs p 3 (by omega) (by omega) (k + 1 + 1) (by omega)
    rw [hv]
    simp only [Option.bind_some]
    have hw : wrap64 (((d + 1 : Nat) : Int) - 1) = (d : Int) := by rw [w_id (by omega) (by omega)]; omega
    have key : ∀ (q u : Int), p ≤ q → q ≤ p + 2 → 0 ≤ u ∧ u < 4 → ∃ r q', spec_l72Path.j1 (k + 1 + 1) acc u ((d + 1 : Nat) : Int) s q a b = some (r, q') ∧ p ≤ q' ∧ q' ≤ p + 10 * ((d + 1 : Nat) : Int) + 10 ∧ r.length ≤ acc.length + (d + 1) + 1 ∧ ∀ q ∈ r, Small q := fun q u hq0 hq1 hu => by
      have hx : -1 ≤ rd [1, 0, -1, 0] u ∧ rd [1, 0, -1, 0] u ≤ 1 := by
        have : u = 0 ∨ u = 1 ∨ u = 2 ∨ u = 3 := by omega
        rcases this with rfl | rfl | rfl | rfl <;> simp [rd]
      have hy : -1 ≤ rd [0, 1, 0, -1] u ∧ rd [0, 1, 0, -1] u ≤ 1 := by
        have : u = 0 ∨ u = 1 ∨ u = 2 ∨ u = 3 := by omega
        rcases this with rfl | rfl | rfl | rfl <;> simp [rd]
      simp only [spec_l72Path.j1, Option.bind_some]
      rw [if_pos hu.1, if_pos (by simpa using hu.2), if_pos (by simpa using hu.2)]
      generalize rd [1, 0, -1, 0] u = x at *
      generalize rd [0, 1, 0, -1] u = y at *
      rw [w_id (x := a + x) (by omega) (by omega), w_id (x := b + y) (by omega) (by omega), specOk]
      simp only [Option.bind_some]
      by_cases hok : okP ⟨a + x, b + y⟩ = true
      · have hok' := okP_iff.1 hok
        simp only at hok'
        rw [if_pos hok, if_pos (by omega)]
        simp only [spec_l72Path.j2]
        rw [hw]
        obtain ⟨r, q', hr, r0, r1, r2, r3⟩ := ih k (acc ++ [⟨a + x, b + y⟩]) q (a + x) (b + y) u (by omega) (by omega) (by simp; omega) (by omega) (by omega) (small_snoc hsm (small_ok hok)) (by omega) (by omega) hu
        exact ⟨r, q', hr, by omega, by omega, by simp at r2; omega, r3⟩
      · rw [if_neg hok]
        simp only [spec_l72Path.j2]
        rw [hw]
        obtain ⟨r, q', hr, r0, r1, r2, r3⟩ := ih k acc q a b u (by omega) (by omega) (by omega) (by omega) (by omega) hsm ha hb hu
        exact ⟨r, q', hr, by omega, by omega, by omega, r3⟩
    by_cases e : v = 0
    · rw [if_pos e]
      obtain ⟨u, hu, u0, u1⟩ := pick_f hs (p + 1) 4 (by omega) (by omega) (k + 1 + 1) (by omega)
      rw [hu]
      simp only [Option.bind_some]
      exact key _ _ (by omega) (by omega) ⟨u0, u1⟩
    · rw [if_neg e]
      exact key _ _ (by omega) (by omega) ht
/-- What a path's drawing answers: at most seventeen drawn points; the reader has gone on. -/
theorem drawPath_f {s : List Int} (hs : Bytes s) (p : Int) (hp : 0 ≤ p ∧ p ≤ 1000) (k : Nat) (hk : 100 ≤ k) : ∃ r q, spec_l72Path.f k s p = some (r, q) ∧ p ≤ q ∧ q ≤ p + 200 ∧ r.length ≤ 17 ∧ ∀ q ∈ r, Small q := by
  unfold spec_l72Path.f
  obtain ⟨a, ha, a0, a1⟩ := pick_f hs p 10 (by omega) (by omega) k (by omega)
  rw [ha]
  simp only [Option.bind_some]
  obtain ⟨b, hb, b0, b1⟩ := pick_f hs (p + 1) 10 (by omega) (by omega) k (by omega)
  rw [hb]
  simp only [Option.bind_some]
  obtain ⟨t, ht, t0, t1⟩ := pick_f hs (p + 1 + 1) 4 (by omega) (by omega) k (by omega)
  rw [ht]
  simp only [Option.bind_some]
  obtain ⟨n, hn, n0, n1⟩ := pick_f hs (p + 1 + 1 + 1) 16 (by omega) (by omega) k (by omega)
  rw [hn]
  simp only [Option.bind_some]
  obtain ⟨m, rfl⟩ := Int.eq_ofNat_of_zero_le n0
  obtain ⟨r, q, hr, r0, r1, r2, r3⟩ := drawPath_l0 hs m k [⟨a, b⟩] (p + 1 + 1 + 1 + 1) a b t (by omega) (by omega) (by simp; omega) (by omega) (by omega)
    (fun q hq => by rw [List.mem_singleton.1 hq]; unfold Small; simp only; omega) ⟨a0, a1⟩ ⟨b0, b1⟩ ⟨t0, t1⟩
  exact ⟨r, q, hr, by omega, by omega, by simp at r2; omega, r3⟩
theorem drawTurns_f (l : List Int) (hb : ∀ x ∈ l, (Lit.int .u8 x).wf = true) (k : Nat) (hk : 100 ≤ k) : ∃ r, spec_DrawCodeTurns.f k l = some r ∧ r.length ≤ 17 ∧ ∀ q ∈ r, Small q := by
  obtain ⟨s, ho, hs⟩ := open_f l hb
  obtain ⟨r, q, hr, _, _, r2, r3⟩ := drawPath_f hs 0 (by omega) k hk
  unfold spec_DrawCodeTurns.f
  rw [ho]
  simp only [Option.bind_some]
  rw [hr]
  exact ⟨r, rfl, r2, r3⟩
end Go.Proofs.YtdacpdhpifocbaaDoor.Q

namespace Go.Proofs.YtdacpdhpifocbaaDoor.Q
open Go.RowKit Go.Proofs.YtdacpdhpifocbaaDoor.P Go.Proofs.YtdacpdhpifocbaaDoor.Ch Go.Proofs.YtdacpdhpifocbaaDoorW.PrintWords Go.Proofs.YtdacpdhpifocbaaDoorW.PrintLast
set_option linter.unusedVariables false
/-! ### drawn -/
theorem drawWrite_f (l : List Int) (hb : ∀ x ∈ l, (Lit.int .u8 x).wf = true) (k : Nat) (hk : 100 ≤ k) : ∃ r, spec_DrawCodeWrite.f k l = some r ∧ r.length ≤ 17 := by
  obtain ⟨s, ho, hs⟩ := open_f l hb
  obtain ⟨r, q, hr, _, _, r2, r3⟩ := drawPath_f hs 0 (by omega) k hk
  unfold spec_DrawCodeWrite.f
  rw [ho]
  simp only [Option.bind_some]
  rw [hr]
  exact ⟨r, rfl, r2⟩
theorem list_beqb {a b : ByteArray} : (a.toList == b.toList) = decide (a = b) := by
  rw [Bool.eq_iff_iff, beq_iff_eq, decide_eq_true_iff, list_beq]
theorem list_nil {a : ByteArray} : a.toList = ([] : List UInt8) ↔ a = bx [] := by
  rw [Go.ByteArray.toList_eq]
  exact ⟨fun h => by rw [bx_of a, h], fun h => by rw [h]; rfl⟩
theorem path_of_text {l : List PT} (h : cwText l ≠ bx []) : IsPath l := cwText_path h
theorem head_text {l : List PT} (hp : IsPath l) : 2 ≤ (cwText l).size ∧ ((cwText l).extract 0 2).toList = ([71, 48] : List UInt8) := by
  obtain ⟨r, hr⟩ := cwText_head hp
  have e : cwText l = bx (71 :: 48 :: r) := hr
  rw [e, bx_size, extract_bx, Go.ByteArray.toList_eq, bx_list]
  exact ⟨by simp, by simp⟩
/-! ### a path without its last leg -/
end Go.Proofs.YtdacpdhpifocbaaDoor.Q

namespace Go.Proofs.YtdacpdhpifocbaaDoor.Pure
open Go.RowKit Go.Proofs.YtdacpdhpifocbaaDoor.P Go.Proofs.YtdacpdhpifocbaaDoor.Q Go.Proofs.YtdacpdhpifocbaaDoor.Ch Go.Proofs.YtdacpdhpifocbaaDoorW.PrintWords Go.Proofs.YtdacpdhpifocbaaDoorW.PrintLast
set_option linter.unusedVariables false
theorem codeOne_j0 (l0 l1 : List Int) (h0 : ∀ x ∈ l0, (Lit.int .u8 x).wf = true) (h1 : ∀ x ∈ l1, (Lit.int .u8 x).wf = true) : laws_FnCodeOne.j0 30000 l0 l1 false = some true := by
  obtain ⟨a, ha, a1⟩ := drawWrite_f l0 h0 29999 (by omega)
  obtain ⟨b, hb, b1, _⟩ := drawTurns_f l1 h1 29999 (by omega)
  rw [show (30000 : Nat) = 29999 + 1 from rfl, laws_FnCodeOne.j0, if_neg (by simp), ha, Option.bind_some, hb, Option.bind_some, implCodeWrite a (by omega) _ (by omega), Option.bind_some, implCodeWrite b (by omega) _ (by omega), Option.bind_some, specCodeWrite a (by omega) _ (by omega), Option.bind_some, if_pos rfl]
  have hend : laws_FnCodeOne.j1 29999 a b (cwText a) (cwText b) true = some true := by
    rw [show (29999 : Nat) = 29998 + 1 from rfl, laws_FnCodeOne.j1, if_pos rfl, specCodeWrite a (by omega) _ (by omega), Option.bind_some, beq_self_eq_true]
  by_cases ea : (cwText a).toList = ([] : List UInt8)
  · rw [if_pos ea, hend]
  · rw [if_neg ea]
    by_cases eb : (cwText b).toList = ([] : List UInt8)
    · rw [show ((cwText b).toList == ([] : List UInt8)) = true from beq_iff_eq.2 eb, hend]
    · have pa : IsPath a := path_of_text (fun e => ea (list_nil.2 e))
      have pb : IsPath b := path_of_text (fun e => eb (list_nil.2 e))
      obtain ⟨ha2, ha3⟩ := head_text pa
      obtain ⟨hb2, hb3⟩ := head_text pb
      rw [show ((cwText b).toList == ([] : List UInt8)) = false from by simpa using eb]
      rw [show (29999 : Nat) = 29998 + 1 from rfl, laws_FnCodeOne.j1, if_neg (by simp), luSame_f a b (by omega) _ (by omega), Option.bind_some, list_beqb, if_pos, if_pos (by omega), if_pos (by omega), if_pos ha3, if_pos (by omega), hb3, beq_self_eq_true]
      rw [beq_iff_eq, Bool.eq_iff_iff, decide_eq_true_iff, decide_eq_true_iff]
      exact ⟨fun e => cwText_inj pa pb e, fun e => by rw [e]⟩
theorem FnCodeOne : laws_FnCodeOne.Pure := by
  intro l0 l1 _ _ h0 _ _ h1
  refine ⟨30000, ?_⟩
  have ht : laws_FnCodeOne.j0 30000 l0 l1 true = some true := by rw [show (30000 : Nat) = 29999 + 1 from rfl, laws_FnCodeOne.j0, if_pos rfl]
  unfold laws_FnCodeOne.f
  by_cases b0 : (l0.length : Int) > 1048576
  · rw [if_pos b0, ht]
  · rw [if_neg b0]
    cases decide ((l1.length : Int) > 1048576)
    · exact codeOne_j0 l0 l1 h0 h1
    · exact ht
end Go.Proofs.YtdacpdhpifocbaaDoor.Pure

namespace Go.Proofs.YtdacpdhpifocbaaDoor.fnCodeOne
open Go.ChangeShapes Go.WideShapes Go.ChangeAt Go.RowKit
open Go.ChangeMaps (open_string shut_string)
set_option linter.unusedVariables false
theorem own : ownKnob Tryd.prog.godebug = none := by kernel_rfl
theorem laidOut : laidOutB Tryd.prog = true := by kernel_rfl
def IsRow (k : IntKind) (w : World) (a : Option Addr) (len cap : Nat) (zs : List Int) : Prop :=
  (a = none ∧ len = 0 ∧ cap = 0 ∧ zs = []) ∨
  ∃ x, a = some x ∧ len ≤ cap ∧ cap ≤ maxLen ∧ zs.length = cap ∧ (∀ i, i < zs.length → w.cell? (x.add i) = some (.int k (zs.getD i 0))) ∧ ∀ n ∈ zs, (Lit.int k n).wf = true
/-- The heap that the door's own run leaves meets the condition. -/
theorem door_met (os : Os) (args : Array Value) : laidMetH Tryd.prog Rows.fnCodeOneRow.laid ((World.doorLaid Tryd.prog 34 os).forCall (fun _ _ => 0) ⟨#[], args, []⟩).memory :=
  laidMetH_of_parts3 (fuel := 8) (laidMet_of_run' 8 (by kernel_rfl) (by kernel_rfl)) (by kernel_rfl) (by kernel_rfl)
set_option maxRecDepth 100000 in
theorem lifted (os : Os) (started : os.Started) (H : Type) (enc : TypeId × Value → H) :
    ReturnsInHanded {} Tryd.checked os 4 .any (fun w args => (Rows.fnCodeOneSpec.pre enc Tryd.prog Tryd.f4 Rows.fnCodeOneRow.domain false w args ∧ laidMetH Tryd.prog Rows.fnCodeOneRow.laid w) ∧ sizedMet enc Tryd.prog Tryd.f4 (OpenSpec.ofChange Rows.fnCodeOneSpec) false w args) (Rows.fnCodeOneSpec.post enc Tryd.prog Tryd.f4 false true false false) := by
  refine returnsInHanded_of_change_and (C := Tryd.checked) (X := fun w _ => laidMetH Tryd.prog Rows.fnCodeOneRow.laid w) (fun _ _ _ hh h => h.of_heap hh) own started (by kernel_rfl) Tryd.func4
    (ChangeSpec.witness_shaped (enc := enc) (C := Tryd.checked) (os := os) (X := fun w _ => laidMetH Tryd.prog Rows.fnCodeOneRow.laid w) false (World.doorLaid Tryd.prog 34 os) #[.slice none 0 0, .slice none 0 0] 8 rfl (World.shaped_of_RefB (by kernel_rfl) (by kernel_rfl)) (by kernel_rfl) (by kernel_rfl) (by kernel_rfl) (door_met os _)) ?_
  intro W base args ds gs before hval0 hW hcnd hsz0 _ _
  have hsz : (DataW.weightsEach Tryd.prog (Tryd.f4.params.toList ++ Rows.fnCodeOneSpec.plain.varTypes Tryd.prog) (ds ++ gs)).all (· ≤ reachBytes) = true := hsz0
  have hval : ∀ (j : Nat) t v, Tryd.f4.params[j]? = some t → args[j]? = some v → Value.okWide Tryd.prog W .any base t v := hval0
  have hW' := hW
  obtain ⟨p, q, hA0, hV, rfl, hfz, hnd⟩ := hW
  have hA : DataW.TrodAll enc Tryd.prog W 0 (fun _ => true) true Tryd.f4.params.toList args.toList ds p := hA0
  rw [Tryd.params4] at hA hval hsz
  obtain ⟨v0, vs0, d0, ds0, p0, q0, hargs, rfl, rfl, h0, r0⟩ := trodAll_cons hA
  obtain ⟨v1, vs1, d1, ds1, p1, q1, rfl, rfl, rfl, h1, r1⟩ := trodAll_cons r0
  obtain ⟨rfl, rfl, rfl⟩ := trodAll_nil r1
  obtain rfl : args = #[v0, v1] := by cases args; simp_all
  obtain ⟨rfl, rfl⟩ := trodVars_none hV
  obtain ⟨a0, len0, cap0, rfl⟩ := okWide_slice Tryd.underlying29 (hval 0 29 v0 rfl rfl)
  have k0 := h0
  have lt0 : ∀ x ∈ p0, x.block < W.heap.size := by obtain ⟨m, hm⟩ := k0; exact DataW.trod_lt m _ _ _ hm
  obtain ⟨z0, w0⟩ : ∃ zs, IsRow .u8 W a0 len0 cap0 zs := by
    obtain ⟨fuel, hf⟩ := h0
    rcases open_ints Tryd.underlying29 Tryd.underlying5 (by kernel_rfl) hf with ⟨hcs, _⟩ | ⟨x, l, c, zs, hcs, _, hl, hm, hz, _, hcell, hwz⟩
    · simp [Value.cells] at hcs
      obtain ⟨rfl, rfl, rfl⟩ := hcs
      exact ⟨[], .inl ⟨rfl, rfl, rfl, rfl⟩⟩
    · simp [Value.cells] at hcs
      obtain ⟨rfl, rfl, rfl⟩ := hcs
      exact ⟨zs, .inr ⟨_, rfl, hl, hm, by simpa using hz, hcell, hwz⟩⟩
  have y0 : len0 * 1 ≤ 140737488351232 := Go.Proofs.YtdacpdhpifocbaaDoorW.PrintWords.sized_ints hsz (j := 0) (t := 29) rfl rfl Tryd.underlying29 Tryd.underlying5 (by kernel_rfl) (by kernel_rfl) h0
  obtain ⟨a1, len1, cap1, rfl⟩ := okWide_slice Tryd.underlying29 (hval 1 29 v1 rfl rfl)
  have k1 := h1
  have lt1 : ∀ x ∈ p1, x.block < W.heap.size := by obtain ⟨m, hm⟩ := k1; exact DataW.trod_lt m _ _ _ hm
  obtain ⟨z1, w1⟩ : ∃ zs, IsRow .u8 W a1 len1 cap1 zs := by
    obtain ⟨fuel, hf⟩ := h1
    rcases open_ints Tryd.underlying29 Tryd.underlying5 (by kernel_rfl) hf with ⟨hcs, _⟩ | ⟨x, l, c, zs, hcs, _, hl, hm, hz, _, hcell, hwz⟩
    · simp [Value.cells] at hcs
      obtain ⟨rfl, rfl, rfl⟩ := hcs
      exact ⟨[], .inl ⟨rfl, rfl, rfl, rfl⟩⟩
    · simp [Value.cells] at hcs
      obtain ⟨rfl, rfl, rfl⟩ := hcs
      exact ⟨zs, .inr ⟨_, rfl, hl, hm, by simpa using hz, hcell, hwz⟩⟩
  have y1 : len1 * 1 ≤ 140737488351232 := Go.Proofs.YtdacpdhpifocbaaDoorW.PrintWords.sized_ints hsz (j := 1) (t := 29) rfl rfl Tryd.underlying29 Tryd.underlying5 (by kernel_rfl) (by kernel_rfl) h1
  clear hA0 hval0 hsz0 hsz
  refine (P.laws_FnCodeOne.walk Pure.FnCodeOne a0 len0 cap0 z0 a1 len1 cap1 z1 W w0 y0 w1 y1).mono fun e W' ⟨he, bel⟩ => ?_
  subst he
  exact ⟨_, rfl, _, _, _, [], _, [], hW', trodAll_mk1 (shut_bool Tryd.underlying4 _), (trodAll_cons_mk (Below.trod laidOut (by kernel_rfl) (of_decide_eq_true (by kernel_rfl)) k0 bel lt0) (trodAll_cons_mk (Below.trod laidOut (by kernel_rfl) (of_decide_eq_true (by kernel_rfl)) k1 bel lt1) trodAll_mk0)), rfl, bel.frame _, fun h => by cases h⟩
theorem over : Rows.fnCodeOneRow.holds Tryd.pinned (OpenSpec.ofChange Rows.fnCodeOneSpec) :=
  OpenClaim.holds_of_wide 4 Tryd.f4 rfl rfl rfl rfl rfl rfl rfl ⟨rfl, rfl, rfl, rfl, rfl⟩ rfl rfl rfl rfl rfl (by kernel_rfl) Tryd.func4 (by kernel_rfl)
    (of_decide_eq_true (by kernel_rfl)) (by unfold Func.isWrapper; first | (rw [if_pos (by decide +kernel)]; kernel_rfl) | (rw [if_neg (by decide +kernel)]; exact ⟨rfl, rfl⟩))
    (fun os started H enc _ => lifted os started H enc)
theorem proved : Rows.FnCodeOneSaid := over
#print axioms proved
end Go.Proofs.YtdacpdhpifocbaaDoor.fnCodeOne
namespace Go.Proofs.YtdacpdhpifocbaaDoor
/-- The row, under a short name, for the claim. -/
theorem fnCodeOne_holds : Rows.FnCodeOneSaid := fnCodeOne.proved
end Go.Proofs.YtdacpdhpifocbaaDoor

