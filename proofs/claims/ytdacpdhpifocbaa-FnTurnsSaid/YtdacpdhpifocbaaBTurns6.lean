/- Part 7 of what Turns rests on: contracts of the program's functions and plain facts (the print's texts and the session's own, put together). -/
import Derived.Test.YtdacpdhpifocbaaBTurns5
namespace Go.Proofs.Ytdacpdhpifocbaa.P
open Go.RowKit Go.Proofs.YtdacpdhpifocbaaW.PrintWords Go.Proofs.YtdacpdhpifocbaaW.PrintLast Go.Proofs.YtdacpdhpifocbaaW.PrintMore
attribute [local go_sem] max2_int min2_int max_two min_two max_three min_three max_four min_four   -- for this text's walks alone
set_option linter.unusedVariables false
set_option linter.unusedSimpArgs false

attribute [local go_sem high] eqA38
/-! ### laws_FnTurns: function 8 -/
mutual
def laws_FnTurns.j0 : Nat → List (S38) → List (S38) → Bool → Option (Bool)
  | 0, _, _, _ => none
  | k + 1, x3, x4, x28 => if x28 = true then ((spec_CodeTurns.f k x3).bind fun t111 => ((laws_luSame.f k x4 t111).bind fun t114 => (some t114))) else ((impl_CodeStay.f k x4).bind fun bt115 => (laws_FnTurns.l0 k x3 x4 bt115.1 bt115.2 (x4.length : Int) 2))
def laws_FnTurns.l0 : Nat → List (S38) → List (S38) → List (S38) → Bool → Int → Int → Option (Bool)
  | 0, _, _, _, _, _, _ => none
  | k + 1, x3, x4, x5, x6, x7, x8 => if x8 < x7 then (if 0 ≤ (wrap64 (x8 - 2)) then (if (wrap64 (x8 - 2)) < (x4.length : Int) then (if 0 ≤ (wrap64 (x8 - 1)) then (if (wrap64 (x8 - 1)) < (x4.length : Int) then (if 0 ≤ x8 then (if x8 < (x4.length : Int) then ((impl_SegTurn.f k ((rd_T38 x4 (wrap64 (x8 - 2))).f0) ((rd_T38 x4 (wrap64 (x8 - 2))).f1) ((rd_T38 x4 (wrap64 (x8 - 1))).f0) ((rd_T38 x4 (wrap64 (x8 - 1))).f1) ((rd_T38 x4 x8).f0) ((rd_T38 x4 x8).f1)).bind fun t125 => (if t125 = 0 then (if (wrap64 ((wrap64 ((wrap64 (((rd_T38 x4 (wrap64 (x8 - 1))).f0) - ((rd_T38 x4 (wrap64 (x8 - 2))).f0))) * (wrap64 (((rd_T38 x4 x8).f0) - ((rd_T38 x4 (wrap64 (x8 - 1))).f0))))) + (wrap64 ((wrap64 (((rd_T38 x4 (wrap64 (x8 - 1))).f1) - ((rd_T38 x4 (wrap64 (x8 - 2))).f1))) * (wrap64 (((rd_T38 x4 x8).f1) - ((rd_T38 x4 (wrap64 (x8 - 1))).f1))))))) > 0 then (some false) else (laws_FnTurns.l0 k x3 x4 x5 x6 x7 (wrap64 (x8 + 1)))) else (laws_FnTurns.l0 k x3 x4 x5 x6 x7 (wrap64 (x8 + 1))))) else (none)) else (none)) else (none)) else (none)) else (none)) else (none)) else (if x6 = true then ((laws_luSame.f k x5 x3).bind fun t126 => (if t126 = true then (if 0 < (x4.length : Int) then (if 0 < (x3.length : Int) then (if (((rd_T38 x4 0).f0) == ((rd_T38 x3 0).f0) && (((rd_T38 x4 0).f1) == ((rd_T38 x3 0).f1))) = true then (if 0 ≤ (wrap64 (x7 - 1)) then (if (wrap64 (x7 - 1)) < (x4.length : Int) then (if 0 ≤ (wrap64 ((x3.length : Int) - 1)) then (if (wrap64 ((x3.length : Int) - 1)) < (x3.length : Int) then (if (((rd_T38 x4 (wrap64 (x7 - 1))).f0) == ((rd_T38 x3 (wrap64 ((x3.length : Int) - 1))).f0) && (((rd_T38 x4 (wrap64 (x7 - 1))).f1) == ((rd_T38 x3 (wrap64 ((x3.length : Int) - 1))).f1))) = true then ((laws_luPart.f k x4 x3).bind fun t131 => (some t131)) else (some false)) else (none)) else (none)) else (none)) else (none)) else (some false)) else (none)) else (none)) else (some false))) else (some false))
end
def laws_FnTurns.f (k : Nat) (l0 : List Int) : Option (Bool) := if (l0.length : Int) > 1048576 then (some true) else ((spec_DrawCodeTurns.f k l0).bind fun t101 => ((impl_CodeTurns.f k t101).bind fun t104 => ((spec_CodeTurns.f k t101).bind fun t107 => ((laws_luSame.f k t104 t107).bind fun t110 => (if t110 = true then (laws_FnTurns.j0 k t101 t104 ((t104.length : Int) == 0)) else (laws_FnTurns.j0 k t101 t104 true))))))
theorem laws_FnTurns.mono_l : ∀ k, (∀ y0 y1 y2, LeO (laws_FnTurns.j0 k y0 y1 y2) (laws_FnTurns.j0 (k + 1) y0 y1 y2)) ∧ (∀ y0 y1 y2 y3 y4 y5, LeO (laws_FnTurns.l0 k y0 y1 y2 y3 y4 y5) (laws_FnTurns.l0 (k + 1) y0 y1 y2 y3 y4 y5))
  | 0 => ⟨fun _ _ _ r h => by simp [laws_FnTurns.j0] at h, fun _ _ _ _ _ _ r h => by simp [laws_FnTurns.l0] at h⟩
  | k + 1 => by
    obtain ⟨ih0, ih1⟩ := laws_FnTurns.mono_l k
    refine ⟨?_, ?_⟩
    · intro y0 y1 y2
      unfold laws_FnTurns.j0
      repeat' first
      | (with_reducible exact ih0 _ _ _)
      | (with_reducible exact ih1 _ _ _ _ _ _)
      | (with_reducible exact impl_CodeStay.mono _ _)
      | (with_reducible exact impl_CodeTurns.mono _ _)
      | (with_reducible exact impl_SegTurn.mono _ _ _ _ _ _ _)
      | (with_reducible exact laws_luPart.mono _ _ _)
      | (with_reducible exact laws_luSame.mono _ _ _)
      | (with_reducible exact spec_CodeTurns.mono _ _)
      | (with_reducible exact spec_DrawCodeTurns.mono _ _)
      | (with_reducible exact LeO.refl _)
      | (with_reducible exact LeO.none _)
      | (with_reducible refine LeO.ite ?_ ?_)
      | (with_reducible refine LeO.bind ?_ (fun _ => ?_))
      | exact ih0 _ _ _
      | exact ih1 _ _ _ _ _ _
      | exact impl_CodeStay.mono _ _
      | exact impl_CodeTurns.mono _ _
      | exact impl_SegTurn.mono _ _ _ _ _ _ _
      | exact laws_luPart.mono _ _ _
      | exact laws_luSame.mono _ _ _
      | exact spec_CodeTurns.mono _ _
      | exact spec_DrawCodeTurns.mono _ _
      | exact LeO.none _
      | refine LeO.ite ?_ ?_
      | refine LeO.bind ?_ (fun _ => ?_)
    · intro y0 y1 y2 y3 y4 y5
      unfold laws_FnTurns.l0
      repeat' first
      | (with_reducible exact ih0 _ _ _)
      | (with_reducible exact ih1 _ _ _ _ _ _)
      | (with_reducible exact impl_CodeStay.mono _ _)
      | (with_reducible exact impl_CodeTurns.mono _ _)
      | (with_reducible exact impl_SegTurn.mono _ _ _ _ _ _ _)
      | (with_reducible exact laws_luPart.mono _ _ _)
      | (with_reducible exact laws_luSame.mono _ _ _)
      | (with_reducible exact spec_CodeTurns.mono _ _)
      | (with_reducible exact spec_DrawCodeTurns.mono _ _)
      | (with_reducible exact LeO.refl _)
      | (with_reducible exact LeO.none _)
      | (with_reducible refine LeO.ite ?_ ?_)
      | (with_reducible refine LeO.bind ?_ (fun _ => ?_))
      | exact ih0 _ _ _
      | exact ih1 _ _ _ _ _ _
      | exact impl_CodeStay.mono _ _
      | exact impl_CodeTurns.mono _ _
      | exact impl_SegTurn.mono _ _ _ _ _ _ _
      | exact laws_luPart.mono _ _ _
      | exact laws_luSame.mono _ _ _
      | exact spec_CodeTurns.mono _ _
      | exact spec_DrawCodeTurns.mono _ _
      | exact LeO.none _
      | refine LeO.ite ?_ ?_
      | refine LeO.bind ?_ (fun _ => ?_)
theorem laws_FnTurns.mono : ∀ a0 k, LeO (laws_FnTurns.f k a0) (laws_FnTurns.f (k + 1) a0) := by
  intro a0 k
  obtain ⟨ih0, ih1⟩ := laws_FnTurns.mono_l k
  unfold laws_FnTurns.f
  repeat' first
      | (with_reducible exact ih0 _ _ _)
      | (with_reducible exact ih1 _ _ _ _ _ _)
      | (with_reducible exact impl_CodeStay.mono _ _)
      | (with_reducible exact impl_CodeTurns.mono _ _)
      | (with_reducible exact impl_SegTurn.mono _ _ _ _ _ _ _)
      | (with_reducible exact laws_luPart.mono _ _ _)
      | (with_reducible exact laws_luSame.mono _ _ _)
      | (with_reducible exact spec_CodeTurns.mono _ _)
      | (with_reducible exact spec_DrawCodeTurns.mono _ _)
      | (with_reducible exact LeO.refl _)
      | (with_reducible exact LeO.none _)
      | (with_reducible refine LeO.ite ?_ ?_)
      | (with_reducible refine LeO.bind ?_ (fun _ => ?_))
      | exact ih0 _ _ _
      | exact ih1 _ _ _ _ _ _
      | exact impl_CodeStay.mono _ _
      | exact impl_CodeTurns.mono _ _
      | exact impl_SegTurn.mono _ _ _ _ _ _ _
      | exact laws_luPart.mono _ _ _
      | exact laws_luSame.mono _ _ _
      | exact spec_CodeTurns.mono _ _
      | exact spec_DrawCodeTurns.mono _ _
      | exact LeO.none _
      | refine LeO.ite ?_ ?_
      | refine LeO.bind ?_ (fun _ => ?_)
def laws_FnTurns.T17 : Bool × List (List Nat × List Nat) := (true, [([], []), ([0], [0]), ([1], [1]), ([1], [1]), ([2, 3, 1, 1], [1, 2, 3]), ([1, 4], [1, 4]), ([5, 4], [5]), ([6], [6]), ([7, 6], [6, 7]), ([8, 6], [6, 8]), ([6], [6]), ([10, 6], [6, 10]), ([11, 6], [6, 11]), ([9, 12, 6], [6, 9, 12]), ([6, 13], [6, 13]), ([14, 6], [14]), ([15], [15]), ([15], [15]), ([17, 15], [15, 17]), ([16, 18, 15], [15, 16, 18]), ([19, 15], [15, 19]), ([15], [15]), ([15], [15]), ([22, 15], [15, 22]), ([23, 15], [15, 23]), ([21, 24, 15], [15, 21, 24]), ([25, 15], [15, 25]), ([20, 26, 15], [15, 20, 26]), ([15, 27], [15, 27]), ([28, 15], [28]), ([29], [29]), ([29], [29]), ([30, 31, 29, 29], [29, 30, 31]), ([29, 32], [29, 32]), ([33, 32, 0, 1, 2, 3, 4, 5, 6, 7, 8, 9, 10, 11, 12, 13, 14, 15, 16, 17, 18, 19, 20, 21, 22, 23, 24, 25, 26, 27, 28, 29, 30, 31, 32, 33], [33])])
def laws_FnTurns.B17 : List Nat := [0, 1, 3, 3, 15, 31, 63, 127, 255, 511, 127, 1151, 3199, 8191, 16383, 32767, 65535, 65535, 196607, 524287, 1048575, 65535, 65535, 4259839, 12648447, 31522815, 65077247, 134217727, 268435455, 536870911, 1073741823, 1073741823, 4294967295, 8589934591, 17179869183]
theorem laws_FnTurns.tab17 : rtab .any (opsOf Try.f8 17) = laws_FnTurns.T17 := by kernel_rfl
theorem laws_FnTurns.bits17 : waitsOk laws_FnTurns.T17.2 laws_FnTurns.B17 = true := by kernel_rfl
abbrev laws_FnTurns.y_ : Bool := true
abbrev laws_FnTurns.n_ : Bool := false
set_option maxHeartbeats 8000000 in
set_option maxRecDepth 100000 in
theorem laws_FnTurns.calls (k : Nat) (A0 : Option Addr) (c0 : Nat) (l0 : List Int) (r : Bool) (w : World) (hr0 : Kd.C (Kd.int .u8) w A0 l0.length l0) (hc0 : l0.length ≤ c0) (h : laws_FnTurns.f k l0 = some r) :
  Calls Try.prog 8 #[.slice A0 l0.length c0] w fun e w' => e = .returned (.bool r) ∧ Below w.heap.size w w' := by
 have hu38 := Try.underlying38; have HR0 := Aside0.mk hr0; have HC0 := Aside0.mk hc0; clear hr0 hc0; have HB := Aside0.mk (Below.refl w.heap.size w); have H : (if (l0.length : Int) > 1048576 then (some true) else ((spec_DrawCodeTurns.f k l0).bind fun t101 => ((impl_CodeTurns.f k t101).bind fun t104 => ((spec_CodeTurns.f k t101).bind fun t107 => ((laws_luSame.f k t104 t107).bind fun t110 => (if t110 = true then (laws_FnTurns.j0 k t101 t104 ((t104.length : Int) == 0)) else (laws_FnTurns.j0 k t101 t104 true))))))) = some r := h; clear h
 by_cases c2 : (l0.length : Int) > 1048576
 ·rw [if_pos c2] at H
  have c2b0 : decide (1048576 < (l0.length : Int)) = true := decide_eq_true c2; have c2b1 : decide (1048576 < l0.length) = true := decide_eq_true (by omega); clear c2; obtain rfl := Option.some.inj H; go_enter Try.func8, Try.ntmps8; go_wp2; go_ret
  exact ⟨by first | rfl | (simp [errW_none, errW_some] <;> rfl) | (simp [*, errW_none, errW_some] <;> rfl), by repeat (first | (with_reducible first | exact HB.out | apply below_alloc | apply pw_below_drewN | apply below_drew1) | exact HB.out)⟩
 ·rw [if_neg c2] at H
  have c2b0 : decide (1048576 < (l0.length : Int)) = false := decide_eq_false c2; have c2b1 : decide (1048576 < l0.length) = false := decide_eq_false (by omega); clear c2; replace H := Option.bind_eq_some_iff.mp H; obtain ⟨t101, A30, H⟩ := H; replace H : ((impl_CodeTurns.f k t101).bind fun t104 => ((spec_CodeTurns.f k t101).bind fun t107 => ((laws_luSame.f k t104 t107).bind fun t110 => (if t110 = true then (laws_FnTurns.j0 k t101 t104 ((t104.length : Int) == 0)) else (laws_FnTurns.j0 k t101 t104 true))))) = some r := H; have A3 := Aside0.mk A30; clear A30; replace H := Option.bind_eq_some_iff.mp H; obtain ⟨t104, A40, H⟩ := H; replace H : ((spec_CodeTurns.f k t101).bind fun t107 => ((laws_luSame.f k t104 t107).bind fun t110 => (if t110 = true then (laws_FnTurns.j0 k t101 t104 ((t104.length : Int) == 0)) else (laws_FnTurns.j0 k t101 t104 true)))) = some r := H; have A4 := Aside0.mk A40; clear A40; have HC5 := Aside0.mk H; clear H; go_enter Try.func8, Try.ntmps8; go_upto_region 5 with (first | ((with_reducible refine gate_callee (f := 18) rfl ?_); refine goesL_ (some 16) rfl rfl Try.func18 (by kernel_rfl) rfl #[.slice A0 l0.length c0] rfl (by (try simp only [List.map_toArray, List.map_cons, List.map_nil]); first | done | rfl | (simp only [List.length_drop, List.length_take]; rfl)) ?_; (with_reducible refine (spec_DrawCodeTurns.calls k _ _ l0 t101 _ ?side1 ?side2 A3.out).mono ?_); (case side1 => repeat (first | exact HR0.out | (with_reducible refine Kd.C_alloc ?_ _) | (with_reducible refine Kd.C_drewN ?_ _) | (with_reducible refine Kd.C_drew ?_))); (case side2 => exact HC0.out); rintro e w6 ⟨v102, rfl, ho0, hb⟩; refine ⟨_, rfl, ?_⟩; have n0_ := Aside0.mk (Kd.R_lower ho0 (below_size (by repeat (first | (with_reducible first | exact HB.out | apply below_alloc | apply pw_below_drewN | apply below_drew1) | exact HB.out)))); have n1_ := Aside0.mk (below_step (by repeat (first | (with_reducible first | exact HB.out | apply below_alloc | apply pw_below_drewN | apply below_drew1) | exact HB.out)) hb); clear HB; have HO103 := n0_; have HB := n1_; clear n0_ n1_; (try clear hb); (try clear hb2); (try clear hk); (try clear hi); (try clear ho0); obtain ⟨Ao7, co7, eo7⟩ := Kd.R_slice HO103.out; subst eo7) | ((with_reducible refine gate_callee (f := 12) rfl ?_); refine goesL_ (some 18) rfl rfl Try.func12 (by kernel_rfl) rfl #[.slice Ao7 t101.length co7] rfl (by (try simp only [List.map_toArray, List.map_cons, List.map_nil]); first | done | rfl | (simp only [List.length_drop, List.length_take]; rfl)) ?_; (with_reducible refine (impl_CodeTurns.calls k _ _ t101 t104 _ ?side1 ?side2 A4.out).mono ?_); (case side1 => repeat (first | exact (Kd.R_reads' HO103.out).2.2 | (with_reducible refine Kd.C_alloc ?_ _) | (with_reducible refine Kd.C_drewN ?_ _) | (with_reducible refine Kd.C_drew ?_))); (case side2 => exact (Kd.R_reads' HO103.out).2.1); rintro e w8 ⟨v105, rfl, ho0, hb⟩; refine ⟨_, rfl, ?_⟩; have n0_ := Aside0.mk (Kd.R_elder' (by (with_reducible repeat (first | apply Kd.R_alloc | apply Kd.R_drewN | apply Kd.R_drew)); exact HO103.out) (Kd.R_base ho0) hb); have n1_ := Aside0.mk (Kd.R_lower (Kd.R_new' ho0 (Kd.R_lt (by (with_reducible repeat (first | apply Kd.R_alloc | apply Kd.R_drewN | apply Kd.R_drew)); exact HO103.out))) (below_size (by repeat (first | (with_reducible first | exact HB.out | apply below_alloc | apply pw_below_drewN | apply below_drew1) | exact HB.out)))); have n2_ := Aside0.mk (below_step (by repeat (first | (with_reducible first | exact HB.out | apply below_alloc | apply pw_below_drewN | apply below_drew1) | exact HB.out)) hb); clear HO103; clear HB; have HO103 := n0_; have HO106 := n1_; have HB := n2_; clear n0_ n1_ n2_; (try clear hb); (try clear hb2); (try clear hk); (try clear hi); (try clear ho0))); (try simp only [Act.put, List.setIfInBounds_toArray, List.set_cons_zero, List.set_cons_succ]); go_cut [28] (fun v28 wc => ∃ (kq : Nat) (x28_4 : Bool), v28 = .bool x28_4 ∧ Aside0 (laws_FnTurns.j0 kq t101 t104 x28_4 = some r) ∧ Aside0 (kq ≤ k) ∧ Aside0 (Kd.R k38 38 wc w.heap.size (fun k_ => some k_ ≠ (v105 : Value).ownBlock) (.slice Ao7 t101.length co7) t101) ∧ Aside0 (Kd.R k38 38 wc w.heap.size (fun k_ => some k_ ≠ ((.slice Ao7 t101.length co7) : Value).ownBlock) v105 t104) ∧ Aside0 (Below w.heap.size w wc))
  case first =>
   have H := HC5.out; clear HC5; replace H := Option.bind_eq_some_iff.mp H; obtain ⟨t107, A90, H⟩ := H; replace H : ((laws_luSame.f k t104 t107).bind fun t110 => (if t110 = true then (laws_FnTurns.j0 k t101 t104 ((t104.length : Int) == 0)) else (laws_FnTurns.j0 k t101 t104 true))) = some r := H; have A9 := Aside0.mk A90; clear A90; replace H := Option.bind_eq_some_iff.mp H; obtain ⟨t110, A100, H⟩ := H; replace H : (if t110 = true then (laws_FnTurns.j0 k t101 t104 ((t104.length : Int) == 0)) else (laws_FnTurns.j0 k t101 t104 true)) = some r := H; have A10 := Aside0.mk A100; clear A100
   by_cases c11 : t110 = true
   ·subst c11
    have H1 : (laws_FnTurns.j0 k t101 t104 ((t104.length : Int) == 0)) = some r := by rw [if_pos rfl] at H; exact H
    clear H; have H := H1; clear H1; have H' := Aside0.mk H; clear H; go_wp2_with (first | ((with_reducible refine gate_callee (f := 10) rfl ?_); refine goesL_ (some 21) rfl rfl Try.func10 (by kernel_rfl) rfl #[.slice Ao7 t101.length co7] rfl (by (try simp only [List.map_toArray, List.map_cons, List.map_nil]); first | done | rfl | (simp only [List.length_drop, List.length_take]; rfl)) ?_; (with_reducible refine (spec_CodeTurns.calls k _ _ t101 t107 _ ?side1 ?side2 A9.out).mono ?_); (case side1 => repeat (first | exact (Kd.R_reads' HO103.out).2.2 | (with_reducible refine Kd.C_alloc ?_ _) | (with_reducible refine Kd.C_drewN ?_ _) | (with_reducible refine Kd.C_drew ?_))); (case side2 => exact (Kd.R_reads' HO103.out).2.1); rintro e w12 ⟨v108, rfl, ho0, hb⟩; refine ⟨_, rfl, ?_⟩; have n0_ := Aside0.mk (Kd.R_elder' (by (with_reducible repeat (first | apply Kd.R_alloc | apply Kd.R_drewN | apply Kd.R_drew)); exact HO103.out) (Kd.R_base ho0) hb); have n1_ := Aside0.mk (Kd.R_elder' (by (with_reducible repeat (first | apply Kd.R_alloc | apply Kd.R_drewN | apply Kd.R_drew)); exact HO106.out) (Kd.R_base ho0) hb); have n2_ := Aside0.mk (Kd.R_lower (Kd.R_new' (Kd.R_new' ho0 (Kd.R_lt (by (with_reducible repeat (first | apply Kd.R_alloc | apply Kd.R_drewN | apply Kd.R_drew)); exact HO103.out))) (Kd.R_lt (by (with_reducible repeat (first | apply Kd.R_alloc | apply Kd.R_drewN | apply Kd.R_drew)); exact HO106.out))) (below_size (by repeat (first | (with_reducible first | exact HB.out | apply below_alloc | apply pw_below_drewN | apply below_drew1) | exact HB.out)))); have n3_ := Aside0.mk (below_step (by repeat (first | (with_reducible first | exact HB.out | apply below_alloc | apply pw_below_drewN | apply below_drew1) | exact HB.out)) hb); clear HO103; clear HO106; clear HB; have HO103 := n0_; have HO106 := n1_; have HO109 := n2_; have HB := n3_; clear n0_ n1_ n2_ n3_; (try clear hb); (try clear hb2); (try clear hk); (try clear hi); (try clear ho0); obtain ⟨Ao13, co13, eo13⟩ := Kd.R_slice HO106.out; subst eo13; obtain ⟨Ao14, co14, eo14⟩ := Kd.R_slice HO109.out; subst eo14) | ((with_reducible refine gate_callee (f := 19) rfl ?_); refine goesL_ (some 22) rfl rfl Try.func19 (by kernel_rfl) rfl #[.slice Ao13 t104.length co13, .slice Ao14 t107.length co14] rfl (by (try simp only [List.map_toArray, List.map_cons, List.map_nil]); first | done | rfl | (simp only [List.length_drop, List.length_take]; rfl)) ?_; (with_reducible refine (laws_luSame.calls k _ _ t104 _ _ t107 true _ ?side1 ?side2 ?side3 ?side4 A10.out).mono ?_); (case side1 => repeat (first | exact (Kd.R_reads' HO106.out).2.2 | (with_reducible refine Kd.C_alloc ?_ _) | (with_reducible refine Kd.C_drewN ?_ _) | (with_reducible refine Kd.C_drew ?_))); (case side2 => exact (Kd.R_reads' HO106.out).2.1); (case side3 => repeat (first | exact (Kd.R_reads' HO109.out).2.2 | (with_reducible refine Kd.C_alloc ?_ _) | (with_reducible refine Kd.C_drewN ?_ _) | (with_reducible refine Kd.C_drew ?_))); (case side4 => exact (Kd.R_reads' HO109.out).2.1); rintro e w' ⟨rfl, ⟨nd, rfl⟩⟩; refine ⟨_, rfl, ?_⟩)); go_meet
    case rel => exact ⟨_, (((t104.length : Int) == 0)), (by first | rfl | (simp; done) | (simp [*]; done)), H', ⟨by first | omega | exact Nat.le_refl _⟩, ⟨by (with_reducible repeat (first | apply Kd.R_alloc | apply Kd.R_drewN | apply Kd.R_drew)); exact Kd.R_mono HO103.out (fun _ hk => hk.1.2)⟩, ⟨by (with_reducible repeat (first | apply Kd.R_alloc | apply Kd.R_drewN | apply Kd.R_drew)); exact Kd.R_mono HO106.out (fun _ hk => hk.1.2)⟩, ⟨by repeat (first | (with_reducible first | exact HB.out | apply below_alloc | apply pw_below_drewN | apply below_drew1) | exact HB.out)⟩⟩
   ·replace c11 := Bool.eq_false_iff.mpr c11
    subst c11
    have H1 : (laws_FnTurns.j0 k t101 t104 true) = some r := by rw [if_neg (show ¬ (false = true) by decide)] at H; exact H
    clear H; have H := H1; clear H1; have H' := Aside0.mk H; clear H; go_wp2_with (first | ((with_reducible refine gate_callee (f := 10) rfl ?_); refine goesL_ (some 21) rfl rfl Try.func10 (by kernel_rfl) rfl #[.slice Ao7 t101.length co7] rfl (by (try simp only [List.map_toArray, List.map_cons, List.map_nil]); first | done | rfl | (simp only [List.length_drop, List.length_take]; rfl)) ?_; (with_reducible refine (spec_CodeTurns.calls k _ _ t101 t107 _ ?side1 ?side2 A9.out).mono ?_); (case side1 => repeat (first | exact (Kd.R_reads' HO103.out).2.2 | (with_reducible refine Kd.C_alloc ?_ _) | (with_reducible refine Kd.C_drewN ?_ _) | (with_reducible refine Kd.C_drew ?_))); (case side2 => exact (Kd.R_reads' HO103.out).2.1); rintro e w15 ⟨v108, rfl, ho0, hb⟩; refine ⟨_, rfl, ?_⟩; have n0_ := Aside0.mk (Kd.R_elder' (by (with_reducible repeat (first | apply Kd.R_alloc | apply Kd.R_drewN | apply Kd.R_drew)); exact HO103.out) (Kd.R_base ho0) hb); have n1_ := Aside0.mk (Kd.R_elder' (by (with_reducible repeat (first | apply Kd.R_alloc | apply Kd.R_drewN | apply Kd.R_drew)); exact HO106.out) (Kd.R_base ho0) hb); have n2_ := Aside0.mk (Kd.R_lower (Kd.R_new' (Kd.R_new' ho0 (Kd.R_lt (by (with_reducible repeat (first | apply Kd.R_alloc | apply Kd.R_drewN | apply Kd.R_drew)); exact HO103.out))) (Kd.R_lt (by (with_reducible repeat (first | apply Kd.R_alloc | apply Kd.R_drewN | apply Kd.R_drew)); exact HO106.out))) (below_size (by repeat (first | (with_reducible first | exact HB.out | apply below_alloc | apply pw_below_drewN | apply below_drew1) | exact HB.out)))); have n3_ := Aside0.mk (below_step (by repeat (first | (with_reducible first | exact HB.out | apply below_alloc | apply pw_below_drewN | apply below_drew1) | exact HB.out)) hb); clear HO103; clear HO106; clear HB; have HO103 := n0_; have HO106 := n1_; have HO109 := n2_; have HB := n3_; clear n0_ n1_ n2_ n3_; (try clear hb); (try clear hb2); (try clear hk); (try clear hi); (try clear ho0); obtain ⟨Ao16, co16, eo16⟩ := Kd.R_slice HO106.out; subst eo16; obtain ⟨Ao17, co17, eo17⟩ := Kd.R_slice HO109.out; subst eo17) | ((with_reducible refine gate_callee (f := 19) rfl ?_); refine goesL_ (some 22) rfl rfl Try.func19 (by kernel_rfl) rfl #[.slice Ao16 t104.length co16, .slice Ao17 t107.length co17] rfl (by (try simp only [List.map_toArray, List.map_cons, List.map_nil]); first | done | rfl | (simp only [List.length_drop, List.length_take]; rfl)) ?_; (with_reducible refine (laws_luSame.calls k _ _ t104 _ _ t107 false _ ?side1 ?side2 ?side3 ?side4 A10.out).mono ?_); (case side1 => repeat (first | exact (Kd.R_reads' HO106.out).2.2 | (with_reducible refine Kd.C_alloc ?_ _) | (with_reducible refine Kd.C_drewN ?_ _) | (with_reducible refine Kd.C_drew ?_))); (case side2 => exact (Kd.R_reads' HO106.out).2.1); (case side3 => repeat (first | exact (Kd.R_reads' HO109.out).2.2 | (with_reducible refine Kd.C_alloc ?_ _) | (with_reducible refine Kd.C_drewN ?_ _) | (with_reducible refine Kd.C_drew ?_))); (case side4 => exact (Kd.R_reads' HO109.out).2.1); rintro e w' ⟨rfl, ⟨nd, rfl⟩⟩; refine ⟨_, rfl, ?_⟩)); go_meet
    case rel => exact ⟨_, (true), (by first | rfl | (simp; done) | (simp [*]; done)), H', ⟨by first | omega | exact Nat.le_refl _⟩, ⟨by (with_reducible repeat (first | apply Kd.R_alloc | apply Kd.R_drewN | apply Kd.R_drew)); exact Kd.R_mono HO103.out (fun _ hk => hk.1.2)⟩, ⟨by (with_reducible repeat (first | apply Kd.R_alloc | apply Kd.R_drewN | apply Kd.R_drew)); exact Kd.R_mono HO106.out (fun _ hk => hk.1.2)⟩, ⟨by repeat (first | (with_reducible first | exact HB.out | apply below_alloc | apply pw_below_drewN | apply below_drew1) | exact HB.out)⟩⟩
  case rest =>
   clear HC5
   try clear c1
   try clear c2
   try clear c2b0
   try clear c2b1
   try clear p2
   try clear c8
   try clear c10
   try clear c11
   try clear c12
   obtain ⟨kq, x28_4, rfl, HA, HJ4, HO_3, HO_4, HB⟩ := hcut
   cases kq with
   | zero => exact absurd HA.out (by simp [laws_FnTurns.j0])
   | succ kj4 =>
    have H := HA.out; clear HA; simp only [laws_FnTurns.j0] at H
    by_cases c18 : x28_4 = true
    ·subst c18
     have H1 : ((spec_CodeTurns.f kj4 t101).bind fun t111 => ((laws_luSame.f kj4 t104 t111).bind fun t114 => (some t114))) = some r := by rw [if_pos rfl] at H; exact H
     clear H; have H := H1; clear H1; replace H := Option.bind_eq_some_iff.mp H; obtain ⟨t111, A190, H⟩ := H; replace H : ((laws_luSame.f kj4 t104 t111).bind fun t114 => (some t114)) = some r := H; have A19 := Aside0.mk A190; clear A190; replace H := Option.bind_eq_some_iff.mp H; obtain ⟨t114, A200, H⟩ := H; replace H : (some t114) = some r := H; have A20 := Aside0.mk A200; clear A200; obtain rfl := Option.some.inj H; go_wp2_with (first | ((with_reducible refine gate_callee (f := 10) rfl ?_); refine goesL_ (some 31) rfl rfl Try.func10 (by kernel_rfl) rfl #[.slice Ao7 t101.length co7] rfl (by (try simp only [List.map_toArray, List.map_cons, List.map_nil]); first | done | rfl | (simp only [List.length_drop, List.length_take]; rfl)) ?_; (with_reducible refine (spec_CodeTurns.calls kj4 _ _ t101 t111 _ ?side1 ?side2 A19.out).mono ?_); (case side1 => repeat (first | exact (Kd.R_reads' HO_3.out).2.2 | (with_reducible refine Kd.C_alloc ?_ _) | (with_reducible refine Kd.C_drewN ?_ _) | (with_reducible refine Kd.C_drew ?_))); (case side2 => exact (Kd.R_reads' HO_3.out).2.1); rintro e w21 ⟨v112, rfl, ho0, hb⟩; refine ⟨_, rfl, ?_⟩; have n0_ := Aside0.mk (Kd.R_elder' (by (with_reducible repeat (first | apply Kd.R_alloc | apply Kd.R_drewN | apply Kd.R_drew)); exact HO_3.out) (Kd.R_base ho0) hb); have n1_ := Aside0.mk (Kd.R_elder' (by (with_reducible repeat (first | apply Kd.R_alloc | apply Kd.R_drewN | apply Kd.R_drew)); exact HO_4.out) (Kd.R_base ho0) hb); have n2_ := Aside0.mk (Kd.R_lower (Kd.R_new' (Kd.R_new' ho0 (Kd.R_lt (by (with_reducible repeat (first | apply Kd.R_alloc | apply Kd.R_drewN | apply Kd.R_drew)); exact HO_3.out))) (Kd.R_lt (by (with_reducible repeat (first | apply Kd.R_alloc | apply Kd.R_drewN | apply Kd.R_drew)); exact HO_4.out))) (below_size (by repeat (first | (with_reducible first | exact HB.out | apply below_alloc | apply pw_below_drewN | apply below_drew1) | exact HB.out)))); have n3_ := Aside0.mk (below_step (by repeat (first | (with_reducible first | exact HB.out | apply below_alloc | apply pw_below_drewN | apply below_drew1) | exact HB.out)) hb); clear HO_3; clear HO_4; clear HB; have HO_3 := n0_; have HO_4 := n1_; have HO113 := n2_; have HB := n3_; clear n0_ n1_ n2_ n3_; (try clear hb); (try clear hb2); (try clear hk); (try clear hi); (try clear ho0); obtain ⟨Ao22, co22, eo22⟩ := Kd.R_slice HO_4.out; subst eo22; obtain ⟨Ao23, co23, eo23⟩ := Kd.R_slice HO113.out; subst eo23) | ((with_reducible refine gate_callee (f := 19) rfl ?_); refine goesL_ (some 32) rfl rfl Try.func19 (by kernel_rfl) rfl #[.slice Ao22 t104.length co22, .slice Ao23 t111.length co23] rfl (by (try simp only [List.map_toArray, List.map_cons, List.map_nil]); first | done | rfl | (simp only [List.length_drop, List.length_take]; rfl)) ?_; (with_reducible refine (laws_luSame.calls kj4 _ _ t104 _ _ t111 t114 _ ?side1 ?side2 ?side3 ?side4 A20.out).mono ?_); (case side1 => repeat (first | exact (Kd.R_reads' HO_4.out).2.2 | (with_reducible refine Kd.C_alloc ?_ _) | (with_reducible refine Kd.C_drewN ?_ _) | (with_reducible refine Kd.C_drew ?_))); (case side2 => exact (Kd.R_reads' HO_4.out).2.1); (case side3 => repeat (first | exact (Kd.R_reads' HO113.out).2.2 | (with_reducible refine Kd.C_alloc ?_ _) | (with_reducible refine Kd.C_drewN ?_ _) | (with_reducible refine Kd.C_drew ?_))); (case side4 => exact (Kd.R_reads' HO113.out).2.1); rintro e w' ⟨rfl, ⟨nd, rfl⟩⟩; refine ⟨_, rfl, ?_⟩)); go_ret
     exact ⟨by first | rfl | (simp [errW_none, errW_some] <;> rfl) | (simp [*, errW_none, errW_some] <;> rfl), by repeat (first | (with_reducible first | exact HB.out | apply below_alloc | apply pw_below_drewN | apply below_drew1) | exact HB.out)⟩
    ·replace c18 := Bool.eq_false_iff.mpr c18
     subst c18
     have H1 : ((impl_CodeStay.f kj4 t104).bind fun bt115 => (laws_FnTurns.l0 kj4 t101 t104 bt115.1 bt115.2 (t104.length : Int) 2)) = some r := by rw [if_neg (show ¬ (false = true) by decide)] at H; exact H
     clear H; have H := H1; clear H1; replace H := Option.bind_eq_some_iff.mp H; obtain ⟨⟨t115, t116⟩, A240, H⟩ := H; replace H : (laws_FnTurns.l0 kj4 t101 t104 t115 t116 (t104.length : Int) 2) = some r := H; have A24 := Aside0.mk A240; clear A240; have H' := Aside0.mk H; clear H; obtain ⟨Ao25, co25, eo25⟩ := Kd.R_slice HO_4.out; subst eo25; go_wp2_with (first | ((with_reducible refine gate_callee (f := 17) rfl ?_); refine goesL_ (some 35) rfl rfl Try.func17 (by kernel_rfl) rfl #[.slice Ao25 t104.length co25] rfl (by (try simp only [List.map_toArray, List.map_cons, List.map_nil]); first | done | rfl | (simp only [List.length_drop, List.length_take]; rfl)) ?_; (with_reducible refine (impl_CodeStay.calls kj4 _ _ t104 t115 t116 _ ?side1 ?side2 A24.out).mono ?_); (case side1 => repeat (first | exact (Kd.R_reads' HO_4.out).2.2 | (with_reducible refine Kd.C_alloc ?_ _) | (with_reducible refine Kd.C_drewN ?_ _) | (with_reducible refine Kd.C_drew ?_))); (case side2 => exact (Kd.R_reads' HO_4.out).2.1); rintro e w26 ⟨v117, rfl, ho0, hb⟩; refine ⟨_, rfl, ?_⟩; have n0_ := Aside0.mk (Kd.R_elder' (by (with_reducible repeat (first | apply Kd.R_alloc | apply Kd.R_drewN | apply Kd.R_drew)); exact HO_3.out) (Kd.R_base ho0) hb); have n1_ := Aside0.mk (Kd.R_elder' (by (with_reducible repeat (first | apply Kd.R_alloc | apply Kd.R_drewN | apply Kd.R_drew)); exact HO_4.out) (Kd.R_base ho0) hb); have n2_ := Aside0.mk (Kd.R_lower (Kd.R_new' (Kd.R_new' ho0 (Kd.R_lt (by (with_reducible repeat (first | apply Kd.R_alloc | apply Kd.R_drewN | apply Kd.R_drew)); exact HO_3.out))) (Kd.R_lt (by (with_reducible repeat (first | apply Kd.R_alloc | apply Kd.R_drewN | apply Kd.R_drew)); exact HO_4.out))) (below_size (by repeat (first | (with_reducible first | exact HB.out | apply below_alloc | apply pw_below_drewN | apply below_drew1) | exact HB.out)))); have n3_ := Aside0.mk (below_step (by repeat (first | (with_reducible first | exact HB.out | apply below_alloc | apply pw_below_drewN | apply below_drew1) | exact HB.out)) hb); clear HO_3; clear HO_4; clear HB; have HO_3 := n0_; have HO_4 := n1_; have HO118 := n2_; have HB := n3_; clear n0_ n1_ n2_ n3_; (try clear hb); (try clear hb2); (try clear hk); (try clear hi); (try clear ho0))); go_loopg [8] kj4 (fun kq v8 w' => ∃ (x8_2 : Int), v8 = .int .i64 x8_2 ∧ Aside0 (laws_FnTurns.l0 kq t101 t104 t115 t116 (t104.length : Int) x8_2 = some r) ∧ Aside0 (kq ≤ kj4) ∧ Aside0 (Kd.R k38 38 w' w.heap.size (fun k_ => some k_ ≠ ((.slice Ao25 t104.length co25) : Value).ownBlock ∧ some k_ ≠ (v117 : Value).ownBlock) (.slice Ao7 t101.length co7) t101) ∧ Aside0 (Kd.R k38 38 w' w.heap.size (fun k_ => some k_ ≠ ((.slice Ao7 t101.length co7) : Value).ownBlock ∧ some k_ ≠ (v117 : Value).ownBlock) (.slice Ao25 t104.length co25) t104) ∧ Aside0 (Kd.R k38 38 w' w.heap.size (fun k_ => some k_ ≠ ((.slice Ao7 t101.length co7) : Value).ownBlock ∧ some k_ ≠ ((.slice Ao25 t104.length co25) : Value).ownBlock) v117 t115) ∧ Aside0 (Below w.heap.size w w'))
     case atStart => exact ⟨(2), (by first | rfl | (simp; done) | (simp [*]; done)), H', ⟨Nat.le_refl _⟩, ⟨by (with_reducible repeat (first | apply Kd.R_alloc | apply Kd.R_drewN | apply Kd.R_drew)); exact HO_3.out⟩, ⟨by (with_reducible repeat (first | apply Kd.R_alloc | apply Kd.R_drewN | apply Kd.R_drew)); exact HO_4.out⟩, ⟨by (with_reducible repeat (first | apply Kd.R_alloc | apply Kd.R_drewN | apply Kd.R_drew)); exact Kd.R_mono HO118.out (fun _ hk => ⟨hk.1.2, hk.2⟩)⟩, ⟨by repeat (first | (with_reducible first | exact HB.out | apply below_alloc | apply pw_below_drewN | apply below_drew1) | exact HB.out)⟩⟩
     case round =>
      clear H'
      try clear c1
      try clear c2
      try clear c2b0
      try clear c2b1
      try clear p2
      try clear c8
      try clear c10
      try clear c11
      try clear c12
      try clear c17
      try clear c18
      try clear c19
      try clear p2
      obtain ⟨x8_2, rfl, HA, HK2, HO_3, HO_4, HO_5, HB⟩ := hrel
      cases gk with
      | zero => exact absurd HA.out (by simp [laws_FnTurns.l0])
      | succ k2 =>
       have H := HA.out; clear HA; simp only [laws_FnTurns.l0] at H
       by_cases c27 : x8_2 < (t104.length : Int)
       ·rw [if_pos c27] at H
        have c27b0 : decide (x8_2 < (t104.length : Int)) = true := decide_eq_true c27; clear c27; obtain ⟨ji28, hji28⟩ : ∃ j_ : Int, (wrap64 (x8_2 - 2)) = j_ := ⟨_, rfl⟩
        replace H : (if 0 ≤ (ji28) then (if (ji28) < (t104.length : Int) then (if 0 ≤ (wrap64 (x8_2 - 1)) then (if (wrap64 (x8_2 - 1)) < (t104.length : Int) then (if 0 ≤ x8_2 then (if x8_2 < (t104.length : Int) then ((impl_SegTurn.f k2 ((rd_T38 t104 (ji28)).f0) ((rd_T38 t104 (ji28)).f1) ((rd_T38 t104 (wrap64 (x8_2 - 1))).f0) ((rd_T38 t104 (wrap64 (x8_2 - 1))).f1) ((rd_T38 t104 x8_2).f0) ((rd_T38 t104 x8_2).f1)).bind fun t125 => (if t125 = 0 then (if (wrap64 ((wrap64 ((wrap64 (((rd_T38 t104 (wrap64 (x8_2 - 1))).f0) - ((rd_T38 t104 (ji28)).f0))) * (wrap64 (((rd_T38 t104 x8_2).f0) - ((rd_T38 t104 (wrap64 (x8_2 - 1))).f0))))) + (wrap64 ((wrap64 (((rd_T38 t104 (wrap64 (x8_2 - 1))).f1) - ((rd_T38 t104 (ji28)).f1))) * (wrap64 (((rd_T38 t104 x8_2).f1) - ((rd_T38 t104 (wrap64 (x8_2 - 1))).f1))))))) > 0 then (some false) else (laws_FnTurns.l0 k2 t101 t104 t115 t116 (t104.length : Int) (wrap64 (x8_2 + 1)))) else (laws_FnTurns.l0 k2 t101 t104 t115 t116 (t104.length : Int) (wrap64 (x8_2 + 1))))) else (none)) else (none)) else (none)) else (none)) else (none)) else (none)) = some r := by first | (rw [hji28] at H; exact H) | (simp only [hji28] at H ⊢; exact H)
        have hji28w : (IntKind.i64.wrap (x8_2 - 2)) = ji28 := (i64_w _).trans hji28
        by_cases c29 : 0 ≤ (ji28)
        ·rw [if_pos c29] at H
         have c29b0 : decide (0 ≤ (ji28)) = true := decide_eq_true c29; clear c29
         by_cases c30 : (ji28) < (t104.length : Int)
         ·rw [if_pos c30] at H
          have c30b0 : decide ((ji28) < (t104.length : Int)) = true := decide_eq_true c30; clear c30; obtain ⟨ji31, hji31⟩ : ∃ j_ : Int, (wrap64 (x8_2 - 1)) = j_ := ⟨_, rfl⟩
          replace H : (if 0 ≤ (ji31) then (if (ji31) < (t104.length : Int) then (if 0 ≤ x8_2 then (if x8_2 < (t104.length : Int) then ((impl_SegTurn.f k2 ((rd_T38 t104 (ji28)).f0) ((rd_T38 t104 (ji28)).f1) ((rd_T38 t104 (ji31)).f0) ((rd_T38 t104 (ji31)).f1) ((rd_T38 t104 x8_2).f0) ((rd_T38 t104 x8_2).f1)).bind fun t125 => (if t125 = 0 then (if (wrap64 ((wrap64 ((wrap64 (((rd_T38 t104 (ji31)).f0) - ((rd_T38 t104 (ji28)).f0))) * (wrap64 (((rd_T38 t104 x8_2).f0) - ((rd_T38 t104 (ji31)).f0))))) + (wrap64 ((wrap64 (((rd_T38 t104 (ji31)).f1) - ((rd_T38 t104 (ji28)).f1))) * (wrap64 (((rd_T38 t104 x8_2).f1) - ((rd_T38 t104 (ji31)).f1))))))) > 0 then (some false) else (laws_FnTurns.l0 k2 t101 t104 t115 t116 (t104.length : Int) (wrap64 (x8_2 + 1)))) else (laws_FnTurns.l0 k2 t101 t104 t115 t116 (t104.length : Int) (wrap64 (x8_2 + 1))))) else (none)) else (none)) else (none)) else (none)) = some r := by first | (rw [hji31] at H; exact H) | (simp only [hji31] at H ⊢; exact H)
          have hji31w : (IntKind.i64.wrap (x8_2 - 1)) = ji31 := (i64_w _).trans hji31
          by_cases c32 : 0 ≤ (ji31)
          ·rw [if_pos c32] at H
           have c32b0 : decide (0 ≤ (ji31)) = true := decide_eq_true c32; clear c32
           by_cases c33 : (ji31) < (t104.length : Int)
           ·rw [if_pos c33] at H
            have c33b0 : decide ((ji31) < (t104.length : Int)) = true := decide_eq_true c33; clear c33
            by_cases c34 : 0 ≤ x8_2
            ·rw [if_pos c34] at H
             have c34b0 : decide (0 ≤ x8_2) = true := decide_eq_true c34; clear c34
             by_cases c35 : x8_2 < (t104.length : Int)
             ·rw [if_pos c35] at H
              have c35b0 : decide (x8_2 < (t104.length : Int)) = true := decide_eq_true c35; clear c35; replace H := Option.bind_eq_some_iff.mp H; obtain ⟨t125, A360, H⟩ := H; replace H : (if t125 = 0 then (if (wrap64 ((wrap64 ((wrap64 (((rd_T38 t104 (ji31)).f0) - ((rd_T38 t104 (ji28)).f0))) * (wrap64 (((rd_T38 t104 x8_2).f0) - ((rd_T38 t104 (ji31)).f0))))) + (wrap64 ((wrap64 (((rd_T38 t104 (ji31)).f1) - ((rd_T38 t104 (ji28)).f1))) * (wrap64 (((rd_T38 t104 x8_2).f1) - ((rd_T38 t104 (ji31)).f1))))))) > 0 then (some false) else (laws_FnTurns.l0 k2 t101 t104 t115 t116 (t104.length : Int) (wrap64 (x8_2 + 1)))) else (laws_FnTurns.l0 k2 t101 t104 t115 t116 (t104.length : Int) (wrap64 (x8_2 + 1)))) = some r := H; have A36 := Aside0.mk A360; clear A360
              by_cases c37 : t125 = 0
              ·rw [if_pos c37] at H
               have c37b0 : (t125 == 0) = true := beq_iff_eq.mpr c37; have c37b1 : (t125 != 0) = false := bne_eq_false_iff_eq.mpr c37; clear c37
               by_cases c38 : (wrap64 ((wrap64 ((wrap64 (((rd_T38 t104 (ji31)).f0) - ((rd_T38 t104 (ji28)).f0))) * (wrap64 (((rd_T38 t104 x8_2).f0) - ((rd_T38 t104 (ji31)).f0))))) + (wrap64 ((wrap64 (((rd_T38 t104 (ji31)).f1) - ((rd_T38 t104 (ji28)).f1))) * (wrap64 (((rd_T38 t104 x8_2).f1) - ((rd_T38 t104 (ji31)).f1))))))) > 0
               ·rw [if_pos c38] at H
                have c38b0 : decide (0 < (wrap64 ((wrap64 ((wrap64 (((rd_T38 t104 (ji31)).f0) - ((rd_T38 t104 (ji28)).f0))) * (wrap64 (((rd_T38 t104 x8_2).f0) - ((rd_T38 t104 (ji31)).f0))))) + (wrap64 ((wrap64 (((rd_T38 t104 (ji31)).f1) - ((rd_T38 t104 (ji28)).f1))) * (wrap64 (((rd_T38 t104 x8_2).f1) - ((rd_T38 t104 (ji31)).f1)))))))) = true := decide_eq_true c38; clear c38; obtain rfl := Option.some.inj H; have p119 : 0 ≤ ((ji28) : Int) := of_decide_eq_true (by first | (with_reducible assumption) | assumption); have q119 : (ji28) < (t104.length : Int) := of_decide_eq_true (by first | (with_reducible assumption) | assumption); obtain ⟨ad119, e119, hx119_0, hx119_1⟩ := at_T38 (Kd.R_reads' HO_4.out).2.2 (ji28) p119 q119
                cases e119
                replace p119 := eq_true p119; replace q119 := eq_true q119; go_wp2_with (first | ((with_reducible refine gate_dst (N := 9) rfl ?_); (try (refine gate_guard (by rfl) ?_; dsimp only)); refine box_event ?hg (N := 9) ?hd (cs := #[.int .i64 0, .int .i64 0]) (t := 38) ?hr ?_; (case hd => rfl); (case hg => rfl); (case hr => first | (go_simp; done) | (go_simp; rfl)); intro gb120 hg w39 hbox hb; have n0_ := Aside0.mk (Kd.R_below (Kd.R_elderB (by (with_reducible repeat (first | apply Kd.R_alloc | apply Kd.R_drewN | apply Kd.R_drew)); exact HO_3.out) gb120 (Nat.le_of_eq hg.symm)) hb); have n1_ := Aside0.mk (Kd.R_below (Kd.R_elderB (by (with_reducible repeat (first | apply Kd.R_alloc | apply Kd.R_drewN | apply Kd.R_drew)); exact HO_4.out) gb120 (Nat.le_of_eq hg.symm)) hb); have n2_ := Aside0.mk (Kd.R_below (Kd.R_elderB (by (with_reducible repeat (first | apply Kd.R_alloc | apply Kd.R_drewN | apply Kd.R_drew)); exact HO_5.out) gb120 (Nat.le_of_eq hg.symm)) hb); have n3_ := Aside0.mk (below_step (by repeat (first | (with_reducible first | exact HB.out | apply below_alloc | apply pw_below_drewN | apply below_drew1) | exact HB.out)) hb); have n4_ := Aside0.mk (hbox); have n5_ := Aside0.mk ((by rw [hg]; exact (below_size (by repeat (first | (with_reducible first | exact HB.out | apply below_alloc | apply pw_below_drewN | apply below_drew1) | exact HB.out))) : w.heap.size ≤ gb120)); have n6_ := Aside0.mk ((by rw [hg]; exact (below_size (by repeat (first | (with_reducible first | exact HB.out | apply below_alloc | apply pw_below_drewN | apply below_drew1) | exact HB.out))) : w.heap.size ≤ gb120)); clear HO_3; clear HO_4; clear HO_5; clear HB; have HO_3 := n0_; have HO_4 := n1_; have HO_5 := n2_; have HB := n3_; have BK120 := n4_; have GW120 := n5_; have GE120 := n6_; clear n0_ n1_ n2_ n3_ n4_ n5_ n6_; clear hb hbox hg; have hcz40_0 : w39.cell? ⟨gb120, 0, none⟩ = some (.int .i64 0) := (blk_cell BK120.out 0).trans rfl; have hcz40_1 : w39.cell? ⟨gb120, 1, none⟩ = some (.int .i64 0) := (blk_cell BK120.out 1).trans rfl; have hfz40_0 := blk_frozen BK120.out 0; have hfz40_1 := blk_frozen BK120.out 1; have p121 : 0 ≤ ((ji31) : Int) := of_decide_eq_true (by first | (with_reducible assumption) | assumption); have q121 : (ji31) < (t104.length : Int) := of_decide_eq_true (by first | (with_reducible assumption) | assumption); obtain ⟨ad121, e121, hx121_0, hx121_1⟩ := at_T38 (Kd.R_reads' HO_4.out).2.2 (ji31) p121 q121; obtain rfl : ad119 = ad121 := (by injection e121); have hn121_0 : ad119.block ≠ gb120 := Kd.own_blk (by first | exact Kd.R_ne HO_4.out BK120.out (by decide) | exact Kd.R_away HO_4.out (fun _ hk => hk.2) | exact Kd.R_away HO_4.out (fun _ hk => hk.1.2) | exact Kd.R_away HO_4.out (fun _ hk => hk.1.1.2)); have hn121_1 : ad119.block ≠ gb120 := Kd.own_blk (by first | exact Kd.R_ne HO_4.out BK120.out (by decide) | exact Kd.R_away HO_4.out (fun _ hk => hk.2) | exact Kd.R_away HO_4.out (fun _ hk => hk.1.2) | exact Kd.R_away HO_4.out (fun _ hk => hk.1.1.2)); replace hx121_0 := (cell_far (p := ⟨gb120, 0, none⟩) (by first | (rw [add_block]; exact hn121_0) | (show (Addr.add _ _).block ≠ _; rw [add_block]; exact hn121_0) | exact hn121_0) (.int .i64 ((rd_T38 t104 (ji28)).f0))).trans hx121_0; replace hx121_1 := (cell_far (p := ⟨gb120, 0, none⟩) (by first | (rw [add_block]; exact hn121_0) | (show (Addr.add _ _).block ≠ _; rw [add_block]; exact hn121_0) | exact hn121_0) (.int .i64 ((rd_T38 t104 (ji28)).f0))).trans hx121_1; replace hx121_0 := (cell_far (p := ⟨gb120, 1, none⟩) (by first | (rw [add_block]; exact hn121_1) | (show (Addr.add _ _).block ≠ _; rw [add_block]; exact hn121_1) | exact hn121_1) (.int .i64 ((rd_T38 t104 (ji28)).f1))).trans hx121_0; replace hx121_1 := (cell_far (p := ⟨gb120, 1, none⟩) (by first | (rw [add_block]; exact hn121_1) | (show (Addr.add _ _).block ≠ _; rw [add_block]; exact hn121_1) | exact hn121_1) (.int .i64 ((rd_T38 t104 (ji28)).f1))).trans hx121_1; clear hn121_0; clear hn121_1; replace p121 := eq_true p121; replace q121 := eq_true q121) | ((with_reducible refine gate_dst (N := 10) rfl ?_); (try (refine gate_guard (by rfl) ?_; dsimp only)); refine box_event ?hg (N := 10) ?hd (cs := #[.int .i64 0, .int .i64 0]) (t := 38) ?hr ?_; (case hd => rfl); (case hg => rfl); (case hr => first | (go_simp; done) | (go_simp; rfl)); intro gb122 hg w41 hbox hb; have n0_ := Aside0.mk (Kd.R_below (Kd.R_elderB (by (with_reducible repeat (first | apply Kd.R_alloc | apply Kd.R_drewN | apply Kd.R_drew)); exact (Kd.R_mono (Kd.R_far (p := ⟨gb120, 1, none⟩) (Kd.R_far (p := ⟨gb120, 0, none⟩) (Kd.R_mono HO_3.out (fun k_ hk => (⟨hk, hk.2⟩ : _ ∧ k_ ≠ gb120))) (fun _ hk => hk.2) (.int .i64 ((rd_T38 t104 (ji28)).f0))) (fun _ hk => hk.2) (.int .i64 ((rd_T38 t104 (ji28)).f1))) (fun _ h_ => h_.1))) gb122 (Nat.le_of_eq hg.symm)) hb); have n1_ := Aside0.mk (Kd.R_below (Kd.R_elderB (by (with_reducible repeat (first | apply Kd.R_alloc | apply Kd.R_drewN | apply Kd.R_drew)); exact (Kd.R_mono (Kd.R_far (p := ⟨gb120, 1, none⟩) (Kd.R_far (p := ⟨gb120, 0, none⟩) (Kd.R_mono HO_4.out (fun k_ hk => (⟨hk, hk.2⟩ : _ ∧ k_ ≠ gb120))) (fun _ hk => hk.2) (.int .i64 ((rd_T38 t104 (ji28)).f0))) (fun _ hk => hk.2) (.int .i64 ((rd_T38 t104 (ji28)).f1))) (fun _ h_ => h_.1))) gb122 (Nat.le_of_eq hg.symm)) hb); have n2_ := Aside0.mk (Kd.R_below (Kd.R_elderB (by (with_reducible repeat (first | apply Kd.R_alloc | apply Kd.R_drewN | apply Kd.R_drew)); exact (Kd.R_mono (Kd.R_far (p := ⟨gb120, 1, none⟩) (Kd.R_far (p := ⟨gb120, 0, none⟩) (Kd.R_mono HO_5.out (fun k_ hk => (⟨hk, hk.2⟩ : _ ∧ k_ ≠ gb120))) (fun _ hk => hk.2) (.int .i64 ((rd_T38 t104 (ji28)).f0))) (fun _ hk => hk.2) (.int .i64 ((rd_T38 t104 (ji28)).f1))) (fun _ h_ => h_.1))) gb122 (Nat.le_of_eq hg.symm)) hb); have n3_ := Aside0.mk (blk_below (g := gb120) (o := .cells #[.int .i64 ((rd_T38 t104 (ji28)).f0), .int .i64 ((rd_T38 t104 (ji28)).f1)] 38 (0, 0)) (by (with_reducible repeat (first | refine blk_drewN ?_ _ | refine blk_drew ?_ | refine blk_alloc ?_ _)); refine blk_put (cs := #[.int .i64 ((rd_T38 t104 (ji28)).f0), .int .i64 0]) ?_ 1 _ rfl; (with_reducible repeat (first | refine blk_drewN ?_ _ | refine blk_drew ?_ | refine blk_alloc ?_ _)); refine blk_put (cs := #[.int .i64 0, .int .i64 0]) ?_ 0 _ rfl; (with_reducible repeat (first | refine blk_drewN ?_ _ | refine blk_drew ?_ | refine blk_alloc ?_ _)); exact BK120.out) hb); have n4_ := Aside0.mk (below_step (by repeat (first | (with_reducible first | exact HB.out | apply below_alloc | apply pw_below_drewN | apply below_drew1 | refine below_set ?_ GE120.out) | exact HB.out)) hb); have n5_ := Aside0.mk (hbox); have n6_ := Aside0.mk ((by rw [hg]; exact (below_size (by repeat (first | (with_reducible first | exact HB.out | apply below_alloc | apply pw_below_drewN | apply below_drew1 | refine below_set ?_ GE120.out) | exact HB.out))) : w.heap.size ≤ gb122)); have n7_ := Aside0.mk ((by rw [hg]; exact (below_size (by repeat (first | (with_reducible first | exact HB.out | apply below_alloc | apply pw_below_drewN | apply below_drew1 | refine below_set ?_ GE120.out) | exact HB.out))) : w.heap.size ≤ gb122)); have n8_ := Aside0.mk ((by rw [hg]; exact Nat.ne_of_lt (blk_lt (g := gb120) (o := .cells #[.int .i64 ((rd_T38 t104 (ji28)).f0), .int .i64 ((rd_T38 t104 (ji28)).f1)] 38 (0, 0)) (by (with_reducible repeat (first | refine blk_drewN ?_ _ | refine blk_drew ?_ | refine blk_alloc ?_ _)); refine blk_put (cs := #[.int .i64 ((rd_T38 t104 (ji28)).f0), .int .i64 0]) ?_ 1 _ rfl; (with_reducible repeat (first | refine blk_drewN ?_ _ | refine blk_drew ?_ | refine blk_alloc ?_ _)); refine blk_put (cs := #[.int .i64 0, .int .i64 0]) ?_ 0 _ rfl; (with_reducible repeat (first | refine blk_drewN ?_ _ | refine blk_drew ?_ | refine blk_alloc ?_ _)); exact BK120.out)) : gb120 ≠ gb122)); have n9_ := Aside0.mk ((by rw [hg]; exact Nat.ne_of_gt (blk_lt (g := gb120) (o := .cells #[.int .i64 ((rd_T38 t104 (ji28)).f0), .int .i64 ((rd_T38 t104 (ji28)).f1)] 38 (0, 0)) (by (with_reducible repeat (first | refine blk_drewN ?_ _ | refine blk_drew ?_ | refine blk_alloc ?_ _)); refine blk_put (cs := #[.int .i64 ((rd_T38 t104 (ji28)).f0), .int .i64 0]) ?_ 1 _ rfl; (with_reducible repeat (first | refine blk_drewN ?_ _ | refine blk_drew ?_ | refine blk_alloc ?_ _)); refine blk_put (cs := #[.int .i64 0, .int .i64 0]) ?_ 0 _ rfl; (with_reducible repeat (first | refine blk_drewN ?_ _ | refine blk_drew ?_ | refine blk_alloc ?_ _)); exact BK120.out)) : gb122 ≠ gb120)); clear HO_3; clear HO_4; clear HO_5; clear BK120; clear HB; have HO_3 := n0_; have HO_4 := n1_; have HO_5 := n2_; have BK120 := n3_; have HB := n4_; have BK122 := n5_; have GW122 := n6_; have GE122 := n7_; have NB120_122 := n8_; have NB122_120 := n9_; clear n0_ n1_ n2_ n3_ n4_ n5_ n6_ n7_ n8_ n9_; clear hb hbox hg; have hnb42 := NB122_120.out; have hnc42 := NB120_122.out; have hcz43_0 : w41.cell? ⟨gb122, 0, none⟩ = some (.int .i64 0) := (blk_cell BK122.out 0).trans rfl; have hcz43_1 : w41.cell? ⟨gb122, 1, none⟩ = some (.int .i64 0) := (blk_cell BK122.out 1).trans rfl; have hfz43_0 := blk_frozen BK122.out 0; have hfz43_1 := blk_frozen BK122.out 1; have p123 : 0 ≤ (x8_2 : Int) := of_decide_eq_true (by first | (with_reducible assumption) | assumption); have q123 : x8_2 < (t104.length : Int) := of_decide_eq_true (by first | (with_reducible assumption) | assumption); obtain ⟨ad123, e123, hx123_0, hx123_1⟩ := at_T38 (Kd.R_reads' HO_4.out).2.2 x8_2 p123 q123; obtain rfl : ad119 = ad123 := (by injection e123); have hn123_0 : ad119.block ≠ gb122 := Kd.own_blk (by first | exact Kd.R_ne HO_4.out BK122.out (by decide) | exact Kd.R_away HO_4.out (fun _ hk => hk.2) | exact Kd.R_away HO_4.out (fun _ hk => hk.1.2) | exact Kd.R_away HO_4.out (fun _ hk => hk.1.1.2)); have hn123_1 : ad119.block ≠ gb122 := Kd.own_blk (by first | exact Kd.R_ne HO_4.out BK122.out (by decide) | exact Kd.R_away HO_4.out (fun _ hk => hk.2) | exact Kd.R_away HO_4.out (fun _ hk => hk.1.2) | exact Kd.R_away HO_4.out (fun _ hk => hk.1.1.2)); replace hx123_0 := (cell_far (p := ⟨gb122, 0, none⟩) (by first | (rw [add_block]; exact hn123_0) | (show (Addr.add _ _).block ≠ _; rw [add_block]; exact hn123_0) | exact hn123_0) (.int .i64 ((rd_T38 t104 (ji31)).f0))).trans hx123_0; replace hx123_1 := (cell_far (p := ⟨gb122, 0, none⟩) (by first | (rw [add_block]; exact hn123_0) | (show (Addr.add _ _).block ≠ _; rw [add_block]; exact hn123_0) | exact hn123_0) (.int .i64 ((rd_T38 t104 (ji31)).f0))).trans hx123_1; replace hx123_0 := (cell_far (p := ⟨gb122, 1, none⟩) (by first | (rw [add_block]; exact hn123_1) | (show (Addr.add _ _).block ≠ _; rw [add_block]; exact hn123_1) | exact hn123_1) (.int .i64 ((rd_T38 t104 (ji31)).f1))).trans hx123_0; replace hx123_1 := (cell_far (p := ⟨gb122, 1, none⟩) (by first | (rw [add_block]; exact hn123_1) | (show (Addr.add _ _).block ≠ _; rw [add_block]; exact hn123_1) | exact hn123_1) (.int .i64 ((rd_T38 t104 (ji31)).f1))).trans hx123_1; clear hn123_0; clear hn123_1; replace p123 := eq_true p123; replace q123 := eq_true q123) | ((with_reducible refine gate_dst (N := 11) rfl ?_); (try (refine gate_guard (by rfl) ?_; dsimp only)); refine box_event ?hg (N := 11) ?hd (cs := #[.int .i64 0, .int .i64 0]) (t := 38) ?hr ?_; (case hd => rfl); (case hg => rfl); (case hr => first | (go_simp; done) | (go_simp; rfl)); intro gb124 hg w44 hbox hb; have n0_ := Aside0.mk (Kd.R_below (Kd.R_elderB (by (with_reducible repeat (first | apply Kd.R_alloc | apply Kd.R_drewN | apply Kd.R_drew)); exact (Kd.R_mono (Kd.R_far (p := ⟨gb122, 1, none⟩) (Kd.R_far (p := ⟨gb122, 0, none⟩) (Kd.R_mono HO_3.out (fun k_ hk => (⟨hk, hk.2⟩ : _ ∧ k_ ≠ gb122))) (fun _ hk => hk.2) (.int .i64 ((rd_T38 t104 (ji31)).f0))) (fun _ hk => hk.2) (.int .i64 ((rd_T38 t104 (ji31)).f1))) (fun _ h_ => h_.1))) gb124 (Nat.le_of_eq hg.symm)) hb); have n1_ := Aside0.mk (Kd.R_below (Kd.R_elderB (by (with_reducible repeat (first | apply Kd.R_alloc | apply Kd.R_drewN | apply Kd.R_drew)); exact (Kd.R_mono (Kd.R_far (p := ⟨gb122, 1, none⟩) (Kd.R_far (p := ⟨gb122, 0, none⟩) (Kd.R_mono HO_4.out (fun k_ hk => (⟨hk, hk.2⟩ : _ ∧ k_ ≠ gb122))) (fun _ hk => hk.2) (.int .i64 ((rd_T38 t104 (ji31)).f0))) (fun _ hk => hk.2) (.int .i64 ((rd_T38 t104 (ji31)).f1))) (fun _ h_ => h_.1))) gb124 (Nat.le_of_eq hg.symm)) hb); have n2_ := Aside0.mk (Kd.R_below (Kd.R_elderB (by (with_reducible repeat (first | apply Kd.R_alloc | apply Kd.R_drewN | apply Kd.R_drew)); exact (Kd.R_mono (Kd.R_far (p := ⟨gb122, 1, none⟩) (Kd.R_far (p := ⟨gb122, 0, none⟩) (Kd.R_mono HO_5.out (fun k_ hk => (⟨hk, hk.2⟩ : _ ∧ k_ ≠ gb122))) (fun _ hk => hk.2) (.int .i64 ((rd_T38 t104 (ji31)).f0))) (fun _ hk => hk.2) (.int .i64 ((rd_T38 t104 (ji31)).f1))) (fun _ h_ => h_.1))) gb124 (Nat.le_of_eq hg.symm)) hb); have n3_ := Aside0.mk (blk_below (g := gb120) (o := .cells #[.int .i64 ((rd_T38 t104 (ji28)).f0), .int .i64 ((rd_T38 t104 (ji28)).f1)] 38 (0, 0)) (by (with_reducible repeat (first | refine blk_drewN ?_ _ | refine blk_drew ?_ | refine blk_alloc ?_ _)); refine blk_far ?_ NB120_122.out _; (with_reducible repeat (first | refine blk_drewN ?_ _ | refine blk_drew ?_ | refine blk_alloc ?_ _)); refine blk_far ?_ NB120_122.out _; (with_reducible repeat (first | refine blk_drewN ?_ _ | refine blk_drew ?_ | refine blk_alloc ?_ _)); exact BK120.out) hb); have n4_ := Aside0.mk (blk_below (g := gb122) (o := .cells #[.int .i64 ((rd_T38 t104 (ji31)).f0), .int .i64 ((rd_T38 t104 (ji31)).f1)] 38 (0, 0)) (by (with_reducible repeat (first | refine blk_drewN ?_ _ | refine blk_drew ?_ | refine blk_alloc ?_ _)); refine blk_put (cs := #[.int .i64 ((rd_T38 t104 (ji31)).f0), .int .i64 0]) ?_ 1 _ rfl; (with_reducible repeat (first | refine blk_drewN ?_ _ | refine blk_drew ?_ | refine blk_alloc ?_ _)); refine blk_put (cs := #[.int .i64 0, .int .i64 0]) ?_ 0 _ rfl; (with_reducible repeat (first | refine blk_drewN ?_ _ | refine blk_drew ?_ | refine blk_alloc ?_ _)); exact BK122.out) hb); have n5_ := Aside0.mk (below_step (by repeat (first | (with_reducible first | exact HB.out | apply below_alloc | apply pw_below_drewN | apply below_drew1 | refine below_set ?_ GE120.out | refine below_set ?_ GE122.out) | exact HB.out)) hb); have n6_ := Aside0.mk (hbox); have n7_ := Aside0.mk ((by rw [hg]; exact (below_size (by repeat (first | (with_reducible first | exact HB.out | apply below_alloc | apply pw_below_drewN | apply below_drew1 | refine below_set ?_ GE120.out | refine below_set ?_ GE122.out) | exact HB.out))) : w.heap.size ≤ gb124)); have n8_ := Aside0.mk ((by rw [hg]; exact (below_size (by repeat (first | (with_reducible first | exact HB.out | apply below_alloc | apply pw_below_drewN | apply below_drew1 | refine below_set ?_ GE120.out | refine below_set ?_ GE122.out) | exact HB.out))) : w.heap.size ≤ gb124)); have n9_ := Aside0.mk ((by rw [hg]; exact Nat.ne_of_lt (blk_lt (g := gb120) (o := .cells #[.int .i64 ((rd_T38 t104 (ji28)).f0), .int .i64 ((rd_T38 t104 (ji28)).f1)] 38 (0, 0)) (by (with_reducible repeat (first | refine blk_drewN ?_ _ | refine blk_drew ?_ | refine blk_alloc ?_ _)); refine blk_far ?_ NB120_122.out _; (with_reducible repeat (first | refine blk_drewN ?_ _ | refine blk_drew ?_ | refine blk_alloc ?_ _)); refine blk_far ?_ NB120_122.out _; (with_reducible repeat (first | refine blk_drewN ?_ _ | refine blk_drew ?_ | refine blk_alloc ?_ _)); exact BK120.out)) : gb120 ≠ gb124)); have n10_ := Aside0.mk ((by rw [hg]; exact Nat.ne_of_gt (blk_lt (g := gb120) (o := .cells #[.int .i64 ((rd_T38 t104 (ji28)).f0), .int .i64 ((rd_T38 t104 (ji28)).f1)] 38 (0, 0)) (by (with_reducible repeat (first | refine blk_drewN ?_ _ | refine blk_drew ?_ | refine blk_alloc ?_ _)); refine blk_far ?_ NB120_122.out _; (with_reducible repeat (first | refine blk_drewN ?_ _ | refine blk_drew ?_ | refine blk_alloc ?_ _)); refine blk_far ?_ NB120_122.out _; (with_reducible repeat (first | refine blk_drewN ?_ _ | refine blk_drew ?_ | refine blk_alloc ?_ _)); exact BK120.out)) : gb124 ≠ gb120)); have n11_ := Aside0.mk ((by rw [hg]; exact Nat.ne_of_lt (blk_lt (g := gb122) (o := .cells #[.int .i64 ((rd_T38 t104 (ji31)).f0), .int .i64 ((rd_T38 t104 (ji31)).f1)] 38 (0, 0)) (by (with_reducible repeat (first | refine blk_drewN ?_ _ | refine blk_drew ?_ | refine blk_alloc ?_ _)); refine blk_put (cs := #[.int .i64 ((rd_T38 t104 (ji31)).f0), .int .i64 0]) ?_ 1 _ rfl; (with_reducible repeat (first | refine blk_drewN ?_ _ | refine blk_drew ?_ | refine blk_alloc ?_ _)); refine blk_put (cs := #[.int .i64 0, .int .i64 0]) ?_ 0 _ rfl; (with_reducible repeat (first | refine blk_drewN ?_ _ | refine blk_drew ?_ | refine blk_alloc ?_ _)); exact BK122.out)) : gb122 ≠ gb124)); have n12_ := Aside0.mk ((by rw [hg]; exact Nat.ne_of_gt (blk_lt (g := gb122) (o := .cells #[.int .i64 ((rd_T38 t104 (ji31)).f0), .int .i64 ((rd_T38 t104 (ji31)).f1)] 38 (0, 0)) (by (with_reducible repeat (first | refine blk_drewN ?_ _ | refine blk_drew ?_ | refine blk_alloc ?_ _)); refine blk_put (cs := #[.int .i64 ((rd_T38 t104 (ji31)).f0), .int .i64 0]) ?_ 1 _ rfl; (with_reducible repeat (first | refine blk_drewN ?_ _ | refine blk_drew ?_ | refine blk_alloc ?_ _)); refine blk_put (cs := #[.int .i64 0, .int .i64 0]) ?_ 0 _ rfl; (with_reducible repeat (first | refine blk_drewN ?_ _ | refine blk_drew ?_ | refine blk_alloc ?_ _)); exact BK122.out)) : gb124 ≠ gb122)); clear HO_3; clear HO_4; clear HO_5; clear BK120; clear BK122; clear HB; have HO_3 := n0_; have HO_4 := n1_; have HO_5 := n2_; have BK120 := n3_; have BK122 := n4_; have HB := n5_; have BK124 := n6_; have GW124 := n7_; have GE124 := n8_; have NB120_124 := n9_; have NB124_120 := n10_; have NB122_124 := n11_; have NB124_122 := n12_; clear n0_ n1_ n2_ n3_ n4_ n5_ n6_ n7_ n8_ n9_ n10_ n11_ n12_; clear hb hbox hg; have hnb45 := NB124_120.out; have hnc45 := NB120_124.out; have hnb46 := NB124_122.out; have hnc46 := NB122_124.out; have hcz47_0 : w44.cell? ⟨gb124, 0, none⟩ = some (.int .i64 0) := (blk_cell BK124.out 0).trans rfl; have hcz47_1 : w44.cell? ⟨gb124, 1, none⟩ = some (.int .i64 0) := (blk_cell BK124.out 1).trans rfl; have hfz47_0 := blk_frozen BK124.out 0; have hfz47_1 := blk_frozen BK124.out 1; have hcz48_0 : w44.cell? ⟨gb120, 0, none⟩ = some (.int .i64 ((rd_T38 t104 (ji28)).f0)) := (blk_cell BK120.out 0).trans rfl; have hcz48_1 : w44.cell? ⟨gb120, 1, none⟩ = some (.int .i64 ((rd_T38 t104 (ji28)).f1)) := (blk_cell BK120.out 1).trans rfl; have hfz48_0 := blk_frozen BK120.out 0; have hfz48_1 := blk_frozen BK120.out 1; have hcz49_0 : w44.cell? ⟨gb122, 0, none⟩ = some (.int .i64 ((rd_T38 t104 (ji31)).f0)) := (blk_cell BK122.out 0).trans rfl; have hcz49_1 : w44.cell? ⟨gb122, 1, none⟩ = some (.int .i64 ((rd_T38 t104 (ji31)).f1)) := (blk_cell BK122.out 1).trans rfl; have hfz49_0 := blk_frozen BK122.out 0; have hfz49_1 := blk_frozen BK122.out 1) | ((with_reducible refine gate_callee (f := 26) rfl ?_); refine goesL_ (some 62) rfl rfl Try.func26 (by kernel_rfl) rfl #[.agg #[.int .i64 ((rd_T38 t104 (ji28)).f0), .int .i64 ((rd_T38 t104 (ji28)).f1)], .agg #[.int .i64 ((rd_T38 t104 (ji31)).f0), .int .i64 ((rd_T38 t104 (ji31)).f1)], .agg #[.int .i64 ((rd_T38 t104 x8_2).f0), .int .i64 ((rd_T38 t104 x8_2).f1)]] rfl (by (try simp only [List.map_toArray, List.map_cons, List.map_nil]); first | done | (simp only [hji28, hji31]; rfl) | rfl | (simp only [List.length_drop, List.length_take]; rfl)) ?_; (with_reducible refine (impl_SegTurn.calls k2 ((rd_T38 t104 (ji28)).f0) ((rd_T38 t104 (ji28)).f1) ((rd_T38 t104 (ji31)).f0) ((rd_T38 t104 (ji31)).f1) ((rd_T38 t104 x8_2).f0) ((rd_T38 t104 x8_2).f1) t125 _ A36.out).mono ?_); rintro e w50 ⟨rfl, hb⟩; refine ⟨_, rfl, ?_⟩; have n0_ := Aside0.mk (Kd.R_below (by (with_reducible repeat (first | apply Kd.R_alloc | apply Kd.R_drewN | apply Kd.R_drew)); exact (Kd.R_mono (Kd.R_far (p := ⟨gb124, 1, none⟩) (Kd.R_far (p := ⟨gb124, 0, none⟩) (Kd.R_mono HO_3.out (fun k_ hk => (⟨hk, hk.2⟩ : _ ∧ k_ ≠ gb124))) (fun _ hk => hk.2) (.int .i64 ((rd_T38 t104 x8_2).f0))) (fun _ hk => hk.2) (.int .i64 ((rd_T38 t104 x8_2).f1))) (fun _ h_ => h_.1))) hb); have n1_ := Aside0.mk (Kd.R_below (by (with_reducible repeat (first | apply Kd.R_alloc | apply Kd.R_drewN | apply Kd.R_drew)); exact (Kd.R_mono (Kd.R_far (p := ⟨gb124, 1, none⟩) (Kd.R_far (p := ⟨gb124, 0, none⟩) (Kd.R_mono HO_4.out (fun k_ hk => (⟨hk, hk.2⟩ : _ ∧ k_ ≠ gb124))) (fun _ hk => hk.2) (.int .i64 ((rd_T38 t104 x8_2).f0))) (fun _ hk => hk.2) (.int .i64 ((rd_T38 t104 x8_2).f1))) (fun _ h_ => h_.1))) hb); have n2_ := Aside0.mk (Kd.R_below (by (with_reducible repeat (first | apply Kd.R_alloc | apply Kd.R_drewN | apply Kd.R_drew)); exact (Kd.R_mono (Kd.R_far (p := ⟨gb124, 1, none⟩) (Kd.R_far (p := ⟨gb124, 0, none⟩) (Kd.R_mono HO_5.out (fun k_ hk => (⟨hk, hk.2⟩ : _ ∧ k_ ≠ gb124))) (fun _ hk => hk.2) (.int .i64 ((rd_T38 t104 x8_2).f0))) (fun _ hk => hk.2) (.int .i64 ((rd_T38 t104 x8_2).f1))) (fun _ h_ => h_.1))) hb); have n3_ := Aside0.mk (blk_below (g := gb120) (o := .cells #[.int .i64 ((rd_T38 t104 (ji28)).f0), .int .i64 ((rd_T38 t104 (ji28)).f1)] 38 (0, 0)) (by (with_reducible repeat (first | refine blk_drewN ?_ _ | refine blk_drew ?_ | refine blk_alloc ?_ _)); refine blk_far ?_ NB120_124.out _; (with_reducible repeat (first | refine blk_drewN ?_ _ | refine blk_drew ?_ | refine blk_alloc ?_ _)); refine blk_far ?_ NB120_124.out _; (with_reducible repeat (first | refine blk_drewN ?_ _ | refine blk_drew ?_ | refine blk_alloc ?_ _)); exact BK120.out) hb); have n4_ := Aside0.mk (blk_below (g := gb122) (o := .cells #[.int .i64 ((rd_T38 t104 (ji31)).f0), .int .i64 ((rd_T38 t104 (ji31)).f1)] 38 (0, 0)) (by (with_reducible repeat (first | refine blk_drewN ?_ _ | refine blk_drew ?_ | refine blk_alloc ?_ _)); refine blk_far ?_ NB122_124.out _; (with_reducible repeat (first | refine blk_drewN ?_ _ | refine blk_drew ?_ | refine blk_alloc ?_ _)); refine blk_far ?_ NB122_124.out _; (with_reducible repeat (first | refine blk_drewN ?_ _ | refine blk_drew ?_ | refine blk_alloc ?_ _)); exact BK122.out) hb); have n5_ := Aside0.mk (blk_below (g := gb124) (o := .cells #[.int .i64 ((rd_T38 t104 x8_2).f0), .int .i64 ((rd_T38 t104 x8_2).f1)] 38 (0, 0)) (by (with_reducible repeat (first | refine blk_drewN ?_ _ | refine blk_drew ?_ | refine blk_alloc ?_ _)); refine blk_put (cs := #[.int .i64 ((rd_T38 t104 x8_2).f0), .int .i64 0]) ?_ 1 _ rfl; (with_reducible repeat (first | refine blk_drewN ?_ _ | refine blk_drew ?_ | refine blk_alloc ?_ _)); refine blk_put (cs := #[.int .i64 0, .int .i64 0]) ?_ 0 _ rfl; (with_reducible repeat (first | refine blk_drewN ?_ _ | refine blk_drew ?_ | refine blk_alloc ?_ _)); exact BK124.out) hb); have n6_ := Aside0.mk (below_step (by repeat (first | (with_reducible first | exact HB.out | apply below_alloc | apply pw_below_drewN | apply below_drew1 | refine below_set ?_ GE120.out | refine below_set ?_ GE122.out | refine below_set ?_ GE124.out) | exact HB.out)) hb); clear HO_3; clear HO_4; clear HO_5; clear BK120; clear BK122; clear BK124; clear HB; have HO_3 := n0_; have HO_4 := n1_; have HO_5 := n2_; have BK120 := n3_; have BK122 := n4_; have BK124 := n5_; have HB := n6_; clear n0_ n1_ n2_ n3_ n4_ n5_ n6_; (try clear hb); (try clear hb2); (try clear hk); (try clear hi); have hcz51_0 : w50.cell? ⟨gb122, 0, none⟩ = some (.int .i64 ((rd_T38 t104 (ji31)).f0)) := (blk_cell BK122.out 0).trans rfl; have hcz51_1 : w50.cell? ⟨gb122, 1, none⟩ = some (.int .i64 ((rd_T38 t104 (ji31)).f1)) := (blk_cell BK122.out 1).trans rfl; have hfz51_0 := blk_frozen BK122.out 0; have hfz51_1 := blk_frozen BK122.out 1; have hcz52_0 : w50.cell? ⟨gb120, 0, none⟩ = some (.int .i64 ((rd_T38 t104 (ji28)).f0)) := (blk_cell BK120.out 0).trans rfl; have hcz52_1 : w50.cell? ⟨gb120, 1, none⟩ = some (.int .i64 ((rd_T38 t104 (ji28)).f1)) := (blk_cell BK120.out 1).trans rfl; have hfz52_0 := blk_frozen BK120.out 0; have hfz52_1 := blk_frozen BK120.out 1; have hcz53_0 : w50.cell? ⟨gb124, 0, none⟩ = some (.int .i64 ((rd_T38 t104 x8_2).f0)) := (blk_cell BK124.out 0).trans rfl; have hcz53_1 : w50.cell? ⟨gb124, 1, none⟩ = some (.int .i64 ((rd_T38 t104 x8_2).f1)) := (blk_cell BK124.out 1).trans rfl; have hfz53_0 := blk_frozen BK124.out 0; have hfz53_1 := blk_frozen BK124.out 1))
                go_ret
                exact ⟨by first | rfl | (simp [errW_none, errW_some] <;> rfl) | (simp only [← hji28, ← hji31]; first | rfl | (simp [errW_none, errW_some] <;> rfl)) | (simp [*, errW_none, errW_some] <;> rfl), by repeat (first | (with_reducible first | exact HB.out | apply below_alloc | apply pw_below_drewN | apply below_drew1 | refine below_set ?_ GE120.out | refine below_set ?_ GE122.out | refine below_set ?_ GE124.out) | exact HB.out)⟩
               ·rw [if_neg c38] at H
                have c38b0 : decide (0 < (wrap64 ((wrap64 ((wrap64 (((rd_T38 t104 (ji31)).f0) - ((rd_T38 t104 (ji28)).f0))) * (wrap64 (((rd_T38 t104 x8_2).f0) - ((rd_T38 t104 (ji31)).f0))))) + (wrap64 ((wrap64 (((rd_T38 t104 (ji31)).f1) - ((rd_T38 t104 (ji28)).f1))) * (wrap64 (((rd_T38 t104 x8_2).f1) - ((rd_T38 t104 (ji31)).f1)))))))) = false := decide_eq_false c38; clear c38; have H' := Aside0.mk H; clear H; have p119 : 0 ≤ ((ji28) : Int) := of_decide_eq_true (by first | (with_reducible assumption) | assumption); have q119 : (ji28) < (t104.length : Int) := of_decide_eq_true (by first | (with_reducible assumption) | assumption); obtain ⟨ad119, e119, hx119_0, hx119_1⟩ := at_T38 (Kd.R_reads' HO_4.out).2.2 (ji28) p119 q119
                cases e119
                replace p119 := eq_true p119; replace q119 := eq_true q119; go_wp2_with (first | ((with_reducible refine gate_dst (N := 9) rfl ?_); (try (refine gate_guard (by rfl) ?_; dsimp only)); refine box_event ?hg (N := 9) ?hd (cs := #[.int .i64 0, .int .i64 0]) (t := 38) ?hr ?_; (case hd => rfl); (case hg => rfl); (case hr => first | (go_simp; done) | (go_simp; rfl)); intro gb120 hg w54 hbox hb; have n0_ := Aside0.mk (Kd.R_below (Kd.R_elderB (by (with_reducible repeat (first | apply Kd.R_alloc | apply Kd.R_drewN | apply Kd.R_drew)); exact HO_3.out) gb120 (Nat.le_of_eq hg.symm)) hb); have n1_ := Aside0.mk (Kd.R_below (Kd.R_elderB (by (with_reducible repeat (first | apply Kd.R_alloc | apply Kd.R_drewN | apply Kd.R_drew)); exact HO_4.out) gb120 (Nat.le_of_eq hg.symm)) hb); have n2_ := Aside0.mk (Kd.R_below (Kd.R_elderB (by (with_reducible repeat (first | apply Kd.R_alloc | apply Kd.R_drewN | apply Kd.R_drew)); exact HO_5.out) gb120 (Nat.le_of_eq hg.symm)) hb); have n3_ := Aside0.mk (below_step (by repeat (first | (with_reducible first | exact HB.out | apply below_alloc | apply pw_below_drewN | apply below_drew1) | exact HB.out)) hb); have n4_ := Aside0.mk (hbox); have n5_ := Aside0.mk ((by rw [hg]; exact (below_size (by repeat (first | (with_reducible first | exact HB.out | apply below_alloc | apply pw_below_drewN | apply below_drew1) | exact HB.out))) : w.heap.size ≤ gb120)); have n6_ := Aside0.mk ((by rw [hg]; exact (below_size (by repeat (first | (with_reducible first | exact HB.out | apply below_alloc | apply pw_below_drewN | apply below_drew1) | exact HB.out))) : w.heap.size ≤ gb120)); clear HO_3; clear HO_4; clear HO_5; clear HB; have HO_3 := n0_; have HO_4 := n1_; have HO_5 := n2_; have HB := n3_; have BK120 := n4_; have GW120 := n5_; have GE120 := n6_; clear n0_ n1_ n2_ n3_ n4_ n5_ n6_; clear hb hbox hg; have hcz55_0 : w54.cell? ⟨gb120, 0, none⟩ = some (.int .i64 0) := (blk_cell BK120.out 0).trans rfl; have hcz55_1 : w54.cell? ⟨gb120, 1, none⟩ = some (.int .i64 0) := (blk_cell BK120.out 1).trans rfl; have hfz55_0 := blk_frozen BK120.out 0; have hfz55_1 := blk_frozen BK120.out 1; have p121 : 0 ≤ ((ji31) : Int) := of_decide_eq_true (by first | (with_reducible assumption) | assumption); have q121 : (ji31) < (t104.length : Int) := of_decide_eq_true (by first | (with_reducible assumption) | assumption); obtain ⟨ad121, e121, hx121_0, hx121_1⟩ := at_T38 (Kd.R_reads' HO_4.out).2.2 (ji31) p121 q121; obtain rfl : ad119 = ad121 := (by injection e121); have hn121_0 : ad119.block ≠ gb120 := Kd.own_blk (by first | exact Kd.R_ne HO_4.out BK120.out (by decide) | exact Kd.R_away HO_4.out (fun _ hk => hk.2) | exact Kd.R_away HO_4.out (fun _ hk => hk.1.2) | exact Kd.R_away HO_4.out (fun _ hk => hk.1.1.2)); have hn121_1 : ad119.block ≠ gb120 := Kd.own_blk (by first | exact Kd.R_ne HO_4.out BK120.out (by decide) | exact Kd.R_away HO_4.out (fun _ hk => hk.2) | exact Kd.R_away HO_4.out (fun _ hk => hk.1.2) | exact Kd.R_away HO_4.out (fun _ hk => hk.1.1.2)); replace hx121_0 := (cell_far (p := ⟨gb120, 0, none⟩) (by first | (rw [add_block]; exact hn121_0) | (show (Addr.add _ _).block ≠ _; rw [add_block]; exact hn121_0) | exact hn121_0) (.int .i64 ((rd_T38 t104 (ji28)).f0))).trans hx121_0; replace hx121_1 := (cell_far (p := ⟨gb120, 0, none⟩) (by first | (rw [add_block]; exact hn121_0) | (show (Addr.add _ _).block ≠ _; rw [add_block]; exact hn121_0) | exact hn121_0) (.int .i64 ((rd_T38 t104 (ji28)).f0))).trans hx121_1; replace hx121_0 := (cell_far (p := ⟨gb120, 1, none⟩) (by first | (rw [add_block]; exact hn121_1) | (show (Addr.add _ _).block ≠ _; rw [add_block]; exact hn121_1) | exact hn121_1) (.int .i64 ((rd_T38 t104 (ji28)).f1))).trans hx121_0; replace hx121_1 := (cell_far (p := ⟨gb120, 1, none⟩) (by first | (rw [add_block]; exact hn121_1) | (show (Addr.add _ _).block ≠ _; rw [add_block]; exact hn121_1) | exact hn121_1) (.int .i64 ((rd_T38 t104 (ji28)).f1))).trans hx121_1; clear hn121_0; clear hn121_1; replace p121 := eq_true p121; replace q121 := eq_true q121) | ((with_reducible refine gate_dst (N := 10) rfl ?_); (try (refine gate_guard (by rfl) ?_; dsimp only)); refine box_event ?hg (N := 10) ?hd (cs := #[.int .i64 0, .int .i64 0]) (t := 38) ?hr ?_; (case hd => rfl); (case hg => rfl); (case hr => first | (go_simp; done) | (go_simp; rfl)); intro gb122 hg w56 hbox hb; have n0_ := Aside0.mk (Kd.R_below (Kd.R_elderB (by (with_reducible repeat (first | apply Kd.R_alloc | apply Kd.R_drewN | apply Kd.R_drew)); exact (Kd.R_mono (Kd.R_far (p := ⟨gb120, 1, none⟩) (Kd.R_far (p := ⟨gb120, 0, none⟩) (Kd.R_mono HO_3.out (fun k_ hk => (⟨hk, hk.2⟩ : _ ∧ k_ ≠ gb120))) (fun _ hk => hk.2) (.int .i64 ((rd_T38 t104 (ji28)).f0))) (fun _ hk => hk.2) (.int .i64 ((rd_T38 t104 (ji28)).f1))) (fun _ h_ => h_.1))) gb122 (Nat.le_of_eq hg.symm)) hb); have n1_ := Aside0.mk (Kd.R_below (Kd.R_elderB (by (with_reducible repeat (first | apply Kd.R_alloc | apply Kd.R_drewN | apply Kd.R_drew)); exact (Kd.R_mono (Kd.R_far (p := ⟨gb120, 1, none⟩) (Kd.R_far (p := ⟨gb120, 0, none⟩) (Kd.R_mono HO_4.out (fun k_ hk => (⟨hk, hk.2⟩ : _ ∧ k_ ≠ gb120))) (fun _ hk => hk.2) (.int .i64 ((rd_T38 t104 (ji28)).f0))) (fun _ hk => hk.2) (.int .i64 ((rd_T38 t104 (ji28)).f1))) (fun _ h_ => h_.1))) gb122 (Nat.le_of_eq hg.symm)) hb); have n2_ := Aside0.mk (Kd.R_below (Kd.R_elderB (by (with_reducible repeat (first | apply Kd.R_alloc | apply Kd.R_drewN | apply Kd.R_drew)); exact (Kd.R_mono (Kd.R_far (p := ⟨gb120, 1, none⟩) (Kd.R_far (p := ⟨gb120, 0, none⟩) (Kd.R_mono HO_5.out (fun k_ hk => (⟨hk, hk.2⟩ : _ ∧ k_ ≠ gb120))) (fun _ hk => hk.2) (.int .i64 ((rd_T38 t104 (ji28)).f0))) (fun _ hk => hk.2) (.int .i64 ((rd_T38 t104 (ji28)).f1))) (fun _ h_ => h_.1))) gb122 (Nat.le_of_eq hg.symm)) hb); have n3_ := Aside0.mk (blk_below (g := gb120) (o := .cells #[.int .i64 ((rd_T38 t104 (ji28)).f0), .int .i64 ((rd_T38 t104 (ji28)).f1)] 38 (0, 0)) (by (with_reducible repeat (first | refine blk_drewN ?_ _ | refine blk_drew ?_ | refine blk_alloc ?_ _)); refine blk_put (cs := #[.int .i64 ((rd_T38 t104 (ji28)).f0), .int .i64 0]) ?_ 1 _ rfl; (with_reducible repeat (first | refine blk_drewN ?_ _ | refine blk_drew ?_ | refine blk_alloc ?_ _)); refine blk_put (cs := #[.int .i64 0, .int .i64 0]) ?_ 0 _ rfl; (with_reducible repeat (first | refine blk_drewN ?_ _ | refine blk_drew ?_ | refine blk_alloc ?_ _)); exact BK120.out) hb); have n4_ := Aside0.mk (below_step (by repeat (first | (with_reducible first | exact HB.out | apply below_alloc | apply pw_below_drewN | apply below_drew1 | refine below_set ?_ GE120.out) | exact HB.out)) hb); have n5_ := Aside0.mk (hbox); have n6_ := Aside0.mk ((by rw [hg]; exact (below_size (by repeat (first | (with_reducible first | exact HB.out | apply below_alloc | apply pw_below_drewN | apply below_drew1 | refine below_set ?_ GE120.out) | exact HB.out))) : w.heap.size ≤ gb122)); have n7_ := Aside0.mk ((by rw [hg]; exact (below_size (by repeat (first | (with_reducible first | exact HB.out | apply below_alloc | apply pw_below_drewN | apply below_drew1 | refine below_set ?_ GE120.out) | exact HB.out))) : w.heap.size ≤ gb122)); have n8_ := Aside0.mk ((by rw [hg]; exact Nat.ne_of_lt (blk_lt (g := gb120) (o := .cells #[.int .i64 ((rd_T38 t104 (ji28)).f0), .int .i64 ((rd_T38 t104 (ji28)).f1)] 38 (0, 0)) (by (with_reducible repeat (first | refine blk_drewN ?_ _ | refine blk_drew ?_ | refine blk_alloc ?_ _)); refine blk_put (cs := #[.int .i64 ((rd_T38 t104 (ji28)).f0), .int .i64 0]) ?_ 1 _ rfl; (with_reducible repeat (first | refine blk_drewN ?_ _ | refine blk_drew ?_ | refine blk_alloc ?_ _)); refine blk_put (cs := #[.int .i64 0, .int .i64 0]) ?_ 0 _ rfl; (with_reducible repeat (first | refine blk_drewN ?_ _ | refine blk_drew ?_ | refine blk_alloc ?_ _)); exact BK120.out)) : gb120 ≠ gb122)); have n9_ := Aside0.mk ((by rw [hg]; exact Nat.ne_of_gt (blk_lt (g := gb120) (o := .cells #[.int .i64 ((rd_T38 t104 (ji28)).f0), .int .i64 ((rd_T38 t104 (ji28)).f1)] 38 (0, 0)) (by (with_reducible repeat (first | refine blk_drewN ?_ _ | refine blk_drew ?_ | refine blk_alloc ?_ _)); refine blk_put (cs := #[.int .i64 ((rd_T38 t104 (ji28)).f0), .int .i64 0]) ?_ 1 _ rfl; (with_reducible repeat (first | refine blk_drewN ?_ _ | refine blk_drew ?_ | refine blk_alloc ?_ _)); refine blk_put (cs := #[.int .i64 0, .int .i64 0]) ?_ 0 _ rfl; (with_reducible repeat (first | refine blk_drewN ?_ _ | refine blk_drew ?_ | refine blk_alloc ?_ _)); exact BK120.out)) : gb122 ≠ gb120)); clear HO_3; clear HO_4; clear HO_5; clear BK120; clear HB; have HO_3 := n0_; have HO_4 := n1_; have HO_5 := n2_; have BK120 := n3_; have HB := n4_; have BK122 := n5_; have GW122 := n6_; have GE122 := n7_; have NB120_122 := n8_; have NB122_120 := n9_; clear n0_ n1_ n2_ n3_ n4_ n5_ n6_ n7_ n8_ n9_; clear hb hbox hg; have hnb57 := NB122_120.out; have hnc57 := NB120_122.out; have hcz58_0 : w56.cell? ⟨gb122, 0, none⟩ = some (.int .i64 0) := (blk_cell BK122.out 0).trans rfl; have hcz58_1 : w56.cell? ⟨gb122, 1, none⟩ = some (.int .i64 0) := (blk_cell BK122.out 1).trans rfl; have hfz58_0 := blk_frozen BK122.out 0; have hfz58_1 := blk_frozen BK122.out 1; have p123 : 0 ≤ (x8_2 : Int) := of_decide_eq_true (by first | (with_reducible assumption) | assumption); have q123 : x8_2 < (t104.length : Int) := of_decide_eq_true (by first | (with_reducible assumption) | assumption); obtain ⟨ad123, e123, hx123_0, hx123_1⟩ := at_T38 (Kd.R_reads' HO_4.out).2.2 x8_2 p123 q123; obtain rfl : ad119 = ad123 := (by injection e123); have hn123_0 : ad119.block ≠ gb122 := Kd.own_blk (by first | exact Kd.R_ne HO_4.out BK122.out (by decide) | exact Kd.R_away HO_4.out (fun _ hk => hk.2) | exact Kd.R_away HO_4.out (fun _ hk => hk.1.2) | exact Kd.R_away HO_4.out (fun _ hk => hk.1.1.2)); have hn123_1 : ad119.block ≠ gb122 := Kd.own_blk (by first | exact Kd.R_ne HO_4.out BK122.out (by decide) | exact Kd.R_away HO_4.out (fun _ hk => hk.2) | exact Kd.R_away HO_4.out (fun _ hk => hk.1.2) | exact Kd.R_away HO_4.out (fun _ hk => hk.1.1.2)); replace hx123_0 := (cell_far (p := ⟨gb122, 0, none⟩) (by first | (rw [add_block]; exact hn123_0) | (show (Addr.add _ _).block ≠ _; rw [add_block]; exact hn123_0) | exact hn123_0) (.int .i64 ((rd_T38 t104 (ji31)).f0))).trans hx123_0; replace hx123_1 := (cell_far (p := ⟨gb122, 0, none⟩) (by first | (rw [add_block]; exact hn123_0) | (show (Addr.add _ _).block ≠ _; rw [add_block]; exact hn123_0) | exact hn123_0) (.int .i64 ((rd_T38 t104 (ji31)).f0))).trans hx123_1; replace hx123_0 := (cell_far (p := ⟨gb122, 1, none⟩) (by first | (rw [add_block]; exact hn123_1) | (show (Addr.add _ _).block ≠ _; rw [add_block]; exact hn123_1) | exact hn123_1) (.int .i64 ((rd_T38 t104 (ji31)).f1))).trans hx123_0; replace hx123_1 := (cell_far (p := ⟨gb122, 1, none⟩) (by first | (rw [add_block]; exact hn123_1) | (show (Addr.add _ _).block ≠ _; rw [add_block]; exact hn123_1) | exact hn123_1) (.int .i64 ((rd_T38 t104 (ji31)).f1))).trans hx123_1; clear hn123_0; clear hn123_1; replace p123 := eq_true p123; replace q123 := eq_true q123) | ((with_reducible refine gate_dst (N := 11) rfl ?_); (try (refine gate_guard (by rfl) ?_; dsimp only)); refine box_event ?hg (N := 11) ?hd (cs := #[.int .i64 0, .int .i64 0]) (t := 38) ?hr ?_; (case hd => rfl); (case hg => rfl); (case hr => first | (go_simp; done) | (go_simp; rfl)); intro gb124 hg w59 hbox hb; have n0_ := Aside0.mk (Kd.R_below (Kd.R_elderB (by (with_reducible repeat (first | apply Kd.R_alloc | apply Kd.R_drewN | apply Kd.R_drew)); exact (Kd.R_mono (Kd.R_far (p := ⟨gb122, 1, none⟩) (Kd.R_far (p := ⟨gb122, 0, none⟩) (Kd.R_mono HO_3.out (fun k_ hk => (⟨hk, hk.2⟩ : _ ∧ k_ ≠ gb122))) (fun _ hk => hk.2) (.int .i64 ((rd_T38 t104 (ji31)).f0))) (fun _ hk => hk.2) (.int .i64 ((rd_T38 t104 (ji31)).f1))) (fun _ h_ => h_.1))) gb124 (Nat.le_of_eq hg.symm)) hb); have n1_ := Aside0.mk (Kd.R_below (Kd.R_elderB (by (with_reducible repeat (first | apply Kd.R_alloc | apply Kd.R_drewN | apply Kd.R_drew)); exact (Kd.R_mono (Kd.R_far (p := ⟨gb122, 1, none⟩) (Kd.R_far (p := ⟨gb122, 0, none⟩) (Kd.R_mono HO_4.out (fun k_ hk => (⟨hk, hk.2⟩ : _ ∧ k_ ≠ gb122))) (fun _ hk => hk.2) (.int .i64 ((rd_T38 t104 (ji31)).f0))) (fun _ hk => hk.2) (.int .i64 ((rd_T38 t104 (ji31)).f1))) (fun _ h_ => h_.1))) gb124 (Nat.le_of_eq hg.symm)) hb); have n2_ := Aside0.mk (Kd.R_below (Kd.R_elderB (by (with_reducible repeat (first | apply Kd.R_alloc | apply Kd.R_drewN | apply Kd.R_drew)); exact (Kd.R_mono (Kd.R_far (p := ⟨gb122, 1, none⟩) (Kd.R_far (p := ⟨gb122, 0, none⟩) (Kd.R_mono HO_5.out (fun k_ hk => (⟨hk, hk.2⟩ : _ ∧ k_ ≠ gb122))) (fun _ hk => hk.2) (.int .i64 ((rd_T38 t104 (ji31)).f0))) (fun _ hk => hk.2) (.int .i64 ((rd_T38 t104 (ji31)).f1))) (fun _ h_ => h_.1))) gb124 (Nat.le_of_eq hg.symm)) hb); have n3_ := Aside0.mk (blk_below (g := gb120) (o := .cells #[.int .i64 ((rd_T38 t104 (ji28)).f0), .int .i64 ((rd_T38 t104 (ji28)).f1)] 38 (0, 0)) (by (with_reducible repeat (first | refine blk_drewN ?_ _ | refine blk_drew ?_ | refine blk_alloc ?_ _)); refine blk_far ?_ NB120_122.out _; (with_reducible repeat (first | refine blk_drewN ?_ _ | refine blk_drew ?_ | refine blk_alloc ?_ _)); refine blk_far ?_ NB120_122.out _; (with_reducible repeat (first | refine blk_drewN ?_ _ | refine blk_drew ?_ | refine blk_alloc ?_ _)); exact BK120.out) hb); have n4_ := Aside0.mk (blk_below (g := gb122) (o := .cells #[.int .i64 ((rd_T38 t104 (ji31)).f0), .int .i64 ((rd_T38 t104 (ji31)).f1)] 38 (0, 0)) (by (with_reducible repeat (first | refine blk_drewN ?_ _ | refine blk_drew ?_ | refine blk_alloc ?_ _)); refine blk_put (cs := #[.int .i64 ((rd_T38 t104 (ji31)).f0), .int .i64 0]) ?_ 1 _ rfl; (with_reducible repeat (first | refine blk_drewN ?_ _ | refine blk_drew ?_ | refine blk_alloc ?_ _)); refine blk_put (cs := #[.int .i64 0, .int .i64 0]) ?_ 0 _ rfl; (with_reducible repeat (first | refine blk_drewN ?_ _ | refine blk_drew ?_ | refine blk_alloc ?_ _)); exact BK122.out) hb); have n5_ := Aside0.mk (below_step (by repeat (first | (with_reducible first | exact HB.out | apply below_alloc | apply pw_below_drewN | apply below_drew1 | refine below_set ?_ GE120.out | refine below_set ?_ GE122.out) | exact HB.out)) hb); have n6_ := Aside0.mk (hbox); have n7_ := Aside0.mk ((by rw [hg]; exact (below_size (by repeat (first | (with_reducible first | exact HB.out | apply below_alloc | apply pw_below_drewN | apply below_drew1 | refine below_set ?_ GE120.out | refine below_set ?_ GE122.out) | exact HB.out))) : w.heap.size ≤ gb124)); have n8_ := Aside0.mk ((by rw [hg]; exact (below_size (by repeat (first | (with_reducible first | exact HB.out | apply below_alloc | apply pw_below_drewN | apply below_drew1 | refine below_set ?_ GE120.out | refine below_set ?_ GE122.out) | exact HB.out))) : w.heap.size ≤ gb124)); have n9_ := Aside0.mk ((by rw [hg]; exact Nat.ne_of_lt (blk_lt (g := gb120) (o := .cells #[.int .i64 ((rd_T38 t104 (ji28)).f0), .int .i64 ((rd_T38 t104 (ji28)).f1)] 38 (0, 0)) (by (with_reducible repeat (first | refine blk_drewN ?_ _ | refine blk_drew ?_ | refine blk_alloc ?_ _)); refine blk_far ?_ NB120_122.out _; (with_reducible repeat (first | refine blk_drewN ?_ _ | refine blk_drew ?_ | refine blk_alloc ?_ _)); refine blk_far ?_ NB120_122.out _; (with_reducible repeat (first | refine blk_drewN ?_ _ | refine blk_drew ?_ | refine blk_alloc ?_ _)); exact BK120.out)) : gb120 ≠ gb124)); have n10_ := Aside0.mk ((by rw [hg]; exact Nat.ne_of_gt (blk_lt (g := gb120) (o := .cells #[.int .i64 ((rd_T38 t104 (ji28)).f0), .int .i64 ((rd_T38 t104 (ji28)).f1)] 38 (0, 0)) (by (with_reducible repeat (first | refine blk_drewN ?_ _ | refine blk_drew ?_ | refine blk_alloc ?_ _)); refine blk_far ?_ NB120_122.out _; (with_reducible repeat (first | refine blk_drewN ?_ _ | refine blk_drew ?_ | refine blk_alloc ?_ _)); refine blk_far ?_ NB120_122.out _; (with_reducible repeat (first | refine blk_drewN ?_ _ | refine blk_drew ?_ | refine blk_alloc ?_ _)); exact BK120.out)) : gb124 ≠ gb120)); have n11_ := Aside0.mk ((by rw [hg]; exact Nat.ne_of_lt (blk_lt (g := gb122) (o := .cells #[.int .i64 ((rd_T38 t104 (ji31)).f0), .int .i64 ((rd_T38 t104 (ji31)).f1)] 38 (0, 0)) (by (with_reducible repeat (first | refine blk_drewN ?_ _ | refine blk_drew ?_ | refine blk_alloc ?_ _)); refine blk_put (cs := #[.int .i64 ((rd_T38 t104 (ji31)).f0), .int .i64 0]) ?_ 1 _ rfl; (with_reducible repeat (first | refine blk_drewN ?_ _ | refine blk_drew ?_ | refine blk_alloc ?_ _)); refine blk_put (cs := #[.int .i64 0, .int .i64 0]) ?_ 0 _ rfl; (with_reducible repeat (first | refine blk_drewN ?_ _ | refine blk_drew ?_ | refine blk_alloc ?_ _)); exact BK122.out)) : gb122 ≠ gb124)); have n12_ := Aside0.mk ((by rw [hg]; exact Nat.ne_of_gt (blk_lt (g := gb122) (o := .cells #[.int .i64 ((rd_T38 t104 (ji31)).f0), .int .i64 ((rd_T38 t104 (ji31)).f1)] 38 (0, 0)) (by (with_reducible repeat (first | refine blk_drewN ?_ _ | refine blk_drew ?_ | refine blk_alloc ?_ _)); refine blk_put (cs := #[.int .i64 ((rd_T38 t104 (ji31)).f0), .int .i64 0]) ?_ 1 _ rfl; (with_reducible repeat (first | refine blk_drewN ?_ _ | refine blk_drew ?_ | refine blk_alloc ?_ _)); refine blk_put (cs := #[.int .i64 0, .int .i64 0]) ?_ 0 _ rfl; (with_reducible repeat (first | refine blk_drewN ?_ _ | refine blk_drew ?_ | refine blk_alloc ?_ _)); exact BK122.out)) : gb124 ≠ gb122)); clear HO_3; clear HO_4; clear HO_5; clear BK120; clear BK122; clear HB; have HO_3 := n0_; have HO_4 := n1_; have HO_5 := n2_; have BK120 := n3_; have BK122 := n4_; have HB := n5_; have BK124 := n6_; have GW124 := n7_; have GE124 := n8_; have NB120_124 := n9_; have NB124_120 := n10_; have NB122_124 := n11_; have NB124_122 := n12_; clear n0_ n1_ n2_ n3_ n4_ n5_ n6_ n7_ n8_ n9_ n10_ n11_ n12_; clear hb hbox hg; have hnb60 := NB124_120.out; have hnc60 := NB120_124.out; have hnb61 := NB124_122.out; have hnc61 := NB122_124.out; have hcz62_0 : w59.cell? ⟨gb124, 0, none⟩ = some (.int .i64 0) := (blk_cell BK124.out 0).trans rfl; have hcz62_1 : w59.cell? ⟨gb124, 1, none⟩ = some (.int .i64 0) := (blk_cell BK124.out 1).trans rfl; have hfz62_0 := blk_frozen BK124.out 0; have hfz62_1 := blk_frozen BK124.out 1; have hcz63_0 : w59.cell? ⟨gb120, 0, none⟩ = some (.int .i64 ((rd_T38 t104 (ji28)).f0)) := (blk_cell BK120.out 0).trans rfl; have hcz63_1 : w59.cell? ⟨gb120, 1, none⟩ = some (.int .i64 ((rd_T38 t104 (ji28)).f1)) := (blk_cell BK120.out 1).trans rfl; have hfz63_0 := blk_frozen BK120.out 0; have hfz63_1 := blk_frozen BK120.out 1; have hcz64_0 : w59.cell? ⟨gb122, 0, none⟩ = some (.int .i64 ((rd_T38 t104 (ji31)).f0)) := (blk_cell BK122.out 0).trans rfl; have hcz64_1 : w59.cell? ⟨gb122, 1, none⟩ = some (.int .i64 ((rd_T38 t104 (ji31)).f1)) := (blk_cell BK122.out 1).trans rfl; have hfz64_0 := blk_frozen BK122.out 0; have hfz64_1 := blk_frozen BK122.out 1) | ((with_reducible refine gate_callee (f := 26) rfl ?_); refine goesL_ (some 62) rfl rfl Try.func26 (by kernel_rfl) rfl #[.agg #[.int .i64 ((rd_T38 t104 (ji28)).f0), .int .i64 ((rd_T38 t104 (ji28)).f1)], .agg #[.int .i64 ((rd_T38 t104 (ji31)).f0), .int .i64 ((rd_T38 t104 (ji31)).f1)], .agg #[.int .i64 ((rd_T38 t104 x8_2).f0), .int .i64 ((rd_T38 t104 x8_2).f1)]] rfl (by (try simp only [List.map_toArray, List.map_cons, List.map_nil]); first | done | (simp only [hji28, hji31]; rfl) | rfl | (simp only [List.length_drop, List.length_take]; rfl)) ?_; (with_reducible refine (impl_SegTurn.calls k2 ((rd_T38 t104 (ji28)).f0) ((rd_T38 t104 (ji28)).f1) ((rd_T38 t104 (ji31)).f0) ((rd_T38 t104 (ji31)).f1) ((rd_T38 t104 x8_2).f0) ((rd_T38 t104 x8_2).f1) t125 _ A36.out).mono ?_); rintro e w65 ⟨rfl, hb⟩; refine ⟨_, rfl, ?_⟩; have n0_ := Aside0.mk (Kd.R_below (by (with_reducible repeat (first | apply Kd.R_alloc | apply Kd.R_drewN | apply Kd.R_drew)); exact (Kd.R_mono (Kd.R_far (p := ⟨gb124, 1, none⟩) (Kd.R_far (p := ⟨gb124, 0, none⟩) (Kd.R_mono HO_3.out (fun k_ hk => (⟨hk, hk.2⟩ : _ ∧ k_ ≠ gb124))) (fun _ hk => hk.2) (.int .i64 ((rd_T38 t104 x8_2).f0))) (fun _ hk => hk.2) (.int .i64 ((rd_T38 t104 x8_2).f1))) (fun _ h_ => h_.1))) hb); have n1_ := Aside0.mk (Kd.R_below (by (with_reducible repeat (first | apply Kd.R_alloc | apply Kd.R_drewN | apply Kd.R_drew)); exact (Kd.R_mono (Kd.R_far (p := ⟨gb124, 1, none⟩) (Kd.R_far (p := ⟨gb124, 0, none⟩) (Kd.R_mono HO_4.out (fun k_ hk => (⟨hk, hk.2⟩ : _ ∧ k_ ≠ gb124))) (fun _ hk => hk.2) (.int .i64 ((rd_T38 t104 x8_2).f0))) (fun _ hk => hk.2) (.int .i64 ((rd_T38 t104 x8_2).f1))) (fun _ h_ => h_.1))) hb); have n2_ := Aside0.mk (Kd.R_below (by (with_reducible repeat (first | apply Kd.R_alloc | apply Kd.R_drewN | apply Kd.R_drew)); exact (Kd.R_mono (Kd.R_far (p := ⟨gb124, 1, none⟩) (Kd.R_far (p := ⟨gb124, 0, none⟩) (Kd.R_mono HO_5.out (fun k_ hk => (⟨hk, hk.2⟩ : _ ∧ k_ ≠ gb124))) (fun _ hk => hk.2) (.int .i64 ((rd_T38 t104 x8_2).f0))) (fun _ hk => hk.2) (.int .i64 ((rd_T38 t104 x8_2).f1))) (fun _ h_ => h_.1))) hb); have n3_ := Aside0.mk (blk_below (g := gb120) (o := .cells #[.int .i64 ((rd_T38 t104 (ji28)).f0), .int .i64 ((rd_T38 t104 (ji28)).f1)] 38 (0, 0)) (by (with_reducible repeat (first | refine blk_drewN ?_ _ | refine blk_drew ?_ | refine blk_alloc ?_ _)); refine blk_far ?_ NB120_124.out _; (with_reducible repeat (first | refine blk_drewN ?_ _ | refine blk_drew ?_ | refine blk_alloc ?_ _)); refine blk_far ?_ NB120_124.out _; (with_reducible repeat (first | refine blk_drewN ?_ _ | refine blk_drew ?_ | refine blk_alloc ?_ _)); exact BK120.out) hb); have n4_ := Aside0.mk (blk_below (g := gb122) (o := .cells #[.int .i64 ((rd_T38 t104 (ji31)).f0), .int .i64 ((rd_T38 t104 (ji31)).f1)] 38 (0, 0)) (by (with_reducible repeat (first | refine blk_drewN ?_ _ | refine blk_drew ?_ | refine blk_alloc ?_ _)); refine blk_far ?_ NB122_124.out _; (with_reducible repeat (first | refine blk_drewN ?_ _ | refine blk_drew ?_ | refine blk_alloc ?_ _)); refine blk_far ?_ NB122_124.out _; (with_reducible repeat (first | refine blk_drewN ?_ _ | refine blk_drew ?_ | refine blk_alloc ?_ _)); exact BK122.out) hb); have n5_ := Aside0.mk (blk_below (g := gb124) (o := .cells #[.int .i64 ((rd_T38 t104 x8_2).f0), .int .i64 ((rd_T38 t104 x8_2).f1)] 38 (0, 0)) (by (with_reducible repeat (first | refine blk_drewN ?_ _ | refine blk_drew ?_ | refine blk_alloc ?_ _)); refine blk_put (cs := #[.int .i64 ((rd_T38 t104 x8_2).f0), .int .i64 0]) ?_ 1 _ rfl; (with_reducible repeat (first | refine blk_drewN ?_ _ | refine blk_drew ?_ | refine blk_alloc ?_ _)); refine blk_put (cs := #[.int .i64 0, .int .i64 0]) ?_ 0 _ rfl; (with_reducible repeat (first | refine blk_drewN ?_ _ | refine blk_drew ?_ | refine blk_alloc ?_ _)); exact BK124.out) hb); have n6_ := Aside0.mk (below_step (by repeat (first | (with_reducible first | exact HB.out | apply below_alloc | apply pw_below_drewN | apply below_drew1 | refine below_set ?_ GE120.out | refine below_set ?_ GE122.out | refine below_set ?_ GE124.out) | exact HB.out)) hb); clear HO_3; clear HO_4; clear HO_5; clear BK120; clear BK122; clear BK124; clear HB; have HO_3 := n0_; have HO_4 := n1_; have HO_5 := n2_; have BK120 := n3_; have BK122 := n4_; have BK124 := n5_; have HB := n6_; clear n0_ n1_ n2_ n3_ n4_ n5_ n6_; (try clear hb); (try clear hb2); (try clear hk); (try clear hi); have hcz66_0 : w65.cell? ⟨gb122, 0, none⟩ = some (.int .i64 ((rd_T38 t104 (ji31)).f0)) := (blk_cell BK122.out 0).trans rfl; have hcz66_1 : w65.cell? ⟨gb122, 1, none⟩ = some (.int .i64 ((rd_T38 t104 (ji31)).f1)) := (blk_cell BK122.out 1).trans rfl; have hfz66_0 := blk_frozen BK122.out 0; have hfz66_1 := blk_frozen BK122.out 1; have hcz67_0 : w65.cell? ⟨gb120, 0, none⟩ = some (.int .i64 ((rd_T38 t104 (ji28)).f0)) := (blk_cell BK120.out 0).trans rfl; have hcz67_1 : w65.cell? ⟨gb120, 1, none⟩ = some (.int .i64 ((rd_T38 t104 (ji28)).f1)) := (blk_cell BK120.out 1).trans rfl; have hfz67_0 := blk_frozen BK120.out 0; have hfz67_1 := blk_frozen BK120.out 1; have hcz68_0 : w65.cell? ⟨gb124, 0, none⟩ = some (.int .i64 ((rd_T38 t104 x8_2).f0)) := (blk_cell BK124.out 0).trans rfl; have hcz68_1 : w65.cell? ⟨gb124, 1, none⟩ = some (.int .i64 ((rd_T38 t104 x8_2).f1)) := (blk_cell BK124.out 1).trans rfl; have hfz68_0 := blk_frozen BK124.out 0; have hfz68_1 := blk_frozen BK124.out 1))
                go_roundg k2
                case measure => have := HJ4.out; have := HK2.out; omega
                case rel => exact ⟨(wrap64 (x8_2 + 1)), (by first | rfl | (simp; done) | (simp [*]; done)), H', ⟨by have := HJ4.out; have := HK2.out; omega⟩, ⟨by (with_reducible repeat (first | apply Kd.R_alloc | apply Kd.R_drewN | apply Kd.R_drew)); exact Kd.R_mono HO_3.out (fun _ hk => ⟨hk.1.1.1.1, hk.1.1.1.2⟩)⟩, ⟨by (with_reducible repeat (first | apply Kd.R_alloc | apply Kd.R_drewN | apply Kd.R_drew)); exact Kd.R_mono HO_4.out (fun _ hk => ⟨hk.1.1.1.1, hk.1.1.1.2⟩)⟩, ⟨by (with_reducible repeat (first | apply Kd.R_alloc | apply Kd.R_drewN | apply Kd.R_drew)); exact Kd.R_mono HO_5.out (fun _ hk => ⟨hk.1.1.1.1, hk.1.1.1.2⟩)⟩, ⟨by repeat (first | (with_reducible first | exact HB.out | apply below_alloc | apply pw_below_drewN | apply below_drew1 | refine below_set ?_ GE120.out | refine below_set ?_ GE122.out | refine below_set ?_ GE124.out) | exact HB.out)⟩⟩
              ·rw [if_neg c37] at H
               have c37b0 : (t125 == 0) = false := beq_eq_false_iff_ne.mpr c37; have c37b1 : (t125 != 0) = true := bne_iff_ne.mpr c37; have H' := Aside0.mk H; clear H; have p119 : 0 ≤ ((ji28) : Int) := of_decide_eq_true (by first | (with_reducible assumption) | assumption); have q119 : (ji28) < (t104.length : Int) := of_decide_eq_true (by first | (with_reducible assumption) | assumption); obtain ⟨ad119, e119, hx119_0, hx119_1⟩ := at_T38 (Kd.R_reads' HO_4.out).2.2 (ji28) p119 q119
               cases e119
               replace p119 := eq_true p119; replace q119 := eq_true q119; go_wp2_with (first | ((with_reducible refine gate_dst (N := 9) rfl ?_); (try (refine gate_guard (by rfl) ?_; dsimp only)); refine box_event ?hg (N := 9) ?hd (cs := #[.int .i64 0, .int .i64 0]) (t := 38) ?hr ?_; (case hd => rfl); (case hg => rfl); (case hr => first | (go_simp; done) | (go_simp; rfl)); intro gb120 hg w69 hbox hb; have n0_ := Aside0.mk (Kd.R_below (Kd.R_elderB (by (with_reducible repeat (first | apply Kd.R_alloc | apply Kd.R_drewN | apply Kd.R_drew)); exact HO_3.out) gb120 (Nat.le_of_eq hg.symm)) hb); have n1_ := Aside0.mk (Kd.R_below (Kd.R_elderB (by (with_reducible repeat (first | apply Kd.R_alloc | apply Kd.R_drewN | apply Kd.R_drew)); exact HO_4.out) gb120 (Nat.le_of_eq hg.symm)) hb); have n2_ := Aside0.mk (Kd.R_below (Kd.R_elderB (by (with_reducible repeat (first | apply Kd.R_alloc | apply Kd.R_drewN | apply Kd.R_drew)); exact HO_5.out) gb120 (Nat.le_of_eq hg.symm)) hb); have n3_ := Aside0.mk (below_step (by repeat (first | (with_reducible first | exact HB.out | apply below_alloc | apply pw_below_drewN | apply below_drew1) | exact HB.out)) hb); have n4_ := Aside0.mk (hbox); have n5_ := Aside0.mk ((by rw [hg]; exact (below_size (by repeat (first | (with_reducible first | exact HB.out | apply below_alloc | apply pw_below_drewN | apply below_drew1) | exact HB.out))) : w.heap.size ≤ gb120)); have n6_ := Aside0.mk ((by rw [hg]; exact (below_size (by repeat (first | (with_reducible first | exact HB.out | apply below_alloc | apply pw_below_drewN | apply below_drew1) | exact HB.out))) : w.heap.size ≤ gb120)); clear HO_3; clear HO_4; clear HO_5; clear HB; have HO_3 := n0_; have HO_4 := n1_; have HO_5 := n2_; have HB := n3_; have BK120 := n4_; have GW120 := n5_; have GE120 := n6_; clear n0_ n1_ n2_ n3_ n4_ n5_ n6_; clear hb hbox hg; have hcz70_0 : w69.cell? ⟨gb120, 0, none⟩ = some (.int .i64 0) := (blk_cell BK120.out 0).trans rfl; have hcz70_1 : w69.cell? ⟨gb120, 1, none⟩ = some (.int .i64 0) := (blk_cell BK120.out 1).trans rfl; have hfz70_0 := blk_frozen BK120.out 0; have hfz70_1 := blk_frozen BK120.out 1; have p121 : 0 ≤ ((ji31) : Int) := of_decide_eq_true (by first | (with_reducible assumption) | assumption); have q121 : (ji31) < (t104.length : Int) := of_decide_eq_true (by first | (with_reducible assumption) | assumption); obtain ⟨ad121, e121, hx121_0, hx121_1⟩ := at_T38 (Kd.R_reads' HO_4.out).2.2 (ji31) p121 q121; obtain rfl : ad119 = ad121 := (by injection e121); have hn121_0 : ad119.block ≠ gb120 := Kd.own_blk (by first | exact Kd.R_ne HO_4.out BK120.out (by decide) | exact Kd.R_away HO_4.out (fun _ hk => hk.2) | exact Kd.R_away HO_4.out (fun _ hk => hk.1.2) | exact Kd.R_away HO_4.out (fun _ hk => hk.1.1.2)); have hn121_1 : ad119.block ≠ gb120 := Kd.own_blk (by first | exact Kd.R_ne HO_4.out BK120.out (by decide) | exact Kd.R_away HO_4.out (fun _ hk => hk.2) | exact Kd.R_away HO_4.out (fun _ hk => hk.1.2) | exact Kd.R_away HO_4.out (fun _ hk => hk.1.1.2)); replace hx121_0 := (cell_far (p := ⟨gb120, 0, none⟩) (by first | (rw [add_block]; exact hn121_0) | (show (Addr.add _ _).block ≠ _; rw [add_block]; exact hn121_0) | exact hn121_0) (.int .i64 ((rd_T38 t104 (ji28)).f0))).trans hx121_0; replace hx121_1 := (cell_far (p := ⟨gb120, 0, none⟩) (by first | (rw [add_block]; exact hn121_0) | (show (Addr.add _ _).block ≠ _; rw [add_block]; exact hn121_0) | exact hn121_0) (.int .i64 ((rd_T38 t104 (ji28)).f0))).trans hx121_1; replace hx121_0 := (cell_far (p := ⟨gb120, 1, none⟩) (by first | (rw [add_block]; exact hn121_1) | (show (Addr.add _ _).block ≠ _; rw [add_block]; exact hn121_1) | exact hn121_1) (.int .i64 ((rd_T38 t104 (ji28)).f1))).trans hx121_0; replace hx121_1 := (cell_far (p := ⟨gb120, 1, none⟩) (by first | (rw [add_block]; exact hn121_1) | (show (Addr.add _ _).block ≠ _; rw [add_block]; exact hn121_1) | exact hn121_1) (.int .i64 ((rd_T38 t104 (ji28)).f1))).trans hx121_1; clear hn121_0; clear hn121_1; replace p121 := eq_true p121; replace q121 := eq_true q121) | ((with_reducible refine gate_dst (N := 10) rfl ?_); (try (refine gate_guard (by rfl) ?_; dsimp only)); refine box_event ?hg (N := 10) ?hd (cs := #[.int .i64 0, .int .i64 0]) (t := 38) ?hr ?_; (case hd => rfl); (case hg => rfl); (case hr => first | (go_simp; done) | (go_simp; rfl)); intro gb122 hg w71 hbox hb; have n0_ := Aside0.mk (Kd.R_below (Kd.R_elderB (by (with_reducible repeat (first | apply Kd.R_alloc | apply Kd.R_drewN | apply Kd.R_drew)); exact (Kd.R_mono (Kd.R_far (p := ⟨gb120, 1, none⟩) (Kd.R_far (p := ⟨gb120, 0, none⟩) (Kd.R_mono HO_3.out (fun k_ hk => (⟨hk, hk.2⟩ : _ ∧ k_ ≠ gb120))) (fun _ hk => hk.2) (.int .i64 ((rd_T38 t104 (ji28)).f0))) (fun _ hk => hk.2) (.int .i64 ((rd_T38 t104 (ji28)).f1))) (fun _ h_ => h_.1))) gb122 (Nat.le_of_eq hg.symm)) hb); have n1_ := Aside0.mk (Kd.R_below (Kd.R_elderB (by (with_reducible repeat (first | apply Kd.R_alloc | apply Kd.R_drewN | apply Kd.R_drew)); exact (Kd.R_mono (Kd.R_far (p := ⟨gb120, 1, none⟩) (Kd.R_far (p := ⟨gb120, 0, none⟩) (Kd.R_mono HO_4.out (fun k_ hk => (⟨hk, hk.2⟩ : _ ∧ k_ ≠ gb120))) (fun _ hk => hk.2) (.int .i64 ((rd_T38 t104 (ji28)).f0))) (fun _ hk => hk.2) (.int .i64 ((rd_T38 t104 (ji28)).f1))) (fun _ h_ => h_.1))) gb122 (Nat.le_of_eq hg.symm)) hb); have n2_ := Aside0.mk (Kd.R_below (Kd.R_elderB (by (with_reducible repeat (first | apply Kd.R_alloc | apply Kd.R_drewN | apply Kd.R_drew)); exact (Kd.R_mono (Kd.R_far (p := ⟨gb120, 1, none⟩) (Kd.R_far (p := ⟨gb120, 0, none⟩) (Kd.R_mono HO_5.out (fun k_ hk => (⟨hk, hk.2⟩ : _ ∧ k_ ≠ gb120))) (fun _ hk => hk.2) (.int .i64 ((rd_T38 t104 (ji28)).f0))) (fun _ hk => hk.2) (.int .i64 ((rd_T38 t104 (ji28)).f1))) (fun _ h_ => h_.1))) gb122 (Nat.le_of_eq hg.symm)) hb); have n3_ := Aside0.mk (blk_below (g := gb120) (o := .cells #[.int .i64 ((rd_T38 t104 (ji28)).f0), .int .i64 ((rd_T38 t104 (ji28)).f1)] 38 (0, 0)) (by (with_reducible repeat (first | refine blk_drewN ?_ _ | refine blk_drew ?_ | refine blk_alloc ?_ _)); refine blk_put (cs := #[.int .i64 ((rd_T38 t104 (ji28)).f0), .int .i64 0]) ?_ 1 _ rfl; (with_reducible repeat (first | refine blk_drewN ?_ _ | refine blk_drew ?_ | refine blk_alloc ?_ _)); refine blk_put (cs := #[.int .i64 0, .int .i64 0]) ?_ 0 _ rfl; (with_reducible repeat (first | refine blk_drewN ?_ _ | refine blk_drew ?_ | refine blk_alloc ?_ _)); exact BK120.out) hb); have n4_ := Aside0.mk (below_step (by repeat (first | (with_reducible first | exact HB.out | apply below_alloc | apply pw_below_drewN | apply below_drew1 | refine below_set ?_ GE120.out) | exact HB.out)) hb); have n5_ := Aside0.mk (hbox); have n6_ := Aside0.mk ((by rw [hg]; exact (below_size (by repeat (first | (with_reducible first | exact HB.out | apply below_alloc | apply pw_below_drewN | apply below_drew1 | refine below_set ?_ GE120.out) | exact HB.out))) : w.heap.size ≤ gb122)); have n7_ := Aside0.mk ((by rw [hg]; exact (below_size (by repeat (first | (with_reducible first | exact HB.out | apply below_alloc | apply pw_below_drewN | apply below_drew1 | refine below_set ?_ GE120.out) | exact HB.out))) : w.heap.size ≤ gb122)); have n8_ := Aside0.mk ((by rw [hg]; exact Nat.ne_of_lt (blk_lt (g := gb120) (o := .cells #[.int .i64 ((rd_T38 t104 (ji28)).f0), .int .i64 ((rd_T38 t104 (ji28)).f1)] 38 (0, 0)) (by (with_reducible repeat (first | refine blk_drewN ?_ _ | refine blk_drew ?_ | refine blk_alloc ?_ _)); refine blk_put (cs := #[.int .i64 ((rd_T38 t104 (ji28)).f0), .int .i64 0]) ?_ 1 _ rfl; (with_reducible repeat (first | refine blk_drewN ?_ _ | refine blk_drew ?_ | refine blk_alloc ?_ _)); refine blk_put (cs := #[.int .i64 0, .int .i64 0]) ?_ 0 _ rfl; (with_reducible repeat (first | refine blk_drewN ?_ _ | refine blk_drew ?_ | refine blk_alloc ?_ _)); exact BK120.out)) : gb120 ≠ gb122)); have n9_ := Aside0.mk ((by rw [hg]; exact Nat.ne_of_gt (blk_lt (g := gb120) (o := .cells #[.int .i64 ((rd_T38 t104 (ji28)).f0), .int .i64 ((rd_T38 t104 (ji28)).f1)] 38 (0, 0)) (by (with_reducible repeat (first | refine blk_drewN ?_ _ | refine blk_drew ?_ | refine blk_alloc ?_ _)); refine blk_put (cs := #[.int .i64 ((rd_T38 t104 (ji28)).f0), .int .i64 0]) ?_ 1 _ rfl; (with_reducible repeat (first | refine blk_drewN ?_ _ | refine blk_drew ?_ | refine blk_alloc ?_ _)); refine blk_put (cs := #[.int .i64 0, .int .i64 0]) ?_ 0 _ rfl; (with_reducible repeat (first | refine blk_drewN ?_ _ | refine blk_drew ?_ | refine blk_alloc ?_ _)); exact BK120.out)) : gb122 ≠ gb120)); clear HO_3; clear HO_4; clear HO_5; clear BK120; clear HB; have HO_3 := n0_; have HO_4 := n1_; have HO_5 := n2_; have BK120 := n3_; have HB := n4_; have BK122 := n5_; have GW122 := n6_; have GE122 := n7_; have NB120_122 := n8_; have NB122_120 := n9_; clear n0_ n1_ n2_ n3_ n4_ n5_ n6_ n7_ n8_ n9_; clear hb hbox hg; have hnb72 := NB122_120.out; have hnc72 := NB120_122.out; have hcz73_0 : w71.cell? ⟨gb122, 0, none⟩ = some (.int .i64 0) := (blk_cell BK122.out 0).trans rfl; have hcz73_1 : w71.cell? ⟨gb122, 1, none⟩ = some (.int .i64 0) := (blk_cell BK122.out 1).trans rfl; have hfz73_0 := blk_frozen BK122.out 0; have hfz73_1 := blk_frozen BK122.out 1; have p123 : 0 ≤ (x8_2 : Int) := of_decide_eq_true (by first | (with_reducible assumption) | assumption); have q123 : x8_2 < (t104.length : Int) := of_decide_eq_true (by first | (with_reducible assumption) | assumption); obtain ⟨ad123, e123, hx123_0, hx123_1⟩ := at_T38 (Kd.R_reads' HO_4.out).2.2 x8_2 p123 q123; obtain rfl : ad119 = ad123 := (by injection e123); have hn123_0 : ad119.block ≠ gb122 := Kd.own_blk (by first | exact Kd.R_ne HO_4.out BK122.out (by decide) | exact Kd.R_away HO_4.out (fun _ hk => hk.2) | exact Kd.R_away HO_4.out (fun _ hk => hk.1.2) | exact Kd.R_away HO_4.out (fun _ hk => hk.1.1.2)); have hn123_1 : ad119.block ≠ gb122 := Kd.own_blk (by first | exact Kd.R_ne HO_4.out BK122.out (by decide) | exact Kd.R_away HO_4.out (fun _ hk => hk.2) | exact Kd.R_away HO_4.out (fun _ hk => hk.1.2) | exact Kd.R_away HO_4.out (fun _ hk => hk.1.1.2)); replace hx123_0 := (cell_far (p := ⟨gb122, 0, none⟩) (by first | (rw [add_block]; exact hn123_0) | (show (Addr.add _ _).block ≠ _; rw [add_block]; exact hn123_0) | exact hn123_0) (.int .i64 ((rd_T38 t104 (ji31)).f0))).trans hx123_0; replace hx123_1 := (cell_far (p := ⟨gb122, 0, none⟩) (by first | (rw [add_block]; exact hn123_0) | (show (Addr.add _ _).block ≠ _; rw [add_block]; exact hn123_0) | exact hn123_0) (.int .i64 ((rd_T38 t104 (ji31)).f0))).trans hx123_1; replace hx123_0 := (cell_far (p := ⟨gb122, 1, none⟩) (by first | (rw [add_block]; exact hn123_1) | (show (Addr.add _ _).block ≠ _; rw [add_block]; exact hn123_1) | exact hn123_1) (.int .i64 ((rd_T38 t104 (ji31)).f1))).trans hx123_0; replace hx123_1 := (cell_far (p := ⟨gb122, 1, none⟩) (by first | (rw [add_block]; exact hn123_1) | (show (Addr.add _ _).block ≠ _; rw [add_block]; exact hn123_1) | exact hn123_1) (.int .i64 ((rd_T38 t104 (ji31)).f1))).trans hx123_1; clear hn123_0; clear hn123_1; replace p123 := eq_true p123; replace q123 := eq_true q123) | ((with_reducible refine gate_dst (N := 11) rfl ?_); (try (refine gate_guard (by rfl) ?_; dsimp only)); refine box_event ?hg (N := 11) ?hd (cs := #[.int .i64 0, .int .i64 0]) (t := 38) ?hr ?_; (case hd => rfl); (case hg => rfl); (case hr => first | (go_simp; done) | (go_simp; rfl)); intro gb124 hg w74 hbox hb; have n0_ := Aside0.mk (Kd.R_below (Kd.R_elderB (by (with_reducible repeat (first | apply Kd.R_alloc | apply Kd.R_drewN | apply Kd.R_drew)); exact (Kd.R_mono (Kd.R_far (p := ⟨gb122, 1, none⟩) (Kd.R_far (p := ⟨gb122, 0, none⟩) (Kd.R_mono HO_3.out (fun k_ hk => (⟨hk, hk.2⟩ : _ ∧ k_ ≠ gb122))) (fun _ hk => hk.2) (.int .i64 ((rd_T38 t104 (ji31)).f0))) (fun _ hk => hk.2) (.int .i64 ((rd_T38 t104 (ji31)).f1))) (fun _ h_ => h_.1))) gb124 (Nat.le_of_eq hg.symm)) hb); have n1_ := Aside0.mk (Kd.R_below (Kd.R_elderB (by (with_reducible repeat (first | apply Kd.R_alloc | apply Kd.R_drewN | apply Kd.R_drew)); exact (Kd.R_mono (Kd.R_far (p := ⟨gb122, 1, none⟩) (Kd.R_far (p := ⟨gb122, 0, none⟩) (Kd.R_mono HO_4.out (fun k_ hk => (⟨hk, hk.2⟩ : _ ∧ k_ ≠ gb122))) (fun _ hk => hk.2) (.int .i64 ((rd_T38 t104 (ji31)).f0))) (fun _ hk => hk.2) (.int .i64 ((rd_T38 t104 (ji31)).f1))) (fun _ h_ => h_.1))) gb124 (Nat.le_of_eq hg.symm)) hb); have n2_ := Aside0.mk (Kd.R_below (Kd.R_elderB (by (with_reducible repeat (first | apply Kd.R_alloc | apply Kd.R_drewN | apply Kd.R_drew)); exact (Kd.R_mono (Kd.R_far (p := ⟨gb122, 1, none⟩) (Kd.R_far (p := ⟨gb122, 0, none⟩) (Kd.R_mono HO_5.out (fun k_ hk => (⟨hk, hk.2⟩ : _ ∧ k_ ≠ gb122))) (fun _ hk => hk.2) (.int .i64 ((rd_T38 t104 (ji31)).f0))) (fun _ hk => hk.2) (.int .i64 ((rd_T38 t104 (ji31)).f1))) (fun _ h_ => h_.1))) gb124 (Nat.le_of_eq hg.symm)) hb); have n3_ := Aside0.mk (blk_below (g := gb120) (o := .cells #[.int .i64 ((rd_T38 t104 (ji28)).f0), .int .i64 ((rd_T38 t104 (ji28)).f1)] 38 (0, 0)) (by (with_reducible repeat (first | refine blk_drewN ?_ _ | refine blk_drew ?_ | refine blk_alloc ?_ _)); refine blk_far ?_ NB120_122.out _; (with_reducible repeat (first | refine blk_drewN ?_ _ | refine blk_drew ?_ | refine blk_alloc ?_ _)); refine blk_far ?_ NB120_122.out _; (with_reducible repeat (first | refine blk_drewN ?_ _ | refine blk_drew ?_ | refine blk_alloc ?_ _)); exact BK120.out) hb); have n4_ := Aside0.mk (blk_below (g := gb122) (o := .cells #[.int .i64 ((rd_T38 t104 (ji31)).f0), .int .i64 ((rd_T38 t104 (ji31)).f1)] 38 (0, 0)) (by (with_reducible repeat (first | refine blk_drewN ?_ _ | refine blk_drew ?_ | refine blk_alloc ?_ _)); refine blk_put (cs := #[.int .i64 ((rd_T38 t104 (ji31)).f0), .int .i64 0]) ?_ 1 _ rfl; (with_reducible repeat (first | refine blk_drewN ?_ _ | refine blk_drew ?_ | refine blk_alloc ?_ _)); refine blk_put (cs := #[.int .i64 0, .int .i64 0]) ?_ 0 _ rfl; (with_reducible repeat (first | refine blk_drewN ?_ _ | refine blk_drew ?_ | refine blk_alloc ?_ _)); exact BK122.out) hb); have n5_ := Aside0.mk (below_step (by repeat (first | (with_reducible first | exact HB.out | apply below_alloc | apply pw_below_drewN | apply below_drew1 | refine below_set ?_ GE120.out | refine below_set ?_ GE122.out) | exact HB.out)) hb); have n6_ := Aside0.mk (hbox); have n7_ := Aside0.mk ((by rw [hg]; exact (below_size (by repeat (first | (with_reducible first | exact HB.out | apply below_alloc | apply pw_below_drewN | apply below_drew1 | refine below_set ?_ GE120.out | refine below_set ?_ GE122.out) | exact HB.out))) : w.heap.size ≤ gb124)); have n8_ := Aside0.mk ((by rw [hg]; exact (below_size (by repeat (first | (with_reducible first | exact HB.out | apply below_alloc | apply pw_below_drewN | apply below_drew1 | refine below_set ?_ GE120.out | refine below_set ?_ GE122.out) | exact HB.out))) : w.heap.size ≤ gb124)); have n9_ := Aside0.mk ((by rw [hg]; exact Nat.ne_of_lt (blk_lt (g := gb120) (o := .cells #[.int .i64 ((rd_T38 t104 (ji28)).f0), .int .i64 ((rd_T38 t104 (ji28)).f1)] 38 (0, 0)) (by (with_reducible repeat (first | refine blk_drewN ?_ _ | refine blk_drew ?_ | refine blk_alloc ?_ _)); refine blk_far ?_ NB120_122.out _; (with_reducible repeat (first | refine blk_drewN ?_ _ | refine blk_drew ?_ | refine blk_alloc ?_ _)); refine blk_far ?_ NB120_122.out _; (with_reducible repeat (first | refine blk_drewN ?_ _ | refine blk_drew ?_ | refine blk_alloc ?_ _)); exact BK120.out)) : gb120 ≠ gb124)); have n10_ := Aside0.mk ((by rw [hg]; exact Nat.ne_of_gt (blk_lt (g := gb120) (o := .cells #[.int .i64 ((rd_T38 t104 (ji28)).f0), .int .i64 ((rd_T38 t104 (ji28)).f1)] 38 (0, 0)) (by (with_reducible repeat (first | refine blk_drewN ?_ _ | refine blk_drew ?_ | refine blk_alloc ?_ _)); refine blk_far ?_ NB120_122.out _; (with_reducible repeat (first | refine blk_drewN ?_ _ | refine blk_drew ?_ | refine blk_alloc ?_ _)); refine blk_far ?_ NB120_122.out _; (with_reducible repeat (first | refine blk_drewN ?_ _ | refine blk_drew ?_ | refine blk_alloc ?_ _)); exact BK120.out)) : gb124 ≠ gb120)); have n11_ := Aside0.mk ((by rw [hg]; exact Nat.ne_of_lt (blk_lt (g := gb122) (o := .cells #[.int .i64 ((rd_T38 t104 (ji31)).f0), .int .i64 ((rd_T38 t104 (ji31)).f1)] 38 (0, 0)) (by (with_reducible repeat (first | refine blk_drewN ?_ _ | refine blk_drew ?_ | refine blk_alloc ?_ _)); refine blk_put (cs := #[.int .i64 ((rd_T38 t104 (ji31)).f0), .int .i64 0]) ?_ 1 _ rfl; (with_reducible repeat (first | refine blk_drewN ?_ _ | refine blk_drew ?_ | refine blk_alloc ?_ _)); refine blk_put (cs := #[.int .i64 0, .int .i64 0]) ?_ 0 _ rfl; (with_reducible repeat (first | refine blk_drewN ?_ _ | refine blk_drew ?_ | refine blk_alloc ?_ _)); exact BK122.out)) : gb122 ≠ gb124)); have n12_ := Aside0.mk ((by rw [hg]; exact Nat.ne_of_gt (blk_lt (g := gb122) (o := .cells #[.int .i64 ((rd_T38 t104 (ji31)).f0), .int .i64 ((rd_T38 t104 (ji31)).f1)] 38 (0, 0)) (by (with_reducible repeat (first | refine blk_drewN ?_ _ | refine blk_drew ?_ | refine blk_alloc ?_ _)); refine blk_put (cs := #[.int .i64 ((rd_T38 t104 (ji31)).f0), .int .i64 0]) ?_ 1 _ rfl; (with_reducible repeat (first | refine blk_drewN ?_ _ | refine blk_drew ?_ | refine blk_alloc ?_ _)); refine blk_put (cs := #[.int .i64 0, .int .i64 0]) ?_ 0 _ rfl; (with_reducible repeat (first | refine blk_drewN ?_ _ | refine blk_drew ?_ | refine blk_alloc ?_ _)); exact BK122.out)) : gb124 ≠ gb122)); clear HO_3; clear HO_4; clear HO_5; clear BK120; clear BK122; clear HB; have HO_3 := n0_; have HO_4 := n1_; have HO_5 := n2_; have BK120 := n3_; have BK122 := n4_; have HB := n5_; have BK124 := n6_; have GW124 := n7_; have GE124 := n8_; have NB120_124 := n9_; have NB124_120 := n10_; have NB122_124 := n11_; have NB124_122 := n12_; clear n0_ n1_ n2_ n3_ n4_ n5_ n6_ n7_ n8_ n9_ n10_ n11_ n12_; clear hb hbox hg; have hnb75 := NB124_120.out; have hnc75 := NB120_124.out; have hnb76 := NB124_122.out; have hnc76 := NB122_124.out; have hcz77_0 : w74.cell? ⟨gb124, 0, none⟩ = some (.int .i64 0) := (blk_cell BK124.out 0).trans rfl; have hcz77_1 : w74.cell? ⟨gb124, 1, none⟩ = some (.int .i64 0) := (blk_cell BK124.out 1).trans rfl; have hfz77_0 := blk_frozen BK124.out 0; have hfz77_1 := blk_frozen BK124.out 1; have hcz78_0 : w74.cell? ⟨gb120, 0, none⟩ = some (.int .i64 ((rd_T38 t104 (ji28)).f0)) := (blk_cell BK120.out 0).trans rfl; have hcz78_1 : w74.cell? ⟨gb120, 1, none⟩ = some (.int .i64 ((rd_T38 t104 (ji28)).f1)) := (blk_cell BK120.out 1).trans rfl; have hfz78_0 := blk_frozen BK120.out 0; have hfz78_1 := blk_frozen BK120.out 1; have hcz79_0 : w74.cell? ⟨gb122, 0, none⟩ = some (.int .i64 ((rd_T38 t104 (ji31)).f0)) := (blk_cell BK122.out 0).trans rfl; have hcz79_1 : w74.cell? ⟨gb122, 1, none⟩ = some (.int .i64 ((rd_T38 t104 (ji31)).f1)) := (blk_cell BK122.out 1).trans rfl; have hfz79_0 := blk_frozen BK122.out 0; have hfz79_1 := blk_frozen BK122.out 1) | ((with_reducible refine gate_callee (f := 26) rfl ?_); refine goesL_ (some 62) rfl rfl Try.func26 (by kernel_rfl) rfl #[.agg #[.int .i64 ((rd_T38 t104 (ji28)).f0), .int .i64 ((rd_T38 t104 (ji28)).f1)], .agg #[.int .i64 ((rd_T38 t104 (ji31)).f0), .int .i64 ((rd_T38 t104 (ji31)).f1)], .agg #[.int .i64 ((rd_T38 t104 x8_2).f0), .int .i64 ((rd_T38 t104 x8_2).f1)]] rfl (by (try simp only [List.map_toArray, List.map_cons, List.map_nil]); first | done | (simp only [hji28, hji31]; rfl) | rfl | (simp only [List.length_drop, List.length_take]; rfl)) ?_; (with_reducible refine (impl_SegTurn.calls k2 ((rd_T38 t104 (ji28)).f0) ((rd_T38 t104 (ji28)).f1) ((rd_T38 t104 (ji31)).f0) ((rd_T38 t104 (ji31)).f1) ((rd_T38 t104 x8_2).f0) ((rd_T38 t104 x8_2).f1) t125 _ A36.out).mono ?_); rintro e w80 ⟨rfl, hb⟩; refine ⟨_, rfl, ?_⟩; have n0_ := Aside0.mk (Kd.R_below (by (with_reducible repeat (first | apply Kd.R_alloc | apply Kd.R_drewN | apply Kd.R_drew)); exact (Kd.R_mono (Kd.R_far (p := ⟨gb124, 1, none⟩) (Kd.R_far (p := ⟨gb124, 0, none⟩) (Kd.R_mono HO_3.out (fun k_ hk => (⟨hk, hk.2⟩ : _ ∧ k_ ≠ gb124))) (fun _ hk => hk.2) (.int .i64 ((rd_T38 t104 x8_2).f0))) (fun _ hk => hk.2) (.int .i64 ((rd_T38 t104 x8_2).f1))) (fun _ h_ => h_.1))) hb); have n1_ := Aside0.mk (Kd.R_below (by (with_reducible repeat (first | apply Kd.R_alloc | apply Kd.R_drewN | apply Kd.R_drew)); exact (Kd.R_mono (Kd.R_far (p := ⟨gb124, 1, none⟩) (Kd.R_far (p := ⟨gb124, 0, none⟩) (Kd.R_mono HO_4.out (fun k_ hk => (⟨hk, hk.2⟩ : _ ∧ k_ ≠ gb124))) (fun _ hk => hk.2) (.int .i64 ((rd_T38 t104 x8_2).f0))) (fun _ hk => hk.2) (.int .i64 ((rd_T38 t104 x8_2).f1))) (fun _ h_ => h_.1))) hb); have n2_ := Aside0.mk (Kd.R_below (by (with_reducible repeat (first | apply Kd.R_alloc | apply Kd.R_drewN | apply Kd.R_drew)); exact (Kd.R_mono (Kd.R_far (p := ⟨gb124, 1, none⟩) (Kd.R_far (p := ⟨gb124, 0, none⟩) (Kd.R_mono HO_5.out (fun k_ hk => (⟨hk, hk.2⟩ : _ ∧ k_ ≠ gb124))) (fun _ hk => hk.2) (.int .i64 ((rd_T38 t104 x8_2).f0))) (fun _ hk => hk.2) (.int .i64 ((rd_T38 t104 x8_2).f1))) (fun _ h_ => h_.1))) hb); have n3_ := Aside0.mk (blk_below (g := gb120) (o := .cells #[.int .i64 ((rd_T38 t104 (ji28)).f0), .int .i64 ((rd_T38 t104 (ji28)).f1)] 38 (0, 0)) (by (with_reducible repeat (first | refine blk_drewN ?_ _ | refine blk_drew ?_ | refine blk_alloc ?_ _)); refine blk_far ?_ NB120_124.out _; (with_reducible repeat (first | refine blk_drewN ?_ _ | refine blk_drew ?_ | refine blk_alloc ?_ _)); refine blk_far ?_ NB120_124.out _; (with_reducible repeat (first | refine blk_drewN ?_ _ | refine blk_drew ?_ | refine blk_alloc ?_ _)); exact BK120.out) hb); have n4_ := Aside0.mk (blk_below (g := gb122) (o := .cells #[.int .i64 ((rd_T38 t104 (ji31)).f0), .int .i64 ((rd_T38 t104 (ji31)).f1)] 38 (0, 0)) (by (with_reducible repeat (first | refine blk_drewN ?_ _ | refine blk_drew ?_ | refine blk_alloc ?_ _)); refine blk_far ?_ NB122_124.out _; (with_reducible repeat (first | refine blk_drewN ?_ _ | refine blk_drew ?_ | refine blk_alloc ?_ _)); refine blk_far ?_ NB122_124.out _; (with_reducible repeat (first | refine blk_drewN ?_ _ | refine blk_drew ?_ | refine blk_alloc ?_ _)); exact BK122.out) hb); have n5_ := Aside0.mk (blk_below (g := gb124) (o := .cells #[.int .i64 ((rd_T38 t104 x8_2).f0), .int .i64 ((rd_T38 t104 x8_2).f1)] 38 (0, 0)) (by (with_reducible repeat (first | refine blk_drewN ?_ _ | refine blk_drew ?_ | refine blk_alloc ?_ _)); refine blk_put (cs := #[.int .i64 ((rd_T38 t104 x8_2).f0), .int .i64 0]) ?_ 1 _ rfl; (with_reducible repeat (first | refine blk_drewN ?_ _ | refine blk_drew ?_ | refine blk_alloc ?_ _)); refine blk_put (cs := #[.int .i64 0, .int .i64 0]) ?_ 0 _ rfl; (with_reducible repeat (first | refine blk_drewN ?_ _ | refine blk_drew ?_ | refine blk_alloc ?_ _)); exact BK124.out) hb); have n6_ := Aside0.mk (below_step (by repeat (first | (with_reducible first | exact HB.out | apply below_alloc | apply pw_below_drewN | apply below_drew1 | refine below_set ?_ GE120.out | refine below_set ?_ GE122.out | refine below_set ?_ GE124.out) | exact HB.out)) hb); clear HO_3; clear HO_4; clear HO_5; clear BK120; clear BK122; clear BK124; clear HB; have HO_3 := n0_; have HO_4 := n1_; have HO_5 := n2_; have BK120 := n3_; have BK122 := n4_; have BK124 := n5_; have HB := n6_; clear n0_ n1_ n2_ n3_ n4_ n5_ n6_; (try clear hb); (try clear hb2); (try clear hk); (try clear hi)))
               go_roundg k2
               case measure => have := HJ4.out; have := HK2.out; omega
               case rel => exact ⟨(wrap64 (x8_2 + 1)), (by first | rfl | (simp; done) | (simp [*]; done)), H', ⟨by have := HJ4.out; have := HK2.out; omega⟩, ⟨by (with_reducible repeat (first | apply Kd.R_alloc | apply Kd.R_drewN | apply Kd.R_drew)); exact Kd.R_mono HO_3.out (fun _ hk => ⟨hk.1.1.1.1, hk.1.1.1.2⟩)⟩, ⟨by (with_reducible repeat (first | apply Kd.R_alloc | apply Kd.R_drewN | apply Kd.R_drew)); exact Kd.R_mono HO_4.out (fun _ hk => ⟨hk.1.1.1.1, hk.1.1.1.2⟩)⟩, ⟨by (with_reducible repeat (first | apply Kd.R_alloc | apply Kd.R_drewN | apply Kd.R_drew)); exact Kd.R_mono HO_5.out (fun _ hk => ⟨hk.1.1.1.1, hk.1.1.1.2⟩)⟩, ⟨by repeat (first | (with_reducible first | exact HB.out | apply below_alloc | apply pw_below_drewN | apply below_drew1 | refine below_set ?_ GE120.out | refine below_set ?_ GE122.out | refine below_set ?_ GE124.out) | exact HB.out)⟩⟩
             ·rw [if_neg c35] at H; exact absurd H (by simp)
            ·rw [if_neg c34] at H; exact absurd H (by simp)
           ·rw [if_neg c33] at H; exact absurd H (by simp)
          ·rw [if_neg c32] at H; exact absurd H (by simp)
         ·rw [if_neg c30] at H; exact absurd H (by simp)
        ·rw [if_neg c29] at H; exact absurd H (by simp)
       ·rw [if_neg c27] at H
        have c27b0 : decide (x8_2 < (t104.length : Int)) = false := decide_eq_false c27; clear c27
        by_cases c81 : t116 = true
        ·subst c81
         have H1 : ((laws_luSame.f k2 t115 t101).bind fun t126 => (if t126 = true then (if 0 < (t104.length : Int) then (if 0 < (t101.length : Int) then (if (((rd_T38 t104 0).f0) == ((rd_T38 t101 0).f0) && (((rd_T38 t104 0).f1) == ((rd_T38 t101 0).f1))) = true then (if 0 ≤ (wrap64 ((t104.length : Int) - 1)) then (if (wrap64 ((t104.length : Int) - 1)) < (t104.length : Int) then (if 0 ≤ (wrap64 ((t101.length : Int) - 1)) then (if (wrap64 ((t101.length : Int) - 1)) < (t101.length : Int) then (if (((rd_T38 t104 (wrap64 ((t104.length : Int) - 1))).f0) == ((rd_T38 t101 (wrap64 ((t101.length : Int) - 1))).f0) && (((rd_T38 t104 (wrap64 ((t104.length : Int) - 1))).f1) == ((rd_T38 t101 (wrap64 ((t101.length : Int) - 1))).f1))) = true then ((laws_luPart.f k2 t104 t101).bind fun t131 => (some t131)) else (some false)) else (none)) else (none)) else (none)) else (none)) else (some false)) else (none)) else (none)) else (some false))) = some r := by rw [if_pos rfl] at H; exact H
         clear H; have H := H1; clear H1; replace H := Option.bind_eq_some_iff.mp H; obtain ⟨t126, A820, H⟩ := H; replace H : (if t126 = true then (if 0 < (t104.length : Int) then (if 0 < (t101.length : Int) then (if (((rd_T38 t104 0).f0) == ((rd_T38 t101 0).f0) && (((rd_T38 t104 0).f1) == ((rd_T38 t101 0).f1))) = true then (if 0 ≤ (wrap64 ((t104.length : Int) - 1)) then (if (wrap64 ((t104.length : Int) - 1)) < (t104.length : Int) then (if 0 ≤ (wrap64 ((t101.length : Int) - 1)) then (if (wrap64 ((t101.length : Int) - 1)) < (t101.length : Int) then (if (((rd_T38 t104 (wrap64 ((t104.length : Int) - 1))).f0) == ((rd_T38 t101 (wrap64 ((t101.length : Int) - 1))).f0) && (((rd_T38 t104 (wrap64 ((t104.length : Int) - 1))).f1) == ((rd_T38 t101 (wrap64 ((t101.length : Int) - 1))).f1))) = true then ((laws_luPart.f k2 t104 t101).bind fun t131 => (some t131)) else (some false)) else (none)) else (none)) else (none)) else (none)) else (some false)) else (none)) else (none)) else (some false)) = some r := H; have A82 := Aside0.mk A820; clear A820
         by_cases c83 : t126 = true
         ·subst c83
          have H1 : (if 0 < (t104.length : Int) then (if 0 < (t101.length : Int) then (if (((rd_T38 t104 0).f0) == ((rd_T38 t101 0).f0) && (((rd_T38 t104 0).f1) == ((rd_T38 t101 0).f1))) = true then (if 0 ≤ (wrap64 ((t104.length : Int) - 1)) then (if (wrap64 ((t104.length : Int) - 1)) < (t104.length : Int) then (if 0 ≤ (wrap64 ((t101.length : Int) - 1)) then (if (wrap64 ((t101.length : Int) - 1)) < (t101.length : Int) then (if (((rd_T38 t104 (wrap64 ((t104.length : Int) - 1))).f0) == ((rd_T38 t101 (wrap64 ((t101.length : Int) - 1))).f0) && (((rd_T38 t104 (wrap64 ((t104.length : Int) - 1))).f1) == ((rd_T38 t101 (wrap64 ((t101.length : Int) - 1))).f1))) = true then ((laws_luPart.f k2 t104 t101).bind fun t131 => (some t131)) else (some false)) else (none)) else (none)) else (none)) else (none)) else (some false)) else (none)) else (none)) = some r := by rw [if_pos rfl] at H; exact H
          clear H; have H := H1; clear H1
          by_cases c84 : 0 < (t104.length : Int)
          ·rw [if_pos c84] at H
           have c84b0 : decide (0 < (t104.length : Int)) = true := decide_eq_true c84; have c84b1 : decide (0 < t104.length) = true := decide_eq_true (by omega); clear c84
           by_cases c85 : 0 < (t101.length : Int)
           ·rw [if_pos c85] at H
            have c85b0 : decide (0 < (t101.length : Int)) = true := decide_eq_true c85; have c85b1 : decide (0 < t101.length) = true := decide_eq_true (by omega); clear c85
            by_cases c86 : (((rd_T38 t104 0).f0) == ((rd_T38 t101 0).f0) && (((rd_T38 t104 0).f1) == ((rd_T38 t101 0).f1))) = true
            ·rw [if_pos c86] at H
             have c86b0 : (((rd_T38 t104 0).f0) == ((rd_T38 t101 0).f0) && (((rd_T38 t104 0).f1) == ((rd_T38 t101 0).f1))) = true := c86; (try (have c86b1 : decide (((rd_T38 t104 0).f0) = ((rd_T38 t101 0).f0) && (((rd_T38 t104 0).f1) == ((rd_T38 t101 0).f1))) = true := by simpa using c86)); (try (have c86b2 : (((rd_T38 t104 0).f0) == ((rd_T38 t101 0).f0) && (((rd_T38 t104 0).f1) == ((rd_T38 t101 0).f1))) = true := by simpa using c86)); clear c86; obtain ⟨ji87, hji87⟩ : ∃ j_ : Int, (wrap64 ((t104.length : Int) - 1)) = j_ := ⟨_, rfl⟩
             replace H : (if 0 ≤ (ji87) then (if (ji87) < (t104.length : Int) then (if 0 ≤ (wrap64 ((t101.length : Int) - 1)) then (if (wrap64 ((t101.length : Int) - 1)) < (t101.length : Int) then (if (((rd_T38 t104 (ji87)).f0) == ((rd_T38 t101 (wrap64 ((t101.length : Int) - 1))).f0) && (((rd_T38 t104 (ji87)).f1) == ((rd_T38 t101 (wrap64 ((t101.length : Int) - 1))).f1))) = true then ((laws_luPart.f k2 t104 t101).bind fun t131 => (some t131)) else (some false)) else (none)) else (none)) else (none)) else (none)) = some r := by first | (rw [hji87] at H; exact H) | (simp only [hji87] at H ⊢; exact H)
             (try rw [hji87] at A82); have hji87w : (IntKind.i64.wrap ((t104.length : Int) - 1)) = ji87 := (i64_w _).trans hji87
             by_cases c88 : 0 ≤ (ji87)
             ·rw [if_pos c88] at H
              have c88b0 : decide (0 ≤ (ji87)) = true := decide_eq_true c88; clear c88
              by_cases c89 : (ji87) < (t104.length : Int)
              ·rw [if_pos c89] at H
               have c89b0 : decide ((ji87) < (t104.length : Int)) = true := decide_eq_true c89; clear c89; obtain ⟨ji90, hji90⟩ : ∃ j_ : Int, (wrap64 ((t101.length : Int) - 1)) = j_ := ⟨_, rfl⟩
               replace H : (if 0 ≤ (ji90) then (if (ji90) < (t101.length : Int) then (if (((rd_T38 t104 (ji87)).f0) == ((rd_T38 t101 (ji90)).f0) && (((rd_T38 t104 (ji87)).f1) == ((rd_T38 t101 (ji90)).f1))) = true then ((laws_luPart.f k2 t104 t101).bind fun t131 => (some t131)) else (some false)) else (none)) else (none)) = some r := by first | (rw [hji90] at H; exact H) | (simp only [hji90] at H ⊢; exact H)
               (try rw [hji90] at A82); have hji90w : (IntKind.i64.wrap ((t101.length : Int) - 1)) = ji90 := (i64_w _).trans hji90
               by_cases c91 : 0 ≤ (ji90)
               ·rw [if_pos c91] at H
                have c91b0 : decide (0 ≤ (ji90)) = true := decide_eq_true c91; clear c91
                by_cases c92 : (ji90) < (t101.length : Int)
                ·rw [if_pos c92] at H
                 have c92b0 : decide ((ji90) < (t101.length : Int)) = true := decide_eq_true c92; clear c92
                 by_cases c93 : (((rd_T38 t104 (ji87)).f0) == ((rd_T38 t101 (ji90)).f0) && (((rd_T38 t104 (ji87)).f1) == ((rd_T38 t101 (ji90)).f1))) = true
                 ·rw [if_pos c93] at H
                  have c93b0 : (((rd_T38 t104 (ji87)).f0) == ((rd_T38 t101 (ji90)).f0) && (((rd_T38 t104 (ji87)).f1) == ((rd_T38 t101 (ji90)).f1))) = true := c93; (try (have c93b1 : decide (((rd_T38 t104 (ji87)).f0) = ((rd_T38 t101 (ji90)).f0) && (((rd_T38 t104 (ji87)).f1) == ((rd_T38 t101 (ji90)).f1))) = true := by simpa using c93)); (try (have c93b2 : (((rd_T38 t104 (ji87)).f0) == ((rd_T38 t101 (ji90)).f0) && (((rd_T38 t104 (ji87)).f1) == ((rd_T38 t101 (ji90)).f1))) = true := by simpa using c93)); clear c93; replace H := Option.bind_eq_some_iff.mp H; obtain ⟨t131, A940, H⟩ := H; replace H : (some t131) = some r := H; have A94 := Aside0.mk A940; clear A940; obtain rfl := Option.some.inj H
                  try go_wp2
                  have n0_ := Aside0.mk (Kd.R_drew HO_3.out); have n1_ := Aside0.mk (Kd.R_drew HO_4.out); have n2_ := Aside0.mk (Kd.R_drew HO_5.out); have n3_ := Aside0.mk (below_drew1 HB.out); clear HO_3; clear HO_4; clear HO_5; clear HB; have HO_3 := n0_; have HO_4 := n1_; have HO_5 := n2_; have HB := n3_; clear n0_ n1_ n2_ n3_; obtain ⟨Ao96, co96, eo96⟩ := Kd.R_slice HO_5.out; (first | subst eo96 | (injection eo96 with f1_ f2_ f3_; have f4_ := f1_.symm; have f5_ := f3_.symm; clear f1_ f2_ f3_; subst f4_; subst f5_)); have p127 : 0 ≤ (0 : Int) := (by omega); have q127 : 0 < (t104.length : Int) := of_decide_eq_true (by first | (with_reducible assumption) | assumption); obtain ⟨ad127, e127, hx127_0, hx127_1⟩ := at_T38 (Kd.R_reads' HO_4.out).2.2 0 p127 q127
                  cases e127
                  have qi127 : (0 < t104.length) = True := eq_true (by omega); (try rw [show ((0 : Int)).toNat = 0 from rfl] at hx127_0); (try rw [show 0 * 2 = 0 from rfl] at hx127_0); (try rw [Addr.add_zero'] at hx127_0); (try rw [show ((0 : Int)).toNat = 0 from rfl] at hx127_1); (try rw [show 0 * 2 = 0 from rfl] at hx127_1); (try rw [Addr.add_zero'] at hx127_1); replace p127 := eq_true p127; replace q127 := eq_true q127; have p128 : 0 ≤ (0 : Int) := (by omega); have q128 : 0 < (t101.length : Int) := of_decide_eq_true (by first | (with_reducible assumption) | assumption); obtain ⟨ad128, e128, hx128_0, hx128_1⟩ := at_T38 (Kd.R_reads' HO_3.out).2.2 0 p128 q128
                  cases e128
                  have qi128 : (0 < t101.length) = True := eq_true (by omega); (try rw [show ((0 : Int)).toNat = 0 from rfl] at hx128_0); (try rw [show 0 * 2 = 0 from rfl] at hx128_0); (try rw [Addr.add_zero'] at hx128_0); (try rw [show ((0 : Int)).toNat = 0 from rfl] at hx128_1); (try rw [show 0 * 2 = 0 from rfl] at hx128_1); (try rw [Addr.add_zero'] at hx128_1); replace p128 := eq_true p128; replace q128 := eq_true q128; have p129 : 0 ≤ ((ji87) : Int) := of_decide_eq_true (by first | (with_reducible assumption) | assumption); have q129 : (ji87) < (t104.length : Int) := of_decide_eq_true (by first | (with_reducible assumption) | assumption); obtain ⟨ad129, e129, hx129_0, hx129_1⟩ := at_T38 (Kd.R_reads' HO_4.out).2.2 (ji87) p129 q129; obtain rfl : ad127 = ad129 := (by injection e129); replace p129 := eq_true p129; replace q129 := eq_true q129; have p130 : 0 ≤ ((ji90) : Int) := of_decide_eq_true (by first | (with_reducible assumption) | assumption); have q130 : (ji90) < (t101.length : Int) := of_decide_eq_true (by first | (with_reducible assumption) | assumption); obtain ⟨ad130, e130, hx130_0, hx130_1⟩ := at_T38 (Kd.R_reads' HO_3.out).2.2 (ji90) p130 q130; obtain rfl : ad128 = ad130 := (by injection e130); replace p130 := eq_true p130; replace q130 := eq_true q130; refine start_ (n := 35) (S := fun w' => w'.cell? ad127 = some (.int .i64 ((rd_T38 t104 0).f0)) ∧ w'.cell? ⟨ad127.block, ad127.off + 1, none⟩ = some (.int .i64 ((rd_T38 t104 0).f1)) ∧ w'.cell? ad128 = some (.int .i64 ((rd_T38 t101 0).f0)) ∧ w'.cell? ⟨ad128.block, ad128.off + 1, none⟩ = some (.int .i64 ((rd_T38 t101 0).f1)) ∧ w'.cell? (ad127.add (((ji87)).toNat * 2)) = some (.int .i64 ((rd_T38 t104 (ji87)).f0)) ∧ w'.cell? ⟨(ad127.add (((ji87)).toNat * 2)).block, (ad127.add (((ji87)).toNat * 2)).off + 1, none⟩ = some (.int .i64 ((rd_T38 t104 (ji87)).f1)) ∧ w'.cell? (ad128.add (((ji90)).toNat * 2)) = some (.int .i64 ((rd_T38 t101 (ji90)).f0)) ∧ w'.cell? ⟨(ad128.add (((ji90)).toNat * 2)).block, (ad128.add (((ji90)).toNat * 2)).off + 1, none⟩ = some (.int .i64 ((rd_T38 t101 (ji90)).f1))) (ds := []) #[n_,n_,n_,n_,n_,n_,n_,n_,n_,n_,n_,n_,n_,n_,n_,n_,n_,n_,n_,n_,n_,n_,n_,n_,n_,n_,n_,n_,n_,n_,n_,n_,n_,n_,n_] (by kernel_rfl) rfl rfl ⟨hx127_0, hx127_1, hx128_0, hx128_1, hx129_0, hx129_1, hx130_0, hx130_1⟩ (fun hHeld => ?_); refine with_tabW laws_FnTurns.tab17 laws_FnTurns.bits17 (fun HT_ HW_ => ?_); generalize wr.drew = w95 at HO_3 HO_4 HO_5 HB hx127_0 hx127_1 hx128_0 hx128_1 hx129_0 hx129_1 hx130_0 hx130_1 hHeld ⊢; refine pure_ (i := 0) (N := some 90) (v := ?_) (a' := ?_) #[y_,n_,n_,n_,n_,n_,n_,n_,n_,n_,n_,n_,n_,n_,n_,n_,n_,n_,n_,n_,n_,n_,n_,n_,n_,n_,n_,n_,n_,n_,n_,n_,n_,n_,n_] rfl rfl (any_of HT_.out (by kernel_rfl)) (fun _ _ _ h => h) (Or.inl ⟨by rfl, ?_⟩) ?_ ?_
                  rotate_left
                  ·intro w'; go_simp; with_reducible rfl
                  rotate_left
                  ·simp only [Act.put, List.setIfInBounds_toArray, List.set_cons_zero, List.set_cons_succ, i64_w, i32_w]; rfl
                  refine pure_ (i := 1) (N := some 91) (v := ?_) (a' := ?_) #[y_,y_,n_,n_,n_,n_,n_,n_,n_,n_,n_,n_,n_,n_,n_,n_,n_,n_,n_,n_,n_,n_,n_,n_,n_,n_,n_,n_,n_,n_,n_,n_,n_,n_,n_] rfl rfl (any_of HT_.out (by kernel_rfl)) (fun _ _ _ h => h) (Or.inl ⟨by rfl, ?_⟩) ?_ ?_
                  rotate_left
                  ·intro w'; go_simp; with_reducible rfl
                  rotate_left
                  ·simp only [Act.put, List.setIfInBounds_toArray, List.set_cons_zero, List.set_cons_succ, i64_w, i32_w]; rfl
                  refine pure_ (i := 2) (N := some 92) (v := ?_) (a' := ?_) #[y_,y_,y_,n_,n_,n_,n_,n_,n_,n_,n_,n_,n_,n_,n_,n_,n_,n_,n_,n_,n_,n_,n_,n_,n_,n_,n_,n_,n_,n_,n_,n_,n_,n_,n_] rfl rfl (any_of HT_.out (by kernel_rfl)) (fun _ _ _ h => h) (Or.inl ⟨by rfl, ?_⟩) ?_ ?_
                  rotate_left
                  ·intro w'; go_simp; with_reducible rfl
                  rotate_left
                  ·simp only [Act.put, List.setIfInBounds_toArray, List.set_cons_zero, List.set_cons_succ, i64_w, i32_w]; rfl
                  refine pure_ (i := 3) (N := some 93) (v := ?_) (a' := ?_) #[y_,y_,y_,y_,n_,n_,n_,n_,n_,n_,n_,n_,n_,n_,n_,n_,n_,n_,n_,n_,n_,n_,n_,n_,n_,n_,n_,n_,n_,n_,n_,n_,n_,n_,n_] rfl rfl (any_of HT_.out (by kernel_rfl)) (fun _ _ _ h => h) (Or.inl ⟨by rfl, ?_⟩) ?_ ?_
                  rotate_left
                  ·intro w'; go_simp; with_reducible rfl
                  rotate_left
                  ·simp only [Act.put, List.setIfInBounds_toArray, List.set_cons_zero, List.set_cons_succ, i64_w, i32_w]; rfl
                  refine one_ (i := 4) (N := some 94) #[y_,y_,y_,y_,y_,n_,n_,n_,n_,n_,n_,n_,n_,n_,n_,n_,n_,n_,n_,n_,n_,n_,n_,n_,n_,n_,n_,n_,n_,n_,n_,n_,n_,n_,n_] rfl rfl (one_of HT_.out (by kernel_rfl)) (by decide) (fun K hK => ?_); refine goes_ Try.func19 (by kernel_rfl) rfl #[.slice Ao96 t115.length co96, .slice (some ad128) t101.length co7] (by rfl) rfl rfl (by (try simp only [List.map_toArray, List.map_cons, List.map_nil]); first | done | rfl | (simp only [List.length_drop, List.length_take]; rfl)) ?_
                  with_reducible refine (laws_luSame.calls k2 _ _ t115 _ _ t101 true _ ?side1 ?side2 ?side3 ?side4 A82.out).mono ?_
                  (case side1 => repeat (first | exact (Kd.R_reads' HO_5.out).2.2 | (with_reducible refine Kd.C_alloc ?_ _) | (with_reducible refine Kd.C_drewN ?_ _) | (with_reducible refine Kd.C_drew ?_))); (case side2 => exact (Kd.R_reads' HO_5.out).2.1); (case side3 => repeat (first | exact (Kd.R_reads' HO_3.out).2.2 | (with_reducible refine Kd.C_alloc ?_ _) | (with_reducible refine Kd.C_drewN ?_ _) | (with_reducible refine Kd.C_drew ?_))); (case side4 => exact (Kd.R_reads' HO_3.out).2.1); rintro e w' ⟨rfl, ⟨nd, rfl⟩⟩; refine ⟨_, rfl, ?_⟩; refine hK.out _ _ ⟨hHeld.1, hHeld.2.1, hHeld.2.2.1, hHeld.2.2.2.1, hHeld.2.2.2.2.1, hHeld.2.2.2.2.2.1, hHeld.2.2.2.2.2.2.1, hHeld.2.2.2.2.2.2.2⟩ (fun hHeld => ?_); clear hK K; refine norm_ (a' := ?_) ?_ ?_
                  rotate_left
                  ·show Act.put _ (some 94) _ = _
                   simp only [Act.put, List.setIfInBounds_toArray, List.set_cons_zero, List.set_cons_succ, i64_w, i32_w]; rfl
                  refine pure_ (i := 5) (N := some 95) (v := ?_) (a' := ?_) #[y_,y_,y_,y_,y_,y_,n_,n_,n_,n_,n_,n_,n_,n_,n_,n_,n_,n_,n_,n_,n_,n_,n_,n_,n_,n_,n_,n_,n_,n_,n_,n_,n_,n_,n_] rfl rfl (any_of HT_.out (by kernel_rfl)) (fun _ _ _ h => h) (Or.inl ⟨by rfl, ?_⟩) ?_ ?_
                  rotate_left
                  ·intro w'; go_simp; with_reducible rfl
                  rotate_left
                  ·simp only [Act.put, List.setIfInBounds_toArray, List.set_cons_zero, List.set_cons_succ, i64_w, i32_w]; rfl
                  refine pure_ (i := 6) (N := some 96) (v := ?_) (a' := ?_) #[y_,y_,y_,y_,y_,y_,y_,n_,n_,n_,n_,n_,n_,n_,n_,n_,n_,n_,n_,n_,n_,n_,n_,n_,n_,n_,n_,n_,n_,n_,n_,n_,n_,n_,n_] rfl rfl (any_of HT_.out (by kernel_rfl)) (fun _ _ _ h => h) (Or.inl ⟨by rfl, ?_⟩) ?_ ?_
                  rotate_left
                  ·intro w'; go_simp; with_reducible rfl
                  rotate_left
                  ·simp only [Act.put, List.setIfInBounds_toArray, List.set_cons_zero, List.set_cons_succ, i64_w, i32_w]; rfl
                  refine pure_ (i := 7) (N := some 97) (v := ?_) (a' := ?_) #[y_,y_,y_,y_,y_,y_,y_,y_,n_,n_,n_,n_,n_,n_,n_,n_,n_,n_,n_,n_,n_,n_,n_,n_,n_,n_,n_,n_,n_,n_,n_,n_,n_,n_,n_] rfl rfl (any_of HT_.out (by kernel_rfl)) (fun _ _ _ h => h) (Or.inl ⟨by rfl, ?_⟩) ?_ ?_
                  rotate_left
                  ·intro w'; go_simp; with_reducible rfl
                  rotate_left
                  ·simp only [Act.put, List.setIfInBounds_toArray, List.set_cons_zero, List.set_cons_succ, i64_w, i32_w]; rfl
                  refine pure_ (i := 8) (N := some 98) (v := ?_) (a' := ?_) #[y_,y_,y_,y_,y_,y_,y_,y_,y_,n_,n_,n_,n_,n_,n_,n_,n_,n_,n_,n_,n_,n_,n_,n_,n_,n_,n_,n_,n_,n_,n_,n_,n_,n_,n_] rfl rfl (any_of HT_.out (by kernel_rfl)) (fun _ _ _ h => h) (Or.inl ⟨by rfl, ?_⟩) ?_ ?_
                  rotate_left
                  ·intro w'; go_simp; with_reducible rfl
                  rotate_left
                  ·simp only [Act.put, List.setIfInBounds_toArray, List.set_cons_zero, List.set_cons_succ, i64_w, i32_w]; rfl
                  refine pure_ (i := 10) (N := some 100) (v := ?_) (a' := ?_) #[y_,y_,y_,y_,y_,y_,y_,y_,y_,n_,y_,n_,n_,n_,n_,n_,n_,n_,n_,n_,n_,n_,n_,n_,n_,n_,n_,n_,n_,n_,n_,n_,n_,n_,n_] rfl rfl (any_of HT_.out (by kernel_rfl)) (fun _ _ _ h => h) (Or.inl ⟨by rfl, ?_⟩) ?_ ?_
                  rotate_left
                  ·intro w'; go_simp; with_reducible rfl
                  rotate_left
                  ·simp only [Act.put, List.setIfInBounds_toArray, List.set_cons_zero, List.set_cons_succ, i64_w, i32_w]; rfl
                  refine pure_ (i := 11) (N := some 101) (v := ?_) (a' := ?_) #[y_,y_,y_,y_,y_,y_,y_,y_,y_,n_,y_,y_,n_,n_,n_,n_,n_,n_,n_,n_,n_,n_,n_,n_,n_,n_,n_,n_,n_,n_,n_,n_,n_,n_,n_] rfl rfl (any_of HT_.out (by kernel_rfl)) (fun _ _ _ h => h) (Or.inl ⟨by rfl, ?_⟩) ?_ ?_
                  rotate_left
                  ·intro w'; go_simp; with_reducible rfl
                  rotate_left
                  ·simp only [Act.put, List.setIfInBounds_toArray, List.set_cons_zero, List.set_cons_succ, i64_w, i32_w]; rfl
                  refine take_ (i := 9) (N := some 99) (v := ?_) (a' := ?_) #[y_,y_,y_,y_,y_,y_,y_,y_,y_,y_,y_,y_,n_,n_,n_,n_,n_,n_,n_,n_,n_,n_,n_,n_,n_,n_,n_,n_,n_,n_,n_,n_,n_,n_,n_] rfl rfl (take_ofW HT_.out HW_.out (by kernel_rfl)) (fun _ _ _ h => h) (Or.inl ⟨by rfl, ?_⟩) hHeld ?_ ?_
                  rotate_left
                  ·rintro w' ⟨s0, s1, s2, s3, s4, s5, s6, s7⟩; go_simp; with_reducible rfl
                  rotate_left
                  ·simp only [Act.put, List.setIfInBounds_toArray, List.set_cons_zero, List.set_cons_succ, i64_w, i32_w]; rfl
                  refine take_ (i := 12) (N := some 102) (v := ?_) (a' := ?_) #[y_,y_,y_,y_,y_,y_,y_,y_,y_,y_,y_,y_,y_,n_,n_,n_,n_,n_,n_,n_,n_,n_,n_,n_,n_,n_,n_,n_,n_,n_,n_,n_,n_,n_,n_] rfl rfl (take_ofW HT_.out HW_.out (by kernel_rfl)) (fun _ _ _ h => h) (Or.inl ⟨by rfl, ?_⟩) hHeld ?_ ?_
                  rotate_left
                  ·rintro w' ⟨s0, s1, s2, s3, s4, s5, s6, s7⟩; go_simp; with_reducible rfl
                  rotate_left
                  ·simp only [Act.put, List.setIfInBounds_toArray, List.set_cons_zero, List.set_cons_succ, i64_w, i32_w]; rfl
                  refine pure_ (i := 13) (N := some 103) (v := ?_) (a' := ?_) #[y_,y_,y_,y_,y_,y_,y_,y_,y_,y_,y_,y_,y_,y_,n_,n_,n_,n_,n_,n_,n_,n_,n_,n_,n_,n_,n_,n_,n_,n_,n_,n_,n_,n_,n_] rfl rfl (any_of HT_.out (by kernel_rfl)) (fun _ _ _ h => h) (Or.inl ⟨by rfl, ?_⟩) ?_ ?_
                  rotate_left
                  ·intro w'; go_simp; with_reducible rfl
                  rotate_left
                  ·simp only [Act.put, List.setIfInBounds_toArray, List.set_cons_zero, List.set_cons_succ, i64_w, i32_w]; rfl
                  refine pure_ (i := 14) (N := some 104) (v := ?_) (a' := ?_) #[y_,y_,y_,y_,y_,y_,y_,y_,y_,y_,y_,y_,y_,y_,y_,n_,n_,n_,n_,n_,n_,n_,n_,n_,n_,n_,n_,n_,n_,n_,n_,n_,n_,n_,n_] rfl rfl (any_of HT_.out (by kernel_rfl)) (fun _ _ _ h => h) (Or.inl ⟨by rfl, ?_⟩) ?_ ?_
                  rotate_left
                  ·intro w'; go_simp; with_reducible rfl
                  rotate_left
                  ·simp only [Act.put, List.setIfInBounds_toArray, List.set_cons_zero, List.set_cons_succ, i64_w, i32_w]; rfl
                  refine pure_ (i := 15) (N := some 105) (v := ?_) (a' := ?_) #[y_,y_,y_,y_,y_,y_,y_,y_,y_,y_,y_,y_,y_,y_,y_,y_,n_,n_,n_,n_,n_,n_,n_,n_,n_,n_,n_,n_,n_,n_,n_,n_,n_,n_,n_] rfl rfl (any_of HT_.out (by kernel_rfl)) (fun _ _ _ h => h) (Or.inl ⟨by rfl, ?_⟩) ?_ ?_
                  rotate_left
                  ·intro w'; go_simp; with_reducible rfl
                  rotate_left
                  ·simp only [Act.put, List.setIfInBounds_toArray, List.set_cons_zero, List.set_cons_succ, i64_w, i32_w]; rfl
                  refine pure_ (i := 16) (N := some 106) (v := ?_) (a' := ?_) #[y_,y_,y_,y_,y_,y_,y_,y_,y_,y_,y_,y_,y_,y_,y_,y_,y_,n_,n_,n_,n_,n_,n_,n_,n_,n_,n_,n_,n_,n_,n_,n_,n_,n_,n_] rfl rfl (any_of HT_.out (by kernel_rfl)) (fun _ _ _ h => h) (Or.inl ⟨by rfl, ?_⟩) ?_ ?_
                  rotate_left
                  ·intro w'; go_simp; with_reducible rfl
                  rotate_left
                  ·simp only [Act.put, List.setIfInBounds_toArray, List.set_cons_zero, List.set_cons_succ, i64_w, i32_w]; rfl
                  refine pure_ (i := 17) (N := some 107) (v := ?_) (a' := ?_) #[y_,y_,y_,y_,y_,y_,y_,y_,y_,y_,y_,y_,y_,y_,y_,y_,y_,y_,n_,n_,n_,n_,n_,n_,n_,n_,n_,n_,n_,n_,n_,n_,n_,n_,n_] rfl rfl (any_of HT_.out (by kernel_rfl)) (fun _ _ _ h => h) (Or.inl ⟨by rfl, ?_⟩) ?_ ?_
                  rotate_left
                  ·intro w'; go_simp; with_reducible rfl
                  rotate_left
                  ·simp only [Act.put, List.setIfInBounds_toArray, List.set_cons_zero, List.set_cons_succ, i64_w, i32_w]; rfl
                  refine pure_ (i := 18) (N := some 108) (v := ?_) (a' := ?_) #[y_,y_,y_,y_,y_,y_,y_,y_,y_,y_,y_,y_,y_,y_,y_,y_,y_,y_,y_,n_,n_,n_,n_,n_,n_,n_,n_,n_,n_,n_,n_,n_,n_,n_,n_] rfl rfl (any_of HT_.out (by kernel_rfl)) (fun _ _ _ h => h) (Or.inl ⟨by rfl, ?_⟩) ?_ ?_
                  rotate_left
                  ·intro w'; go_simp; with_reducible rfl
                  rotate_left
                  ·simp only [Act.put, List.setIfInBounds_toArray, List.set_cons_zero, List.set_cons_succ, i64_w, i32_w]; rfl
                  refine pure_ (i := 19) (N := some 109) (v := ?_) (a' := ?_) #[y_,y_,y_,y_,y_,y_,y_,y_,y_,y_,y_,y_,y_,y_,y_,y_,y_,y_,y_,y_,n_,n_,n_,n_,n_,n_,n_,n_,n_,n_,n_,n_,n_,n_,n_] rfl rfl (any_of HT_.out (by kernel_rfl)) (fun _ _ _ h => h) (Or.inl ⟨by rfl, ?_⟩) ?_ ?_
                  rotate_left
                  ·intro w'; go_simp; with_reducible rfl
                  rotate_left
                  ·simp only [Act.put, List.setIfInBounds_toArray, List.set_cons_zero, List.set_cons_succ, i64_w, i32_w]; rfl
                  refine pure_ (i := 21) (N := some 111) (v := ?_) (a' := ?_) #[y_,y_,y_,y_,y_,y_,y_,y_,y_,y_,y_,y_,y_,y_,y_,y_,y_,y_,y_,y_,n_,y_,n_,n_,n_,n_,n_,n_,n_,n_,n_,n_,n_,n_,n_] rfl rfl (any_of HT_.out (by kernel_rfl)) (fun _ _ _ h => h) (Or.inl ⟨by rfl, ?_⟩) ?_ ?_
                  rotate_left
                  ·intro w'; go_simp; with_reducible rfl
                  rotate_left
                  ·simp only [Act.put, List.setIfInBounds_toArray, List.set_cons_zero, List.set_cons_succ, i64_w, i32_w]; rfl
                  refine pure_ (i := 22) (N := some 112) (v := ?_) (a' := ?_) #[y_,y_,y_,y_,y_,y_,y_,y_,y_,y_,y_,y_,y_,y_,y_,y_,y_,y_,y_,y_,n_,y_,y_,n_,n_,n_,n_,n_,n_,n_,n_,n_,n_,n_,n_] rfl rfl (any_of HT_.out (by kernel_rfl)) (fun _ _ _ h => h) (Or.inl ⟨by rfl, ?_⟩) ?_ ?_
                  rotate_left
                  ·intro w'; go_simp; with_reducible rfl
                  rotate_left
                  ·simp only [Act.put, List.setIfInBounds_toArray, List.set_cons_zero, List.set_cons_succ, i64_w, i32_w]; rfl
                  refine pure_ (i := 23) (N := some 113) (v := ?_) (a' := ?_) #[y_,y_,y_,y_,y_,y_,y_,y_,y_,y_,y_,y_,y_,y_,y_,y_,y_,y_,y_,y_,n_,y_,y_,y_,n_,n_,n_,n_,n_,n_,n_,n_,n_,n_,n_] rfl rfl (any_of HT_.out (by kernel_rfl)) (fun _ _ _ h => h) (Or.inl ⟨by rfl, ?_⟩) ?_ ?_
                  rotate_left
                  ·intro w'; go_simp; with_reducible rfl
                  rotate_left
                  ·simp only [Act.put, List.setIfInBounds_toArray, List.set_cons_zero, List.set_cons_succ, i64_w, i32_w]; rfl
                  refine pure_ (i := 24) (N := some 114) (v := ?_) (a' := ?_) #[y_,y_,y_,y_,y_,y_,y_,y_,y_,y_,y_,y_,y_,y_,y_,y_,y_,y_,y_,y_,n_,y_,y_,y_,y_,n_,n_,n_,n_,n_,n_,n_,n_,n_,n_] rfl rfl (any_of HT_.out (by kernel_rfl)) (fun _ _ _ h => h) (Or.inl ⟨by rfl, ?_⟩) ?_ ?_
                  rotate_left
                  ·intro w'; go_simp; with_reducible rfl
                  rotate_left
                  ·simp only [Act.put, List.setIfInBounds_toArray, List.set_cons_zero, List.set_cons_succ, i64_w, i32_w]; rfl
                  refine pure_ (i := 25) (N := some 115) (v := ?_) (a' := ?_) #[y_,y_,y_,y_,y_,y_,y_,y_,y_,y_,y_,y_,y_,y_,y_,y_,y_,y_,y_,y_,n_,y_,y_,y_,y_,y_,n_,n_,n_,n_,n_,n_,n_,n_,n_] rfl rfl (any_of HT_.out (by kernel_rfl)) (fun _ _ _ h => h) (Or.inl ⟨by rfl, ?_⟩) ?_ ?_
                  rotate_left
                  ·intro w'; go_simp; with_reducible rfl
                  rotate_left
                  ·simp only [Act.put, List.setIfInBounds_toArray, List.set_cons_zero, List.set_cons_succ, i64_w, i32_w]; rfl
                  refine take_ (i := 20) (N := some 110) (v := ?_) (a' := ?_) #[y_,y_,y_,y_,y_,y_,y_,y_,y_,y_,y_,y_,y_,y_,y_,y_,y_,y_,y_,y_,y_,y_,y_,y_,y_,y_,n_,n_,n_,n_,n_,n_,n_,n_,n_] rfl rfl (take_ofW HT_.out HW_.out (by kernel_rfl)) (fun _ _ _ h => h) (Or.inl ⟨by rfl, ?_⟩) hHeld ?_ ?_
                  rotate_left
                  ·rintro w' ⟨s0, s1, s2, s3, s4, s5, s6, s7⟩; go_simp; with_reducible rfl
                  rotate_left
                  ·simp only [Act.put, List.setIfInBounds_toArray, List.set_cons_zero, List.set_cons_succ, i64_w, i32_w]; rfl
                  refine take_ (i := 26) (N := some 116) (v := ?_) (a' := ?_) #[y_,y_,y_,y_,y_,y_,y_,y_,y_,y_,y_,y_,y_,y_,y_,y_,y_,y_,y_,y_,y_,y_,y_,y_,y_,y_,y_,n_,n_,n_,n_,n_,n_,n_,n_] rfl rfl (take_ofW HT_.out HW_.out (by kernel_rfl)) (fun _ _ _ h => h) (Or.inl ⟨by rfl, ?_⟩) hHeld ?_ ?_
                  rotate_left
                  ·rintro w' ⟨s0, s1, s2, s3, s4, s5, s6, s7⟩; go_simp; with_reducible rfl
                  rotate_left
                  ·simp only [Act.put, List.setIfInBounds_toArray, List.set_cons_zero, List.set_cons_succ, i64_w, i32_w]; rfl
                  refine pure_ (i := 27) (N := some 117) (v := ?_) (a' := ?_) #[y_,y_,y_,y_,y_,y_,y_,y_,y_,y_,y_,y_,y_,y_,y_,y_,y_,y_,y_,y_,y_,y_,y_,y_,y_,y_,y_,y_,n_,n_,n_,n_,n_,n_,n_] rfl rfl (any_of HT_.out (by kernel_rfl)) (fun _ _ _ h => h) (Or.inl ⟨by rfl, ?_⟩) ?_ ?_
                  rotate_left
                  ·intro w'; go_simp; with_reducible rfl
                  rotate_left
                  ·simp only [Act.put, List.setIfInBounds_toArray, List.set_cons_zero, List.set_cons_succ, i64_w, i32_w]; rfl
                  refine pure_ (i := 28) (N := some 118) (v := ?_) (a' := ?_) #[y_,y_,y_,y_,y_,y_,y_,y_,y_,y_,y_,y_,y_,y_,y_,y_,y_,y_,y_,y_,y_,y_,y_,y_,y_,y_,y_,y_,y_,n_,n_,n_,n_,n_,n_] rfl rfl (any_of HT_.out (by kernel_rfl)) (fun _ _ _ h => h) (Or.inl ⟨by rfl, ?_⟩) ?_ ?_
                  rotate_left
                  ·intro w'; go_simp; with_reducible rfl
                  rotate_left
                  ·simp only [Act.put, List.setIfInBounds_toArray, List.set_cons_zero, List.set_cons_succ, i64_w, i32_w]; rfl
                  refine pure_ (i := 29) (N := some 119) (v := ?_) (a' := ?_) #[y_,y_,y_,y_,y_,y_,y_,y_,y_,y_,y_,y_,y_,y_,y_,y_,y_,y_,y_,y_,y_,y_,y_,y_,y_,y_,y_,y_,y_,y_,n_,n_,n_,n_,n_] rfl rfl (any_of HT_.out (by kernel_rfl)) (fun _ _ _ h => h) (Or.inl ⟨by rfl, ?_⟩) ?_ ?_
                  rotate_left
                  ·intro w'; go_simp; with_reducible rfl
                  rotate_left
                  ·simp only [Act.put, List.setIfInBounds_toArray, List.set_cons_zero, List.set_cons_succ, i64_w, i32_w]; rfl
                  refine pure_ (i := 30) (N := some 120) (v := ?_) (a' := ?_) #[y_,y_,y_,y_,y_,y_,y_,y_,y_,y_,y_,y_,y_,y_,y_,y_,y_,y_,y_,y_,y_,y_,y_,y_,y_,y_,y_,y_,y_,y_,y_,n_,n_,n_,n_] rfl rfl (any_of HT_.out (by kernel_rfl)) (fun _ _ _ h => h) (Or.inl ⟨by rfl, ?_⟩) ?_ ?_
                  rotate_left
                  ·intro w'; go_simp; with_reducible rfl
                  rotate_left
                  ·simp only [Act.put, List.setIfInBounds_toArray, List.set_cons_zero, List.set_cons_succ, i64_w, i32_w]; rfl
                  refine pure_ (i := 31) (N := some 121) (v := ?_) (a' := ?_) #[y_,y_,y_,y_,y_,y_,y_,y_,y_,y_,y_,y_,y_,y_,y_,y_,y_,y_,y_,y_,y_,y_,y_,y_,y_,y_,y_,y_,y_,y_,y_,y_,n_,n_,n_] rfl rfl (any_of HT_.out (by kernel_rfl)) (fun _ _ _ h => h) (Or.inl ⟨by rfl, ?_⟩) ?_ ?_
                  rotate_left
                  ·intro w'; go_simp; with_reducible rfl
                  rotate_left
                  ·simp only [Act.put, List.setIfInBounds_toArray, List.set_cons_zero, List.set_cons_succ, i64_w, i32_w]; rfl
                  refine one_ (i := 32) (N := some 122) #[y_,y_,y_,y_,y_,y_,y_,y_,y_,y_,y_,y_,y_,y_,y_,y_,y_,y_,y_,y_,y_,y_,y_,y_,y_,y_,y_,y_,y_,y_,y_,y_,y_,n_,n_] rfl rfl (one_of HT_.out (by kernel_rfl)) (by decide) (fun K hK => ?_); refine goes_ Try.func25 (by kernel_rfl) rfl #[.slice (some ad127) t104.length co25, .slice (some ad128) t101.length co7] (by rfl) rfl rfl (by (try simp only [List.map_toArray, List.map_cons, List.map_nil]); first | done | rfl | (simp only [List.length_drop, List.length_take]; rfl)) ?_
                  with_reducible refine (laws_luPart.calls k2 _ _ t104 _ _ t101 t131 _ ?side1 ?side2 ?side3 ?side4 A94.out).mono ?_
                  (case side1 => repeat (first | exact (Kd.R_reads' HO_4.out).2.2 | (with_reducible refine Kd.C_alloc ?_ _) | (with_reducible refine Kd.C_drewN ?_ _) | (with_reducible refine Kd.C_drew ?_))); (case side2 => exact (Kd.R_reads' HO_4.out).2.1); (case side3 => repeat (first | exact (Kd.R_reads' HO_3.out).2.2 | (with_reducible refine Kd.C_alloc ?_ _) | (with_reducible refine Kd.C_drewN ?_ _) | (with_reducible refine Kd.C_drew ?_))); (case side4 => exact (Kd.R_reads' HO_3.out).2.1); rintro e w97 ⟨rfl, hb⟩; have HS0_ := (hb.cell (World.block_lt_of_cell? _ _ (hHeld.1))).trans (hHeld.1); have HS1_ := (hb.cell (World.block_lt_of_cell? _ _ (hHeld.2.1))).trans (hHeld.2.1); have HS2_ := (hb.cell (World.block_lt_of_cell? _ _ (hHeld.2.2.1))).trans (hHeld.2.2.1); have HS3_ := (hb.cell (World.block_lt_of_cell? _ _ (hHeld.2.2.2.1))).trans (hHeld.2.2.2.1); have HS4_ := (hb.cell (World.block_lt_of_cell? _ _ (hHeld.2.2.2.2.1))).trans (hHeld.2.2.2.2.1); have HS5_ := (hb.cell (World.block_lt_of_cell? _ _ (hHeld.2.2.2.2.2.1))).trans (hHeld.2.2.2.2.2.1); have HS6_ := (hb.cell (World.block_lt_of_cell? _ _ (hHeld.2.2.2.2.2.2.1))).trans (hHeld.2.2.2.2.2.2.1); have HS7_ := (hb.cell (World.block_lt_of_cell? _ _ (hHeld.2.2.2.2.2.2.2))).trans (hHeld.2.2.2.2.2.2.2); refine ⟨_, rfl, ?_⟩; have n0_ := Aside0.mk (Kd.R_below (by (with_reducible repeat (first | apply Kd.R_alloc | apply Kd.R_drewN | apply Kd.R_drew)); exact HO_3.out) hb); have n1_ := Aside0.mk (Kd.R_below (by (with_reducible repeat (first | apply Kd.R_alloc | apply Kd.R_drewN | apply Kd.R_drew)); exact HO_4.out) hb); have n2_ := Aside0.mk (Kd.R_below (by (with_reducible repeat (first | apply Kd.R_alloc | apply Kd.R_drewN | apply Kd.R_drew)); exact HO_5.out) hb); have n3_ := Aside0.mk (below_step (by repeat (first | (with_reducible first | exact HB.out | apply below_alloc | apply pw_below_drewN | apply below_drew1) | exact HB.out)) hb); clear HO_3; clear HO_4; clear HO_5; clear HB; have HO_3 := n0_; have HO_4 := n1_; have HO_5 := n2_; have HB := n3_; clear n0_ n1_ n2_ n3_; (try clear hb); (try clear hb2); (try clear hk); (try clear hi); refine hK.out _ _ ⟨HS0_, HS1_, HS2_, HS3_, HS4_, HS5_, HS6_, HS7_⟩ (fun hHeld => ?_); clear hK K; refine norm_ (a' := ?_) ?_ ?_
                  rotate_left
                  ·show Act.put _ (some 122) _ = _
                   simp only [Act.put, List.setIfInBounds_toArray, List.set_cons_zero, List.set_cons_succ, i64_w, i32_w]; rfl
                  refine pure_ (i := 33) (N := some 123) (v := ?_) (a' := ?_) #[y_,y_,y_,y_,y_,y_,y_,y_,y_,y_,y_,y_,y_,y_,y_,y_,y_,y_,y_,y_,y_,y_,y_,y_,y_,y_,y_,y_,y_,y_,y_,y_,y_,y_,n_] rfl rfl (any_of HT_.out (by kernel_rfl)) (fun _ _ _ h => h) (Or.inl ⟨by rfl, ?_⟩) ?_ ?_
                  rotate_left
                  ·intro w'; go_simp; with_reducible rfl
                  rotate_left
                  ·simp only [Act.put, List.setIfInBounds_toArray, List.set_cons_zero, List.set_cons_succ, i64_w, i32_w]; rfl
                  refine pure_ (i := 34) (N := some 2) (v := ?_) (a' := ?_) #[y_,y_,y_,y_,y_,y_,y_,y_,y_,y_,y_,y_,y_,y_,y_,y_,y_,y_,y_,y_,y_,y_,y_,y_,y_,y_,y_,y_,y_,y_,y_,y_,y_,y_,y_] rfl rfl (any_of HT_.out (by kernel_rfl)) (fun _ _ _ h => h) (Or.inl ⟨by rfl, ?_⟩) ?_ ?_
                  rotate_left
                  ·intro w'; go_simp; with_reducible rfl
                  rotate_left
                  ·simp only [Act.put, List.setIfInBounds_toArray, List.set_cons_zero, List.set_cons_succ, i64_w, i32_w]; rfl
                  refine done_ (done_of HT_.out (by kernel_rfl)) ?_
                  try go_wp2
                  go_ret
                  exact ⟨by first | rfl | (simp [errW_none, errW_some] <;> rfl) | (simp only [← hji87, ← hji90]; first | rfl | (simp [errW_none, errW_some] <;> rfl)) | (simp [*, errW_none, errW_some] <;> rfl), by repeat (first | (with_reducible first | exact HB.out | apply below_alloc | apply pw_below_drewN | apply below_drew1) | exact HB.out)⟩
                 ·rw [if_neg c93] at H
                  have c93b0 : (((rd_T38 t104 (ji87)).f0) == ((rd_T38 t101 (ji90)).f0) && (((rd_T38 t104 (ji87)).f1) == ((rd_T38 t101 (ji90)).f1))) = false := by simpa using c93
                  (try (have c93b1 : decide (((rd_T38 t104 (ji87)).f0) = ((rd_T38 t101 (ji90)).f0) && (((rd_T38 t104 (ji87)).f1) == ((rd_T38 t101 (ji90)).f1))) = false := by simpa using c93)); (try (have c93b2 : (((rd_T38 t104 (ji87)).f0) == ((rd_T38 t101 (ji90)).f0) && (((rd_T38 t104 (ji87)).f1) == ((rd_T38 t101 (ji90)).f1))) = false := by simpa using c93)); (try (have c93b3 : ¬ (((rd_T38 t104 (ji87)).f0) = ((rd_T38 t101 (ji90)).f0) && (((rd_T38 t104 (ji87)).f1) == ((rd_T38 t101 (ji90)).f1))) := by simpa using c93)); clear c93; obtain rfl := Option.some.inj H
                  try go_wp2
                  have n0_ := Aside0.mk (Kd.R_drew HO_3.out); have n1_ := Aside0.mk (Kd.R_drew HO_4.out); have n2_ := Aside0.mk (Kd.R_drew HO_5.out); have n3_ := Aside0.mk (below_drew1 HB.out); clear HO_3; clear HO_4; clear HO_5; clear HB; have HO_3 := n0_; have HO_4 := n1_; have HO_5 := n2_; have HB := n3_; clear n0_ n1_ n2_ n3_; obtain ⟨Ao99, co99, eo99⟩ := Kd.R_slice HO_5.out; (first | subst eo99 | (injection eo99 with f1_ f2_ f3_; have f4_ := f1_.symm; have f5_ := f3_.symm; clear f1_ f2_ f3_; subst f4_; subst f5_)); have p127 : 0 ≤ (0 : Int) := (by omega); have q127 : 0 < (t104.length : Int) := of_decide_eq_true (by first | (with_reducible assumption) | assumption); obtain ⟨ad127, e127, hx127_0, hx127_1⟩ := at_T38 (Kd.R_reads' HO_4.out).2.2 0 p127 q127
                  cases e127
                  have qi127 : (0 < t104.length) = True := eq_true (by omega); (try rw [show ((0 : Int)).toNat = 0 from rfl] at hx127_0); (try rw [show 0 * 2 = 0 from rfl] at hx127_0); (try rw [Addr.add_zero'] at hx127_0); (try rw [show ((0 : Int)).toNat = 0 from rfl] at hx127_1); (try rw [show 0 * 2 = 0 from rfl] at hx127_1); (try rw [Addr.add_zero'] at hx127_1); replace p127 := eq_true p127; replace q127 := eq_true q127; have p128 : 0 ≤ (0 : Int) := (by omega); have q128 : 0 < (t101.length : Int) := of_decide_eq_true (by first | (with_reducible assumption) | assumption); obtain ⟨ad128, e128, hx128_0, hx128_1⟩ := at_T38 (Kd.R_reads' HO_3.out).2.2 0 p128 q128
                  cases e128
                  have qi128 : (0 < t101.length) = True := eq_true (by omega); (try rw [show ((0 : Int)).toNat = 0 from rfl] at hx128_0); (try rw [show 0 * 2 = 0 from rfl] at hx128_0); (try rw [Addr.add_zero'] at hx128_0); (try rw [show ((0 : Int)).toNat = 0 from rfl] at hx128_1); (try rw [show 0 * 2 = 0 from rfl] at hx128_1); (try rw [Addr.add_zero'] at hx128_1); replace p128 := eq_true p128; replace q128 := eq_true q128; have p129 : 0 ≤ ((ji87) : Int) := of_decide_eq_true (by first | (with_reducible assumption) | assumption); have q129 : (ji87) < (t104.length : Int) := of_decide_eq_true (by first | (with_reducible assumption) | assumption); obtain ⟨ad129, e129, hx129_0, hx129_1⟩ := at_T38 (Kd.R_reads' HO_4.out).2.2 (ji87) p129 q129; obtain rfl : ad127 = ad129 := (by injection e129); replace p129 := eq_true p129; replace q129 := eq_true q129; have p130 : 0 ≤ ((ji90) : Int) := of_decide_eq_true (by first | (with_reducible assumption) | assumption); have q130 : (ji90) < (t101.length : Int) := of_decide_eq_true (by first | (with_reducible assumption) | assumption); obtain ⟨ad130, e130, hx130_0, hx130_1⟩ := at_T38 (Kd.R_reads' HO_3.out).2.2 (ji90) p130 q130; obtain rfl : ad128 = ad130 := (by injection e130); replace p130 := eq_true p130; replace q130 := eq_true q130; refine start_ (n := 35) (S := fun w' => w'.cell? ad127 = some (.int .i64 ((rd_T38 t104 0).f0)) ∧ w'.cell? ⟨ad127.block, ad127.off + 1, none⟩ = some (.int .i64 ((rd_T38 t104 0).f1)) ∧ w'.cell? ad128 = some (.int .i64 ((rd_T38 t101 0).f0)) ∧ w'.cell? ⟨ad128.block, ad128.off + 1, none⟩ = some (.int .i64 ((rd_T38 t101 0).f1)) ∧ w'.cell? (ad127.add (((ji87)).toNat * 2)) = some (.int .i64 ((rd_T38 t104 (ji87)).f0)) ∧ w'.cell? ⟨(ad127.add (((ji87)).toNat * 2)).block, (ad127.add (((ji87)).toNat * 2)).off + 1, none⟩ = some (.int .i64 ((rd_T38 t104 (ji87)).f1)) ∧ w'.cell? (ad128.add (((ji90)).toNat * 2)) = some (.int .i64 ((rd_T38 t101 (ji90)).f0)) ∧ w'.cell? ⟨(ad128.add (((ji90)).toNat * 2)).block, (ad128.add (((ji90)).toNat * 2)).off + 1, none⟩ = some (.int .i64 ((rd_T38 t101 (ji90)).f1))) (ds := []) #[n_,n_,n_,n_,n_,n_,n_,n_,n_,n_,n_,n_,n_,n_,n_,n_,n_,n_,n_,n_,n_,n_,n_,n_,n_,n_,n_,n_,n_,n_,n_,n_,n_,n_,n_] (by kernel_rfl) rfl rfl ⟨hx127_0, hx127_1, hx128_0, hx128_1, hx129_0, hx129_1, hx130_0, hx130_1⟩ (fun hHeld => ?_); refine with_tabW laws_FnTurns.tab17 laws_FnTurns.bits17 (fun HT_ HW_ => ?_); generalize wr.drew = w98 at HO_3 HO_4 HO_5 HB hx127_0 hx127_1 hx128_0 hx128_1 hx129_0 hx129_1 hx130_0 hx130_1 hHeld ⊢; refine pure_ (i := 0) (N := some 90) (v := ?_) (a' := ?_) #[y_,n_,n_,n_,n_,n_,n_,n_,n_,n_,n_,n_,n_,n_,n_,n_,n_,n_,n_,n_,n_,n_,n_,n_,n_,n_,n_,n_,n_,n_,n_,n_,n_,n_,n_] rfl rfl (any_of HT_.out (by kernel_rfl)) (fun _ _ _ h => h) (Or.inl ⟨by rfl, ?_⟩) ?_ ?_
                  rotate_left
                  ·intro w'; go_simp; with_reducible rfl
                  rotate_left
                  ·simp only [Act.put, List.setIfInBounds_toArray, List.set_cons_zero, List.set_cons_succ, i64_w, i32_w]; rfl
                  refine pure_ (i := 1) (N := some 91) (v := ?_) (a' := ?_) #[y_,y_,n_,n_,n_,n_,n_,n_,n_,n_,n_,n_,n_,n_,n_,n_,n_,n_,n_,n_,n_,n_,n_,n_,n_,n_,n_,n_,n_,n_,n_,n_,n_,n_,n_] rfl rfl (any_of HT_.out (by kernel_rfl)) (fun _ _ _ h => h) (Or.inl ⟨by rfl, ?_⟩) ?_ ?_
                  rotate_left
                  ·intro w'; go_simp; with_reducible rfl
                  rotate_left
                  ·simp only [Act.put, List.setIfInBounds_toArray, List.set_cons_zero, List.set_cons_succ, i64_w, i32_w]; rfl
                  refine pure_ (i := 2) (N := some 92) (v := ?_) (a' := ?_) #[y_,y_,y_,n_,n_,n_,n_,n_,n_,n_,n_,n_,n_,n_,n_,n_,n_,n_,n_,n_,n_,n_,n_,n_,n_,n_,n_,n_,n_,n_,n_,n_,n_,n_,n_] rfl rfl (any_of HT_.out (by kernel_rfl)) (fun _ _ _ h => h) (Or.inl ⟨by rfl, ?_⟩) ?_ ?_
                  rotate_left
                  ·intro w'; go_simp; with_reducible rfl
                  rotate_left
                  ·simp only [Act.put, List.setIfInBounds_toArray, List.set_cons_zero, List.set_cons_succ, i64_w, i32_w]; rfl
                  refine pure_ (i := 3) (N := some 93) (v := ?_) (a' := ?_) #[y_,y_,y_,y_,n_,n_,n_,n_,n_,n_,n_,n_,n_,n_,n_,n_,n_,n_,n_,n_,n_,n_,n_,n_,n_,n_,n_,n_,n_,n_,n_,n_,n_,n_,n_] rfl rfl (any_of HT_.out (by kernel_rfl)) (fun _ _ _ h => h) (Or.inl ⟨by rfl, ?_⟩) ?_ ?_
                  rotate_left
                  ·intro w'; go_simp; with_reducible rfl
                  rotate_left
                  ·simp only [Act.put, List.setIfInBounds_toArray, List.set_cons_zero, List.set_cons_succ, i64_w, i32_w]; rfl
                  refine one_ (i := 4) (N := some 94) #[y_,y_,y_,y_,y_,n_,n_,n_,n_,n_,n_,n_,n_,n_,n_,n_,n_,n_,n_,n_,n_,n_,n_,n_,n_,n_,n_,n_,n_,n_,n_,n_,n_,n_,n_] rfl rfl (one_of HT_.out (by kernel_rfl)) (by decide) (fun K hK => ?_); refine goes_ Try.func19 (by kernel_rfl) rfl #[.slice Ao99 t115.length co99, .slice (some ad128) t101.length co7] (by rfl) rfl rfl (by (try simp only [List.map_toArray, List.map_cons, List.map_nil]); first | done | rfl | (simp only [List.length_drop, List.length_take]; rfl)) ?_
                  with_reducible refine (laws_luSame.calls k2 _ _ t115 _ _ t101 true _ ?side1 ?side2 ?side3 ?side4 A82.out).mono ?_
                  (case side1 => repeat (first | exact (Kd.R_reads' HO_5.out).2.2 | (with_reducible refine Kd.C_alloc ?_ _) | (with_reducible refine Kd.C_drewN ?_ _) | (with_reducible refine Kd.C_drew ?_))); (case side2 => exact (Kd.R_reads' HO_5.out).2.1); (case side3 => repeat (first | exact (Kd.R_reads' HO_3.out).2.2 | (with_reducible refine Kd.C_alloc ?_ _) | (with_reducible refine Kd.C_drewN ?_ _) | (with_reducible refine Kd.C_drew ?_))); (case side4 => exact (Kd.R_reads' HO_3.out).2.1); rintro e w' ⟨rfl, ⟨nd, rfl⟩⟩; refine ⟨_, rfl, ?_⟩; refine hK.out _ _ ⟨hHeld.1, hHeld.2.1, hHeld.2.2.1, hHeld.2.2.2.1, hHeld.2.2.2.2.1, hHeld.2.2.2.2.2.1, hHeld.2.2.2.2.2.2.1, hHeld.2.2.2.2.2.2.2⟩ (fun hHeld => ?_); clear hK K; refine norm_ (a' := ?_) ?_ ?_
                  rotate_left
                  ·show Act.put _ (some 94) _ = _
                   simp only [Act.put, List.setIfInBounds_toArray, List.set_cons_zero, List.set_cons_succ, i64_w, i32_w]; rfl
                  refine pure_ (i := 5) (N := some 95) (v := ?_) (a' := ?_) #[y_,y_,y_,y_,y_,y_,n_,n_,n_,n_,n_,n_,n_,n_,n_,n_,n_,n_,n_,n_,n_,n_,n_,n_,n_,n_,n_,n_,n_,n_,n_,n_,n_,n_,n_] rfl rfl (any_of HT_.out (by kernel_rfl)) (fun _ _ _ h => h) (Or.inl ⟨by rfl, ?_⟩) ?_ ?_
                  rotate_left
                  ·intro w'; go_simp; with_reducible rfl
                  rotate_left
                  ·simp only [Act.put, List.setIfInBounds_toArray, List.set_cons_zero, List.set_cons_succ, i64_w, i32_w]; rfl
                  refine pure_ (i := 6) (N := some 96) (v := ?_) (a' := ?_) #[y_,y_,y_,y_,y_,y_,y_,n_,n_,n_,n_,n_,n_,n_,n_,n_,n_,n_,n_,n_,n_,n_,n_,n_,n_,n_,n_,n_,n_,n_,n_,n_,n_,n_,n_] rfl rfl (any_of HT_.out (by kernel_rfl)) (fun _ _ _ h => h) (Or.inl ⟨by rfl, ?_⟩) ?_ ?_
                  rotate_left
                  ·intro w'; go_simp; with_reducible rfl
                  rotate_left
                  ·simp only [Act.put, List.setIfInBounds_toArray, List.set_cons_zero, List.set_cons_succ, i64_w, i32_w]; rfl
                  refine pure_ (i := 7) (N := some 97) (v := ?_) (a' := ?_) #[y_,y_,y_,y_,y_,y_,y_,y_,n_,n_,n_,n_,n_,n_,n_,n_,n_,n_,n_,n_,n_,n_,n_,n_,n_,n_,n_,n_,n_,n_,n_,n_,n_,n_,n_] rfl rfl (any_of HT_.out (by kernel_rfl)) (fun _ _ _ h => h) (Or.inl ⟨by rfl, ?_⟩) ?_ ?_
                  rotate_left
                  ·intro w'; go_simp; with_reducible rfl
                  rotate_left
                  ·simp only [Act.put, List.setIfInBounds_toArray, List.set_cons_zero, List.set_cons_succ, i64_w, i32_w]; rfl
                  refine pure_ (i := 8) (N := some 98) (v := ?_) (a' := ?_) #[y_,y_,y_,y_,y_,y_,y_,y_,y_,n_,n_,n_,n_,n_,n_,n_,n_,n_,n_,n_,n_,n_,n_,n_,n_,n_,n_,n_,n_,n_,n_,n_,n_,n_,n_] rfl rfl (any_of HT_.out (by kernel_rfl)) (fun _ _ _ h => h) (Or.inl ⟨by rfl, ?_⟩) ?_ ?_
                  rotate_left
                  ·intro w'; go_simp; with_reducible rfl
                  rotate_left
                  ·simp only [Act.put, List.setIfInBounds_toArray, List.set_cons_zero, List.set_cons_succ, i64_w, i32_w]; rfl
                  refine pure_ (i := 10) (N := some 100) (v := ?_) (a' := ?_) #[y_,y_,y_,y_,y_,y_,y_,y_,y_,n_,y_,n_,n_,n_,n_,n_,n_,n_,n_,n_,n_,n_,n_,n_,n_,n_,n_,n_,n_,n_,n_,n_,n_,n_,n_] rfl rfl (any_of HT_.out (by kernel_rfl)) (fun _ _ _ h => h) (Or.inl ⟨by rfl, ?_⟩) ?_ ?_
                  rotate_left
                  ·intro w'; go_simp; with_reducible rfl
                  rotate_left
                  ·simp only [Act.put, List.setIfInBounds_toArray, List.set_cons_zero, List.set_cons_succ, i64_w, i32_w]; rfl
                  refine pure_ (i := 11) (N := some 101) (v := ?_) (a' := ?_) #[y_,y_,y_,y_,y_,y_,y_,y_,y_,n_,y_,y_,n_,n_,n_,n_,n_,n_,n_,n_,n_,n_,n_,n_,n_,n_,n_,n_,n_,n_,n_,n_,n_,n_,n_] rfl rfl (any_of HT_.out (by kernel_rfl)) (fun _ _ _ h => h) (Or.inl ⟨by rfl, ?_⟩) ?_ ?_
                  rotate_left
                  ·intro w'; go_simp; with_reducible rfl
                  rotate_left
                  ·simp only [Act.put, List.setIfInBounds_toArray, List.set_cons_zero, List.set_cons_succ, i64_w, i32_w]; rfl
                  refine take_ (i := 9) (N := some 99) (v := ?_) (a' := ?_) #[y_,y_,y_,y_,y_,y_,y_,y_,y_,y_,y_,y_,n_,n_,n_,n_,n_,n_,n_,n_,n_,n_,n_,n_,n_,n_,n_,n_,n_,n_,n_,n_,n_,n_,n_] rfl rfl (take_ofW HT_.out HW_.out (by kernel_rfl)) (fun _ _ _ h => h) (Or.inl ⟨by rfl, ?_⟩) hHeld ?_ ?_
                  rotate_left
                  ·rintro w' ⟨s0, s1, s2, s3, s4, s5, s6, s7⟩; go_simp; with_reducible rfl
                  rotate_left
                  ·simp only [Act.put, List.setIfInBounds_toArray, List.set_cons_zero, List.set_cons_succ, i64_w, i32_w]; rfl
                  refine take_ (i := 12) (N := some 102) (v := ?_) (a' := ?_) #[y_,y_,y_,y_,y_,y_,y_,y_,y_,y_,y_,y_,y_,n_,n_,n_,n_,n_,n_,n_,n_,n_,n_,n_,n_,n_,n_,n_,n_,n_,n_,n_,n_,n_,n_] rfl rfl (take_ofW HT_.out HW_.out (by kernel_rfl)) (fun _ _ _ h => h) (Or.inl ⟨by rfl, ?_⟩) hHeld ?_ ?_
                  rotate_left
                  ·rintro w' ⟨s0, s1, s2, s3, s4, s5, s6, s7⟩; go_simp; with_reducible rfl
                  rotate_left
                  ·simp only [Act.put, List.setIfInBounds_toArray, List.set_cons_zero, List.set_cons_succ, i64_w, i32_w]; rfl
                  refine pure_ (i := 13) (N := some 103) (v := ?_) (a' := ?_) #[y_,y_,y_,y_,y_,y_,y_,y_,y_,y_,y_,y_,y_,y_,n_,n_,n_,n_,n_,n_,n_,n_,n_,n_,n_,n_,n_,n_,n_,n_,n_,n_,n_,n_,n_] rfl rfl (any_of HT_.out (by kernel_rfl)) (fun _ _ _ h => h) (Or.inl ⟨by rfl, ?_⟩) ?_ ?_
                  rotate_left
                  ·intro w'; go_simp; with_reducible rfl
                  rotate_left
                  ·simp only [Act.put, List.setIfInBounds_toArray, List.set_cons_zero, List.set_cons_succ, i64_w, i32_w]; rfl
                  refine pure_ (i := 14) (N := some 104) (v := ?_) (a' := ?_) #[y_,y_,y_,y_,y_,y_,y_,y_,y_,y_,y_,y_,y_,y_,y_,n_,n_,n_,n_,n_,n_,n_,n_,n_,n_,n_,n_,n_,n_,n_,n_,n_,n_,n_,n_] rfl rfl (any_of HT_.out (by kernel_rfl)) (fun _ _ _ h => h) (Or.inl ⟨by rfl, ?_⟩) ?_ ?_
                  rotate_left
                  ·intro w'; go_simp; with_reducible rfl
                  rotate_left
                  ·simp only [Act.put, List.setIfInBounds_toArray, List.set_cons_zero, List.set_cons_succ, i64_w, i32_w]; rfl
                  refine pure_ (i := 15) (N := some 105) (v := ?_) (a' := ?_) #[y_,y_,y_,y_,y_,y_,y_,y_,y_,y_,y_,y_,y_,y_,y_,y_,n_,n_,n_,n_,n_,n_,n_,n_,n_,n_,n_,n_,n_,n_,n_,n_,n_,n_,n_] rfl rfl (any_of HT_.out (by kernel_rfl)) (fun _ _ _ h => h) (Or.inl ⟨by rfl, ?_⟩) ?_ ?_
                  rotate_left
                  ·intro w'; go_simp; with_reducible rfl
                  rotate_left
                  ·simp only [Act.put, List.setIfInBounds_toArray, List.set_cons_zero, List.set_cons_succ, i64_w, i32_w]; rfl
                  refine pure_ (i := 16) (N := some 106) (v := ?_) (a' := ?_) #[y_,y_,y_,y_,y_,y_,y_,y_,y_,y_,y_,y_,y_,y_,y_,y_,y_,n_,n_,n_,n_,n_,n_,n_,n_,n_,n_,n_,n_,n_,n_,n_,n_,n_,n_] rfl rfl (any_of HT_.out (by kernel_rfl)) (fun _ _ _ h => h) (Or.inl ⟨by rfl, ?_⟩) ?_ ?_
                  rotate_left
                  ·intro w'; go_simp; with_reducible rfl
                  rotate_left
                  ·simp only [Act.put, List.setIfInBounds_toArray, List.set_cons_zero, List.set_cons_succ, i64_w, i32_w]; rfl
                  refine pure_ (i := 17) (N := some 107) (v := ?_) (a' := ?_) #[y_,y_,y_,y_,y_,y_,y_,y_,y_,y_,y_,y_,y_,y_,y_,y_,y_,y_,n_,n_,n_,n_,n_,n_,n_,n_,n_,n_,n_,n_,n_,n_,n_,n_,n_] rfl rfl (any_of HT_.out (by kernel_rfl)) (fun _ _ _ h => h) (Or.inl ⟨by rfl, ?_⟩) ?_ ?_
                  rotate_left
                  ·intro w'; go_simp; with_reducible rfl
                  rotate_left
                  ·simp only [Act.put, List.setIfInBounds_toArray, List.set_cons_zero, List.set_cons_succ, i64_w, i32_w]; rfl
                  refine pure_ (i := 18) (N := some 108) (v := ?_) (a' := ?_) #[y_,y_,y_,y_,y_,y_,y_,y_,y_,y_,y_,y_,y_,y_,y_,y_,y_,y_,y_,n_,n_,n_,n_,n_,n_,n_,n_,n_,n_,n_,n_,n_,n_,n_,n_] rfl rfl (any_of HT_.out (by kernel_rfl)) (fun _ _ _ h => h) (Or.inl ⟨by rfl, ?_⟩) ?_ ?_
                  rotate_left
                  ·intro w'; go_simp; with_reducible rfl
                  rotate_left
                  ·simp only [Act.put, List.setIfInBounds_toArray, List.set_cons_zero, List.set_cons_succ, i64_w, i32_w]; rfl
                  refine pure_ (i := 19) (N := some 109) (v := ?_) (a' := ?_) #[y_,y_,y_,y_,y_,y_,y_,y_,y_,y_,y_,y_,y_,y_,y_,y_,y_,y_,y_,y_,n_,n_,n_,n_,n_,n_,n_,n_,n_,n_,n_,n_,n_,n_,n_] rfl rfl (any_of HT_.out (by kernel_rfl)) (fun _ _ _ h => h) (Or.inl ⟨by rfl, ?_⟩) ?_ ?_
                  rotate_left
                  ·intro w'; go_simp; with_reducible rfl
                  rotate_left
                  ·simp only [Act.put, List.setIfInBounds_toArray, List.set_cons_zero, List.set_cons_succ, i64_w, i32_w]; rfl
                  refine pure_ (i := 21) (N := some 111) (v := ?_) (a' := ?_) #[y_,y_,y_,y_,y_,y_,y_,y_,y_,y_,y_,y_,y_,y_,y_,y_,y_,y_,y_,y_,n_,y_,n_,n_,n_,n_,n_,n_,n_,n_,n_,n_,n_,n_,n_] rfl rfl (any_of HT_.out (by kernel_rfl)) (fun _ _ _ h => h) (Or.inl ⟨by rfl, ?_⟩) ?_ ?_
                  rotate_left
                  ·intro w'; go_simp; with_reducible rfl
                  rotate_left
                  ·simp only [Act.put, List.setIfInBounds_toArray, List.set_cons_zero, List.set_cons_succ, i64_w, i32_w]; rfl
                  refine pure_ (i := 22) (N := some 112) (v := ?_) (a' := ?_) #[y_,y_,y_,y_,y_,y_,y_,y_,y_,y_,y_,y_,y_,y_,y_,y_,y_,y_,y_,y_,n_,y_,y_,n_,n_,n_,n_,n_,n_,n_,n_,n_,n_,n_,n_] rfl rfl (any_of HT_.out (by kernel_rfl)) (fun _ _ _ h => h) (Or.inl ⟨by rfl, ?_⟩) ?_ ?_
                  rotate_left
                  ·intro w'; go_simp; with_reducible rfl
                  rotate_left
                  ·simp only [Act.put, List.setIfInBounds_toArray, List.set_cons_zero, List.set_cons_succ, i64_w, i32_w]; rfl
                  refine pure_ (i := 23) (N := some 113) (v := ?_) (a' := ?_) #[y_,y_,y_,y_,y_,y_,y_,y_,y_,y_,y_,y_,y_,y_,y_,y_,y_,y_,y_,y_,n_,y_,y_,y_,n_,n_,n_,n_,n_,n_,n_,n_,n_,n_,n_] rfl rfl (any_of HT_.out (by kernel_rfl)) (fun _ _ _ h => h) (Or.inl ⟨by rfl, ?_⟩) ?_ ?_
                  rotate_left
                  ·intro w'; go_simp; with_reducible rfl
                  rotate_left
                  ·simp only [Act.put, List.setIfInBounds_toArray, List.set_cons_zero, List.set_cons_succ, i64_w, i32_w]; rfl
                  refine pure_ (i := 24) (N := some 114) (v := ?_) (a' := ?_) #[y_,y_,y_,y_,y_,y_,y_,y_,y_,y_,y_,y_,y_,y_,y_,y_,y_,y_,y_,y_,n_,y_,y_,y_,y_,n_,n_,n_,n_,n_,n_,n_,n_,n_,n_] rfl rfl (any_of HT_.out (by kernel_rfl)) (fun _ _ _ h => h) (Or.inl ⟨by rfl, ?_⟩) ?_ ?_
                  rotate_left
                  ·intro w'; go_simp; with_reducible rfl
                  rotate_left
                  ·simp only [Act.put, List.setIfInBounds_toArray, List.set_cons_zero, List.set_cons_succ, i64_w, i32_w]; rfl
                  refine pure_ (i := 25) (N := some 115) (v := ?_) (a' := ?_) #[y_,y_,y_,y_,y_,y_,y_,y_,y_,y_,y_,y_,y_,y_,y_,y_,y_,y_,y_,y_,n_,y_,y_,y_,y_,y_,n_,n_,n_,n_,n_,n_,n_,n_,n_] rfl rfl (any_of HT_.out (by kernel_rfl)) (fun _ _ _ h => h) (Or.inl ⟨by rfl, ?_⟩) ?_ ?_
                  rotate_left
                  ·intro w'; go_simp; with_reducible rfl
                  rotate_left
                  ·simp only [Act.put, List.setIfInBounds_toArray, List.set_cons_zero, List.set_cons_succ, i64_w, i32_w]; rfl
                  refine take_ (i := 20) (N := some 110) (v := ?_) (a' := ?_) #[y_,y_,y_,y_,y_,y_,y_,y_,y_,y_,y_,y_,y_,y_,y_,y_,y_,y_,y_,y_,y_,y_,y_,y_,y_,y_,n_,n_,n_,n_,n_,n_,n_,n_,n_] rfl rfl (take_ofW HT_.out HW_.out (by kernel_rfl)) (fun _ _ _ h => h) (Or.inl ⟨by rfl, ?_⟩) hHeld ?_ ?_
                  rotate_left
                  ·rintro w' ⟨s0, s1, s2, s3, s4, s5, s6, s7⟩; go_simp; with_reducible rfl
                  rotate_left
                  ·simp only [Act.put, List.setIfInBounds_toArray, List.set_cons_zero, List.set_cons_succ, i64_w, i32_w]; rfl
                  refine take_ (i := 26) (N := some 116) (v := ?_) (a' := ?_) #[y_,y_,y_,y_,y_,y_,y_,y_,y_,y_,y_,y_,y_,y_,y_,y_,y_,y_,y_,y_,y_,y_,y_,y_,y_,y_,y_,n_,n_,n_,n_,n_,n_,n_,n_] rfl rfl (take_ofW HT_.out HW_.out (by kernel_rfl)) (fun _ _ _ h => h) (Or.inl ⟨by rfl, ?_⟩) hHeld ?_ ?_
                  rotate_left
                  ·rintro w' ⟨s0, s1, s2, s3, s4, s5, s6, s7⟩; go_simp; with_reducible rfl
                  rotate_left
                  ·simp only [Act.put, List.setIfInBounds_toArray, List.set_cons_zero, List.set_cons_succ, i64_w, i32_w]; rfl
                  refine pure_ (i := 27) (N := some 117) (v := ?_) (a' := ?_) #[y_,y_,y_,y_,y_,y_,y_,y_,y_,y_,y_,y_,y_,y_,y_,y_,y_,y_,y_,y_,y_,y_,y_,y_,y_,y_,y_,y_,n_,n_,n_,n_,n_,n_,n_] rfl rfl (any_of HT_.out (by kernel_rfl)) (fun _ _ _ h => h) (Or.inl ⟨by rfl, ?_⟩) ?_ ?_
                  rotate_left
                  ·intro w'; go_simp; with_reducible rfl
                  rotate_left
                  ·simp only [Act.put, List.setIfInBounds_toArray, List.set_cons_zero, List.set_cons_succ, i64_w, i32_w]; rfl
                  refine pure_ (i := 28) (N := some 118) (v := ?_) (a' := ?_) #[y_,y_,y_,y_,y_,y_,y_,y_,y_,y_,y_,y_,y_,y_,y_,y_,y_,y_,y_,y_,y_,y_,y_,y_,y_,y_,y_,y_,y_,n_,n_,n_,n_,n_,n_] rfl rfl (any_of HT_.out (by kernel_rfl)) (fun _ _ _ h => h) (Or.inl ⟨by rfl, ?_⟩) ?_ ?_
                  rotate_left
                  ·intro w'; go_simp; with_reducible rfl
                  rotate_left
                  ·simp only [Act.put, List.setIfInBounds_toArray, List.set_cons_zero, List.set_cons_succ, i64_w, i32_w]; rfl
                  refine pure_ (i := 29) (N := some 119) (v := ?_) (a' := ?_) #[y_,y_,y_,y_,y_,y_,y_,y_,y_,y_,y_,y_,y_,y_,y_,y_,y_,y_,y_,y_,y_,y_,y_,y_,y_,y_,y_,y_,y_,y_,n_,n_,n_,n_,n_] rfl rfl (any_of HT_.out (by kernel_rfl)) (fun _ _ _ h => h) (Or.inl ⟨by rfl, ?_⟩) ?_ ?_
                  rotate_left
                  ·intro w'; go_simp; with_reducible rfl
                  rotate_left
                  ·simp only [Act.put, List.setIfInBounds_toArray, List.set_cons_zero, List.set_cons_succ, i64_w, i32_w]; rfl
                  refine pure_ (i := 30) (N := some 120) (v := undef) (a' := ?_) #[y_,y_,y_,y_,y_,y_,y_,y_,y_,y_,y_,y_,y_,y_,y_,y_,y_,y_,y_,y_,y_,y_,y_,y_,y_,y_,y_,y_,y_,y_,y_,n_,n_,n_,n_] rfl rfl (any_of HT_.out (by kernel_rfl)) (fun _ _ _ h => h) (Or.inr ⟨by rfl, rfl⟩) ?_ ?_
                  rotate_left
                  ·simp only [Act.put, List.setIfInBounds_toArray, List.set_cons_zero, List.set_cons_succ, i64_w, i32_w]; rfl
                  refine pure_ (i := 31) (N := some 121) (v := undef) (a' := ?_) #[y_,y_,y_,y_,y_,y_,y_,y_,y_,y_,y_,y_,y_,y_,y_,y_,y_,y_,y_,y_,y_,y_,y_,y_,y_,y_,y_,y_,y_,y_,y_,y_,n_,n_,n_] rfl rfl (any_of HT_.out (by kernel_rfl)) (fun _ _ _ h => h) (Or.inr ⟨by rfl, rfl⟩) ?_ ?_
                  rotate_left
                  ·simp only [Act.put, List.setIfInBounds_toArray, List.set_cons_zero, List.set_cons_succ, i64_w, i32_w]; rfl
                  refine pure_ (i := 32) (N := some 122) (v := undef) (a' := ?_) #[y_,y_,y_,y_,y_,y_,y_,y_,y_,y_,y_,y_,y_,y_,y_,y_,y_,y_,y_,y_,y_,y_,y_,y_,y_,y_,y_,y_,y_,y_,y_,y_,y_,n_,n_] rfl rfl (any_of HT_.out (by kernel_rfl)) (fun _ _ _ h => h) (Or.inr ⟨by rfl, rfl⟩) ?_ ?_
                  rotate_left
                  ·simp only [Act.put, List.setIfInBounds_toArray, List.set_cons_zero, List.set_cons_succ, i64_w, i32_w]; rfl
                  refine pure_ (i := 33) (N := some 123) (v := ?_) (a' := ?_) #[y_,y_,y_,y_,y_,y_,y_,y_,y_,y_,y_,y_,y_,y_,y_,y_,y_,y_,y_,y_,y_,y_,y_,y_,y_,y_,y_,y_,y_,y_,y_,y_,y_,y_,n_] rfl rfl (any_of HT_.out (by kernel_rfl)) (fun _ _ _ h => h) (Or.inl ⟨by rfl, ?_⟩) ?_ ?_
                  rotate_left
                  ·intro w'; go_simp; with_reducible rfl
                  rotate_left
                  ·simp only [Act.put, List.setIfInBounds_toArray, List.set_cons_zero, List.set_cons_succ, i64_w, i32_w]; rfl
                  refine pure_ (i := 34) (N := some 2) (v := ?_) (a' := ?_) #[y_,y_,y_,y_,y_,y_,y_,y_,y_,y_,y_,y_,y_,y_,y_,y_,y_,y_,y_,y_,y_,y_,y_,y_,y_,y_,y_,y_,y_,y_,y_,y_,y_,y_,y_] rfl rfl (any_of HT_.out (by kernel_rfl)) (fun _ _ _ h => h) (Or.inl ⟨by rfl, ?_⟩) ?_ ?_
                  rotate_left
                  ·intro w'; go_simp; with_reducible rfl
                  rotate_left
                  ·simp only [Act.put, List.setIfInBounds_toArray, List.set_cons_zero, List.set_cons_succ, i64_w, i32_w]; rfl
                  refine done_ (done_of HT_.out (by kernel_rfl)) ?_
                  try go_wp2
                  go_ret
                  exact ⟨by first | rfl | (simp [errW_none, errW_some] <;> rfl) | (simp only [← hji87, ← hji90]; first | rfl | (simp [errW_none, errW_some] <;> rfl)) | (simp [*, errW_none, errW_some] <;> rfl), by repeat (first | (with_reducible first | exact HB.out | apply below_alloc | apply pw_below_drewN | apply below_drew1) | exact HB.out)⟩
                ·rw [if_neg c92] at H; exact absurd H (by simp)
               ·rw [if_neg c91] at H; exact absurd H (by simp)
              ·rw [if_neg c89] at H; exact absurd H (by simp)
             ·rw [if_neg c88] at H; exact absurd H (by simp)
            ·rw [if_neg c86] at H
             have c86b0 : (((rd_T38 t104 0).f0) == ((rd_T38 t101 0).f0) && (((rd_T38 t104 0).f1) == ((rd_T38 t101 0).f1))) = false := by simpa using c86
             (try (have c86b1 : decide (((rd_T38 t104 0).f0) = ((rd_T38 t101 0).f0) && (((rd_T38 t104 0).f1) == ((rd_T38 t101 0).f1))) = false := by simpa using c86)); (try (have c86b2 : (((rd_T38 t104 0).f0) == ((rd_T38 t101 0).f0) && (((rd_T38 t104 0).f1) == ((rd_T38 t101 0).f1))) = false := by simpa using c86)); (try (have c86b3 : ¬ (((rd_T38 t104 0).f0) = ((rd_T38 t101 0).f0) && (((rd_T38 t104 0).f1) == ((rd_T38 t101 0).f1))) := by simpa using c86)); clear c86; obtain rfl := Option.some.inj H
             try go_wp2
             have n0_ := Aside0.mk (Kd.R_drew HO_3.out); have n1_ := Aside0.mk (Kd.R_drew HO_4.out); have n2_ := Aside0.mk (Kd.R_drew HO_5.out); have n3_ := Aside0.mk (below_drew1 HB.out); clear HO_3; clear HO_4; clear HO_5; clear HB; have HO_3 := n0_; have HO_4 := n1_; have HO_5 := n2_; have HB := n3_; clear n0_ n1_ n2_ n3_; obtain ⟨Ao101, co101, eo101⟩ := Kd.R_slice HO_5.out; (first | subst eo101 | (injection eo101 with f1_ f2_ f3_; have f4_ := f1_.symm; have f5_ := f3_.symm; clear f1_ f2_ f3_; subst f4_; subst f5_)); have p127 : 0 ≤ (0 : Int) := (by omega); have q127 : 0 < (t104.length : Int) := of_decide_eq_true (by first | (with_reducible assumption) | assumption); obtain ⟨ad127, e127, hx127_0, hx127_1⟩ := at_T38 (Kd.R_reads' HO_4.out).2.2 0 p127 q127
             cases e127
             have qi127 : (0 < t104.length) = True := eq_true (by omega); (try rw [show ((0 : Int)).toNat = 0 from rfl] at hx127_0); (try rw [show 0 * 2 = 0 from rfl] at hx127_0); (try rw [Addr.add_zero'] at hx127_0); (try rw [show ((0 : Int)).toNat = 0 from rfl] at hx127_1); (try rw [show 0 * 2 = 0 from rfl] at hx127_1); (try rw [Addr.add_zero'] at hx127_1); replace p127 := eq_true p127; replace q127 := eq_true q127; have p128 : 0 ≤ (0 : Int) := (by omega); have q128 : 0 < (t101.length : Int) := of_decide_eq_true (by first | (with_reducible assumption) | assumption); obtain ⟨ad128, e128, hx128_0, hx128_1⟩ := at_T38 (Kd.R_reads' HO_3.out).2.2 0 p128 q128
             cases e128
             have qi128 : (0 < t101.length) = True := eq_true (by omega); (try rw [show ((0 : Int)).toNat = 0 from rfl] at hx128_0); (try rw [show 0 * 2 = 0 from rfl] at hx128_0); (try rw [Addr.add_zero'] at hx128_0); (try rw [show ((0 : Int)).toNat = 0 from rfl] at hx128_1); (try rw [show 0 * 2 = 0 from rfl] at hx128_1); (try rw [Addr.add_zero'] at hx128_1); replace p128 := eq_true p128; replace q128 := eq_true q128; refine start_ (n := 35) (S := fun w' => w'.cell? ad127 = some (.int .i64 ((rd_T38 t104 0).f0)) ∧ w'.cell? ⟨ad127.block, ad127.off + 1, none⟩ = some (.int .i64 ((rd_T38 t104 0).f1)) ∧ w'.cell? ad128 = some (.int .i64 ((rd_T38 t101 0).f0)) ∧ w'.cell? ⟨ad128.block, ad128.off + 1, none⟩ = some (.int .i64 ((rd_T38 t101 0).f1))) (ds := []) #[n_,n_,n_,n_,n_,n_,n_,n_,n_,n_,n_,n_,n_,n_,n_,n_,n_,n_,n_,n_,n_,n_,n_,n_,n_,n_,n_,n_,n_,n_,n_,n_,n_,n_,n_] (by kernel_rfl) rfl rfl ⟨hx127_0, hx127_1, hx128_0, hx128_1⟩ (fun hHeld => ?_); refine with_tabW laws_FnTurns.tab17 laws_FnTurns.bits17 (fun HT_ HW_ => ?_); generalize wr.drew = w100 at HO_3 HO_4 HO_5 HB hx127_0 hx127_1 hx128_0 hx128_1 hHeld ⊢; refine pure_ (i := 0) (N := some 90) (v := ?_) (a' := ?_) #[y_,n_,n_,n_,n_,n_,n_,n_,n_,n_,n_,n_,n_,n_,n_,n_,n_,n_,n_,n_,n_,n_,n_,n_,n_,n_,n_,n_,n_,n_,n_,n_,n_,n_,n_] rfl rfl (any_of HT_.out (by kernel_rfl)) (fun _ _ _ h => h) (Or.inl ⟨by rfl, ?_⟩) ?_ ?_
             rotate_left
             ·intro w'; go_simp; with_reducible rfl
             rotate_left
             ·simp only [Act.put, List.setIfInBounds_toArray, List.set_cons_zero, List.set_cons_succ, i64_w, i32_w]; rfl
             refine pure_ (i := 1) (N := some 91) (v := ?_) (a' := ?_) #[y_,y_,n_,n_,n_,n_,n_,n_,n_,n_,n_,n_,n_,n_,n_,n_,n_,n_,n_,n_,n_,n_,n_,n_,n_,n_,n_,n_,n_,n_,n_,n_,n_,n_,n_] rfl rfl (any_of HT_.out (by kernel_rfl)) (fun _ _ _ h => h) (Or.inl ⟨by rfl, ?_⟩) ?_ ?_
             rotate_left
             ·intro w'; go_simp; with_reducible rfl
             rotate_left
             ·simp only [Act.put, List.setIfInBounds_toArray, List.set_cons_zero, List.set_cons_succ, i64_w, i32_w]; rfl
             refine pure_ (i := 2) (N := some 92) (v := ?_) (a' := ?_) #[y_,y_,y_,n_,n_,n_,n_,n_,n_,n_,n_,n_,n_,n_,n_,n_,n_,n_,n_,n_,n_,n_,n_,n_,n_,n_,n_,n_,n_,n_,n_,n_,n_,n_,n_] rfl rfl (any_of HT_.out (by kernel_rfl)) (fun _ _ _ h => h) (Or.inl ⟨by rfl, ?_⟩) ?_ ?_
             rotate_left
             ·intro w'; go_simp; with_reducible rfl
             rotate_left
             ·simp only [Act.put, List.setIfInBounds_toArray, List.set_cons_zero, List.set_cons_succ, i64_w, i32_w]; rfl
             refine pure_ (i := 3) (N := some 93) (v := ?_) (a' := ?_) #[y_,y_,y_,y_,n_,n_,n_,n_,n_,n_,n_,n_,n_,n_,n_,n_,n_,n_,n_,n_,n_,n_,n_,n_,n_,n_,n_,n_,n_,n_,n_,n_,n_,n_,n_] rfl rfl (any_of HT_.out (by kernel_rfl)) (fun _ _ _ h => h) (Or.inl ⟨by rfl, ?_⟩) ?_ ?_
             rotate_left
             ·intro w'; go_simp; with_reducible rfl
             rotate_left
             ·simp only [Act.put, List.setIfInBounds_toArray, List.set_cons_zero, List.set_cons_succ, i64_w, i32_w]; rfl
             refine one_ (i := 4) (N := some 94) #[y_,y_,y_,y_,y_,n_,n_,n_,n_,n_,n_,n_,n_,n_,n_,n_,n_,n_,n_,n_,n_,n_,n_,n_,n_,n_,n_,n_,n_,n_,n_,n_,n_,n_,n_] rfl rfl (one_of HT_.out (by kernel_rfl)) (by decide) (fun K hK => ?_); refine goes_ Try.func19 (by kernel_rfl) rfl #[.slice Ao101 t115.length co101, .slice (some ad128) t101.length co7] (by rfl) rfl rfl (by (try simp only [List.map_toArray, List.map_cons, List.map_nil]); first | done | rfl | (simp only [List.length_drop, List.length_take]; rfl)) ?_
             with_reducible refine (laws_luSame.calls k2 _ _ t115 _ _ t101 true _ ?side1 ?side2 ?side3 ?side4 A82.out).mono ?_
             (case side1 => repeat (first | exact (Kd.R_reads' HO_5.out).2.2 | (with_reducible refine Kd.C_alloc ?_ _) | (with_reducible refine Kd.C_drewN ?_ _) | (with_reducible refine Kd.C_drew ?_))); (case side2 => exact (Kd.R_reads' HO_5.out).2.1); (case side3 => repeat (first | exact (Kd.R_reads' HO_3.out).2.2 | (with_reducible refine Kd.C_alloc ?_ _) | (with_reducible refine Kd.C_drewN ?_ _) | (with_reducible refine Kd.C_drew ?_))); (case side4 => exact (Kd.R_reads' HO_3.out).2.1); rintro e w' ⟨rfl, ⟨nd, rfl⟩⟩; refine ⟨_, rfl, ?_⟩; refine hK.out _ _ ⟨hHeld.1, hHeld.2.1, hHeld.2.2.1, hHeld.2.2.2⟩ (fun hHeld => ?_); clear hK K; refine norm_ (a' := ?_) ?_ ?_
             rotate_left
             ·show Act.put _ (some 94) _ = _
              simp only [Act.put, List.setIfInBounds_toArray, List.set_cons_zero, List.set_cons_succ, i64_w, i32_w]; rfl
             refine pure_ (i := 5) (N := some 95) (v := ?_) (a' := ?_) #[y_,y_,y_,y_,y_,y_,n_,n_,n_,n_,n_,n_,n_,n_,n_,n_,n_,n_,n_,n_,n_,n_,n_,n_,n_,n_,n_,n_,n_,n_,n_,n_,n_,n_,n_] rfl rfl (any_of HT_.out (by kernel_rfl)) (fun _ _ _ h => h) (Or.inl ⟨by rfl, ?_⟩) ?_ ?_
             rotate_left
             ·intro w'; go_simp; with_reducible rfl
             rotate_left
             ·simp only [Act.put, List.setIfInBounds_toArray, List.set_cons_zero, List.set_cons_succ, i64_w, i32_w]; rfl
             refine pure_ (i := 6) (N := some 96) (v := ?_) (a' := ?_) #[y_,y_,y_,y_,y_,y_,y_,n_,n_,n_,n_,n_,n_,n_,n_,n_,n_,n_,n_,n_,n_,n_,n_,n_,n_,n_,n_,n_,n_,n_,n_,n_,n_,n_,n_] rfl rfl (any_of HT_.out (by kernel_rfl)) (fun _ _ _ h => h) (Or.inl ⟨by rfl, ?_⟩) ?_ ?_
             rotate_left
             ·intro w'; go_simp; with_reducible rfl
             rotate_left
             ·simp only [Act.put, List.setIfInBounds_toArray, List.set_cons_zero, List.set_cons_succ, i64_w, i32_w]; rfl
             refine pure_ (i := 7) (N := some 97) (v := ?_) (a' := ?_) #[y_,y_,y_,y_,y_,y_,y_,y_,n_,n_,n_,n_,n_,n_,n_,n_,n_,n_,n_,n_,n_,n_,n_,n_,n_,n_,n_,n_,n_,n_,n_,n_,n_,n_,n_] rfl rfl (any_of HT_.out (by kernel_rfl)) (fun _ _ _ h => h) (Or.inl ⟨by rfl, ?_⟩) ?_ ?_
             rotate_left
             ·intro w'; go_simp; with_reducible rfl
             rotate_left
             ·simp only [Act.put, List.setIfInBounds_toArray, List.set_cons_zero, List.set_cons_succ, i64_w, i32_w]; rfl
             refine pure_ (i := 8) (N := some 98) (v := ?_) (a' := ?_) #[y_,y_,y_,y_,y_,y_,y_,y_,y_,n_,n_,n_,n_,n_,n_,n_,n_,n_,n_,n_,n_,n_,n_,n_,n_,n_,n_,n_,n_,n_,n_,n_,n_,n_,n_] rfl rfl (any_of HT_.out (by kernel_rfl)) (fun _ _ _ h => h) (Or.inl ⟨by rfl, ?_⟩) ?_ ?_
             rotate_left
             ·intro w'; go_simp; with_reducible rfl
             rotate_left
             ·simp only [Act.put, List.setIfInBounds_toArray, List.set_cons_zero, List.set_cons_succ, i64_w, i32_w]; rfl
             refine pure_ (i := 10) (N := some 100) (v := ?_) (a' := ?_) #[y_,y_,y_,y_,y_,y_,y_,y_,y_,n_,y_,n_,n_,n_,n_,n_,n_,n_,n_,n_,n_,n_,n_,n_,n_,n_,n_,n_,n_,n_,n_,n_,n_,n_,n_] rfl rfl (any_of HT_.out (by kernel_rfl)) (fun _ _ _ h => h) (Or.inl ⟨by rfl, ?_⟩) ?_ ?_
             rotate_left
             ·intro w'; go_simp; with_reducible rfl
             rotate_left
             ·simp only [Act.put, List.setIfInBounds_toArray, List.set_cons_zero, List.set_cons_succ, i64_w, i32_w]; rfl
             refine pure_ (i := 11) (N := some 101) (v := ?_) (a' := ?_) #[y_,y_,y_,y_,y_,y_,y_,y_,y_,n_,y_,y_,n_,n_,n_,n_,n_,n_,n_,n_,n_,n_,n_,n_,n_,n_,n_,n_,n_,n_,n_,n_,n_,n_,n_] rfl rfl (any_of HT_.out (by kernel_rfl)) (fun _ _ _ h => h) (Or.inl ⟨by rfl, ?_⟩) ?_ ?_
             rotate_left
             ·intro w'; go_simp; with_reducible rfl
             rotate_left
             ·simp only [Act.put, List.setIfInBounds_toArray, List.set_cons_zero, List.set_cons_succ, i64_w, i32_w]; rfl
             refine take_ (i := 9) (N := some 99) (v := ?_) (a' := ?_) #[y_,y_,y_,y_,y_,y_,y_,y_,y_,y_,y_,y_,n_,n_,n_,n_,n_,n_,n_,n_,n_,n_,n_,n_,n_,n_,n_,n_,n_,n_,n_,n_,n_,n_,n_] rfl rfl (take_ofW HT_.out HW_.out (by kernel_rfl)) (fun _ _ _ h => h) (Or.inl ⟨by rfl, ?_⟩) hHeld ?_ ?_
             rotate_left
             ·rintro w' ⟨s0, s1, s2, s3⟩; go_simp; with_reducible rfl
             rotate_left
             ·simp only [Act.put, List.setIfInBounds_toArray, List.set_cons_zero, List.set_cons_succ, i64_w, i32_w]; rfl
             refine take_ (i := 12) (N := some 102) (v := ?_) (a' := ?_) #[y_,y_,y_,y_,y_,y_,y_,y_,y_,y_,y_,y_,y_,n_,n_,n_,n_,n_,n_,n_,n_,n_,n_,n_,n_,n_,n_,n_,n_,n_,n_,n_,n_,n_,n_] rfl rfl (take_ofW HT_.out HW_.out (by kernel_rfl)) (fun _ _ _ h => h) (Or.inl ⟨by rfl, ?_⟩) hHeld ?_ ?_
             rotate_left
             ·rintro w' ⟨s0, s1, s2, s3⟩; go_simp; with_reducible rfl
             rotate_left
             ·simp only [Act.put, List.setIfInBounds_toArray, List.set_cons_zero, List.set_cons_succ, i64_w, i32_w]; rfl
             refine pure_ (i := 13) (N := some 103) (v := ?_) (a' := ?_) #[y_,y_,y_,y_,y_,y_,y_,y_,y_,y_,y_,y_,y_,y_,n_,n_,n_,n_,n_,n_,n_,n_,n_,n_,n_,n_,n_,n_,n_,n_,n_,n_,n_,n_,n_] rfl rfl (any_of HT_.out (by kernel_rfl)) (fun _ _ _ h => h) (Or.inl ⟨by rfl, ?_⟩) ?_ ?_
             rotate_left
             ·intro w'; go_simp; with_reducible rfl
             rotate_left
             ·simp only [Act.put, List.setIfInBounds_toArray, List.set_cons_zero, List.set_cons_succ, i64_w, i32_w]; rfl
             refine pure_ (i := 14) (N := some 104) (v := ?_) (a' := ?_) #[y_,y_,y_,y_,y_,y_,y_,y_,y_,y_,y_,y_,y_,y_,y_,n_,n_,n_,n_,n_,n_,n_,n_,n_,n_,n_,n_,n_,n_,n_,n_,n_,n_,n_,n_] rfl rfl (any_of HT_.out (by kernel_rfl)) (fun _ _ _ h => h) (Or.inl ⟨by rfl, ?_⟩) ?_ ?_
             rotate_left
             ·intro w'; go_simp; with_reducible rfl
             rotate_left
             ·simp only [Act.put, List.setIfInBounds_toArray, List.set_cons_zero, List.set_cons_succ, i64_w, i32_w]; rfl
             refine pure_ (i := 15) (N := some 105) (v := ?_) (a' := ?_) #[y_,y_,y_,y_,y_,y_,y_,y_,y_,y_,y_,y_,y_,y_,y_,y_,n_,n_,n_,n_,n_,n_,n_,n_,n_,n_,n_,n_,n_,n_,n_,n_,n_,n_,n_] rfl rfl (any_of HT_.out (by kernel_rfl)) (fun _ _ _ h => h) (Or.inl ⟨by rfl, ?_⟩) ?_ ?_
             rotate_left
             ·intro w'; go_simp; with_reducible rfl
             rotate_left
             ·simp only [Act.put, List.setIfInBounds_toArray, List.set_cons_zero, List.set_cons_succ, i64_w, i32_w]; rfl
             refine pure_ (i := 16) (N := some 106) (v := undef) (a' := ?_) #[y_,y_,y_,y_,y_,y_,y_,y_,y_,y_,y_,y_,y_,y_,y_,y_,y_,n_,n_,n_,n_,n_,n_,n_,n_,n_,n_,n_,n_,n_,n_,n_,n_,n_,n_] rfl rfl (any_of HT_.out (by kernel_rfl)) (fun _ _ _ h => h) (Or.inr ⟨by rfl, rfl⟩) ?_ ?_
             rotate_left
             ·simp only [Act.put, List.setIfInBounds_toArray, List.set_cons_zero, List.set_cons_succ, i64_w, i32_w]; rfl
             refine pure_ (i := 17) (N := some 107) (v := undef) (a' := ?_) #[y_,y_,y_,y_,y_,y_,y_,y_,y_,y_,y_,y_,y_,y_,y_,y_,y_,y_,n_,n_,n_,n_,n_,n_,n_,n_,n_,n_,n_,n_,n_,n_,n_,n_,n_] rfl rfl (any_of HT_.out (by kernel_rfl)) (fun _ _ _ h => h) (Or.inr ⟨by rfl, rfl⟩) ?_ ?_
             rotate_left
             ·simp only [Act.put, List.setIfInBounds_toArray, List.set_cons_zero, List.set_cons_succ, i64_w, i32_w]; rfl
             refine pure_ (i := 18) (N := some 108) (v := undef) (a' := ?_) #[y_,y_,y_,y_,y_,y_,y_,y_,y_,y_,y_,y_,y_,y_,y_,y_,y_,y_,y_,n_,n_,n_,n_,n_,n_,n_,n_,n_,n_,n_,n_,n_,n_,n_,n_] rfl rfl (any_of HT_.out (by kernel_rfl)) (fun _ _ _ h => h) (Or.inr ⟨by rfl, rfl⟩) ?_ ?_
             rotate_left
             ·simp only [Act.put, List.setIfInBounds_toArray, List.set_cons_zero, List.set_cons_succ, i64_w, i32_w]; rfl
             refine pure_ (i := 19) (N := some 109) (v := undef) (a' := ?_) #[y_,y_,y_,y_,y_,y_,y_,y_,y_,y_,y_,y_,y_,y_,y_,y_,y_,y_,y_,y_,n_,n_,n_,n_,n_,n_,n_,n_,n_,n_,n_,n_,n_,n_,n_] rfl rfl (any_of HT_.out (by kernel_rfl)) (fun _ _ _ h => h) (Or.inr ⟨by rfl, rfl⟩) ?_ ?_
             rotate_left
             ·simp only [Act.put, List.setIfInBounds_toArray, List.set_cons_zero, List.set_cons_succ, i64_w, i32_w]; rfl
             refine pure_ (i := 20) (N := some 110) (v := undef) (a' := ?_) #[y_,y_,y_,y_,y_,y_,y_,y_,y_,y_,y_,y_,y_,y_,y_,y_,y_,y_,y_,y_,y_,n_,n_,n_,n_,n_,n_,n_,n_,n_,n_,n_,n_,n_,n_] rfl rfl (any_of HT_.out (by kernel_rfl)) (fun _ _ _ h => h) (Or.inr ⟨by rfl, rfl⟩) ?_ ?_
             rotate_left
             ·simp only [Act.put, List.setIfInBounds_toArray, List.set_cons_zero, List.set_cons_succ, i64_w, i32_w]; rfl
             refine pure_ (i := 21) (N := some 111) (v := undef) (a' := ?_) #[y_,y_,y_,y_,y_,y_,y_,y_,y_,y_,y_,y_,y_,y_,y_,y_,y_,y_,y_,y_,y_,y_,n_,n_,n_,n_,n_,n_,n_,n_,n_,n_,n_,n_,n_] rfl rfl (any_of HT_.out (by kernel_rfl)) (fun _ _ _ h => h) (Or.inr ⟨by rfl, rfl⟩) ?_ ?_
             rotate_left
             ·simp only [Act.put, List.setIfInBounds_toArray, List.set_cons_zero, List.set_cons_succ, i64_w, i32_w]; rfl
             refine pure_ (i := 22) (N := some 112) (v := undef) (a' := ?_) #[y_,y_,y_,y_,y_,y_,y_,y_,y_,y_,y_,y_,y_,y_,y_,y_,y_,y_,y_,y_,y_,y_,y_,n_,n_,n_,n_,n_,n_,n_,n_,n_,n_,n_,n_] rfl rfl (any_of HT_.out (by kernel_rfl)) (fun _ _ _ h => h) (Or.inr ⟨by rfl, rfl⟩) ?_ ?_
             rotate_left
             ·simp only [Act.put, List.setIfInBounds_toArray, List.set_cons_zero, List.set_cons_succ, i64_w, i32_w]; rfl
             refine pure_ (i := 23) (N := some 113) (v := undef) (a' := ?_) #[y_,y_,y_,y_,y_,y_,y_,y_,y_,y_,y_,y_,y_,y_,y_,y_,y_,y_,y_,y_,y_,y_,y_,y_,n_,n_,n_,n_,n_,n_,n_,n_,n_,n_,n_] rfl rfl (any_of HT_.out (by kernel_rfl)) (fun _ _ _ h => h) (Or.inr ⟨by rfl, rfl⟩) ?_ ?_
             rotate_left
             ·simp only [Act.put, List.setIfInBounds_toArray, List.set_cons_zero, List.set_cons_succ, i64_w, i32_w]; rfl
             refine pure_ (i := 24) (N := some 114) (v := undef) (a' := ?_) #[y_,y_,y_,y_,y_,y_,y_,y_,y_,y_,y_,y_,y_,y_,y_,y_,y_,y_,y_,y_,y_,y_,y_,y_,y_,n_,n_,n_,n_,n_,n_,n_,n_,n_,n_] rfl rfl (any_of HT_.out (by kernel_rfl)) (fun _ _ _ h => h) (Or.inr ⟨by rfl, rfl⟩) ?_ ?_
             rotate_left
             ·simp only [Act.put, List.setIfInBounds_toArray, List.set_cons_zero, List.set_cons_succ, i64_w, i32_w]; rfl
             refine pure_ (i := 25) (N := some 115) (v := undef) (a' := ?_) #[y_,y_,y_,y_,y_,y_,y_,y_,y_,y_,y_,y_,y_,y_,y_,y_,y_,y_,y_,y_,y_,y_,y_,y_,y_,y_,n_,n_,n_,n_,n_,n_,n_,n_,n_] rfl rfl (any_of HT_.out (by kernel_rfl)) (fun _ _ _ h => h) (Or.inr ⟨by rfl, rfl⟩) ?_ ?_
             rotate_left
             ·simp only [Act.put, List.setIfInBounds_toArray, List.set_cons_zero, List.set_cons_succ, i64_w, i32_w]; rfl
             refine pure_ (i := 26) (N := some 116) (v := undef) (a' := ?_) #[y_,y_,y_,y_,y_,y_,y_,y_,y_,y_,y_,y_,y_,y_,y_,y_,y_,y_,y_,y_,y_,y_,y_,y_,y_,y_,y_,n_,n_,n_,n_,n_,n_,n_,n_] rfl rfl (any_of HT_.out (by kernel_rfl)) (fun _ _ _ h => h) (Or.inr ⟨by rfl, rfl⟩) ?_ ?_
             rotate_left
             ·simp only [Act.put, List.setIfInBounds_toArray, List.set_cons_zero, List.set_cons_succ, i64_w, i32_w]; rfl
             refine pure_ (i := 27) (N := some 117) (v := undef) (a' := ?_) #[y_,y_,y_,y_,y_,y_,y_,y_,y_,y_,y_,y_,y_,y_,y_,y_,y_,y_,y_,y_,y_,y_,y_,y_,y_,y_,y_,y_,n_,n_,n_,n_,n_,n_,n_] rfl rfl (any_of HT_.out (by kernel_rfl)) (fun _ _ _ h => h) (Or.inr ⟨by rfl, rfl⟩) ?_ ?_
             rotate_left
             ·simp only [Act.put, List.setIfInBounds_toArray, List.set_cons_zero, List.set_cons_succ, i64_w, i32_w]; rfl
             refine pure_ (i := 28) (N := some 118) (v := ?_) (a' := ?_) #[y_,y_,y_,y_,y_,y_,y_,y_,y_,y_,y_,y_,y_,y_,y_,y_,y_,y_,y_,y_,y_,y_,y_,y_,y_,y_,y_,y_,y_,n_,n_,n_,n_,n_,n_] rfl rfl (any_of HT_.out (by kernel_rfl)) (fun _ _ _ h => h) (Or.inl ⟨by rfl, ?_⟩) ?_ ?_
             rotate_left
             ·intro w'; go_simp; with_reducible rfl
             rotate_left
             ·simp only [Act.put, List.setIfInBounds_toArray, List.set_cons_zero, List.set_cons_succ, i64_w, i32_w]; rfl
             refine pure_ (i := 29) (N := some 119) (v := ?_) (a' := ?_) #[y_,y_,y_,y_,y_,y_,y_,y_,y_,y_,y_,y_,y_,y_,y_,y_,y_,y_,y_,y_,y_,y_,y_,y_,y_,y_,y_,y_,y_,y_,n_,n_,n_,n_,n_] rfl rfl (any_of HT_.out (by kernel_rfl)) (fun _ _ _ h => h) (Or.inl ⟨by rfl, ?_⟩) ?_ ?_
             rotate_left
             ·intro w'; go_simp; with_reducible rfl
             rotate_left
             ·simp only [Act.put, List.setIfInBounds_toArray, List.set_cons_zero, List.set_cons_succ, i64_w, i32_w]; rfl
             refine pure_ (i := 30) (N := some 120) (v := undef) (a' := ?_) #[y_,y_,y_,y_,y_,y_,y_,y_,y_,y_,y_,y_,y_,y_,y_,y_,y_,y_,y_,y_,y_,y_,y_,y_,y_,y_,y_,y_,y_,y_,y_,n_,n_,n_,n_] rfl rfl (any_of HT_.out (by kernel_rfl)) (fun _ _ _ h => h) (Or.inr ⟨by rfl, rfl⟩) ?_ ?_
             rotate_left
             ·simp only [Act.put, List.setIfInBounds_toArray, List.set_cons_zero, List.set_cons_succ, i64_w, i32_w]; rfl
             refine pure_ (i := 31) (N := some 121) (v := undef) (a' := ?_) #[y_,y_,y_,y_,y_,y_,y_,y_,y_,y_,y_,y_,y_,y_,y_,y_,y_,y_,y_,y_,y_,y_,y_,y_,y_,y_,y_,y_,y_,y_,y_,y_,n_,n_,n_] rfl rfl (any_of HT_.out (by kernel_rfl)) (fun _ _ _ h => h) (Or.inr ⟨by rfl, rfl⟩) ?_ ?_
             rotate_left
             ·simp only [Act.put, List.setIfInBounds_toArray, List.set_cons_zero, List.set_cons_succ, i64_w, i32_w]; rfl
             refine pure_ (i := 32) (N := some 122) (v := undef) (a' := ?_) #[y_,y_,y_,y_,y_,y_,y_,y_,y_,y_,y_,y_,y_,y_,y_,y_,y_,y_,y_,y_,y_,y_,y_,y_,y_,y_,y_,y_,y_,y_,y_,y_,y_,n_,n_] rfl rfl (any_of HT_.out (by kernel_rfl)) (fun _ _ _ h => h) (Or.inr ⟨by rfl, rfl⟩) ?_ ?_
             rotate_left
             ·simp only [Act.put, List.setIfInBounds_toArray, List.set_cons_zero, List.set_cons_succ, i64_w, i32_w]; rfl
             refine pure_ (i := 33) (N := some 123) (v := ?_) (a' := ?_) #[y_,y_,y_,y_,y_,y_,y_,y_,y_,y_,y_,y_,y_,y_,y_,y_,y_,y_,y_,y_,y_,y_,y_,y_,y_,y_,y_,y_,y_,y_,y_,y_,y_,y_,n_] rfl rfl (any_of HT_.out (by kernel_rfl)) (fun _ _ _ h => h) (Or.inl ⟨by rfl, ?_⟩) ?_ ?_
             rotate_left
             ·intro w'; go_simp; with_reducible rfl
             rotate_left
             ·simp only [Act.put, List.setIfInBounds_toArray, List.set_cons_zero, List.set_cons_succ, i64_w, i32_w]; rfl
             refine pure_ (i := 34) (N := some 2) (v := ?_) (a' := ?_) #[y_,y_,y_,y_,y_,y_,y_,y_,y_,y_,y_,y_,y_,y_,y_,y_,y_,y_,y_,y_,y_,y_,y_,y_,y_,y_,y_,y_,y_,y_,y_,y_,y_,y_,y_] rfl rfl (any_of HT_.out (by kernel_rfl)) (fun _ _ _ h => h) (Or.inl ⟨by rfl, ?_⟩) ?_ ?_
             rotate_left
             ·intro w'; go_simp; with_reducible rfl
             rotate_left
             ·simp only [Act.put, List.setIfInBounds_toArray, List.set_cons_zero, List.set_cons_succ, i64_w, i32_w]; rfl
             refine done_ (done_of HT_.out (by kernel_rfl)) ?_
             try go_wp2
             go_ret
             exact ⟨by first | rfl | (simp [errW_none, errW_some] <;> rfl) | (simp [*, errW_none, errW_some] <;> rfl), by repeat (first | (with_reducible first | exact HB.out | apply below_alloc | apply pw_below_drewN | apply below_drew1) | exact HB.out)⟩
           ·rw [if_neg c85] at H; exact absurd H (by simp)
          ·rw [if_neg c84] at H; exact absurd H (by simp)
         ·replace c83 := Bool.eq_false_iff.mpr c83
          subst c83
          have H1 : (some false) = some r := by rw [if_neg (show ¬ (false = true) by decide)] at H; exact H
          clear H; have H := H1; clear H1; obtain rfl := Option.some.inj H
          try go_wp2
          have n0_ := Aside0.mk (Kd.R_drew HO_3.out); have n1_ := Aside0.mk (Kd.R_drew HO_4.out); have n2_ := Aside0.mk (Kd.R_drew HO_5.out); have n3_ := Aside0.mk (below_drew1 HB.out); clear HO_3; clear HO_4; clear HO_5; clear HB; have HO_3 := n0_; have HO_4 := n1_; have HO_5 := n2_; have HB := n3_; clear n0_ n1_ n2_ n3_; obtain ⟨Ao103, co103, eo103⟩ := Kd.R_slice HO_5.out; (first | subst eo103 | (injection eo103 with f1_ f2_ f3_; have f4_ := f1_.symm; have f5_ := f3_.symm; clear f1_ f2_ f3_; subst f4_; subst f5_)); refine start_ (n := 35) (S := fun w' => True) (ds := []) #[n_,n_,n_,n_,n_,n_,n_,n_,n_,n_,n_,n_,n_,n_,n_,n_,n_,n_,n_,n_,n_,n_,n_,n_,n_,n_,n_,n_,n_,n_,n_,n_,n_,n_,n_] (by kernel_rfl) rfl rfl trivial (fun hHeld => ?_); refine with_tabW laws_FnTurns.tab17 laws_FnTurns.bits17 (fun HT_ HW_ => ?_); generalize wr.drew = w102 at HO_3 HO_4 HO_5 HB hHeld ⊢; refine pure_ (i := 0) (N := some 90) (v := ?_) (a' := ?_) #[y_,n_,n_,n_,n_,n_,n_,n_,n_,n_,n_,n_,n_,n_,n_,n_,n_,n_,n_,n_,n_,n_,n_,n_,n_,n_,n_,n_,n_,n_,n_,n_,n_,n_,n_] rfl rfl (any_of HT_.out (by kernel_rfl)) (fun _ _ _ h => h) (Or.inl ⟨by rfl, ?_⟩) ?_ ?_
          rotate_left
          ·intro w'; go_simp; with_reducible rfl
          rotate_left
          ·simp only [Act.put, List.setIfInBounds_toArray, List.set_cons_zero, List.set_cons_succ, i64_w, i32_w]; rfl
          refine pure_ (i := 1) (N := some 91) (v := ?_) (a' := ?_) #[y_,y_,n_,n_,n_,n_,n_,n_,n_,n_,n_,n_,n_,n_,n_,n_,n_,n_,n_,n_,n_,n_,n_,n_,n_,n_,n_,n_,n_,n_,n_,n_,n_,n_,n_] rfl rfl (any_of HT_.out (by kernel_rfl)) (fun _ _ _ h => h) (Or.inl ⟨by rfl, ?_⟩) ?_ ?_
          rotate_left
          ·intro w'; go_simp; with_reducible rfl
          rotate_left
          ·simp only [Act.put, List.setIfInBounds_toArray, List.set_cons_zero, List.set_cons_succ, i64_w, i32_w]; rfl
          refine pure_ (i := 2) (N := some 92) (v := ?_) (a' := ?_) #[y_,y_,y_,n_,n_,n_,n_,n_,n_,n_,n_,n_,n_,n_,n_,n_,n_,n_,n_,n_,n_,n_,n_,n_,n_,n_,n_,n_,n_,n_,n_,n_,n_,n_,n_] rfl rfl (any_of HT_.out (by kernel_rfl)) (fun _ _ _ h => h) (Or.inl ⟨by rfl, ?_⟩) ?_ ?_
          rotate_left
          ·intro w'; go_simp; with_reducible rfl
          rotate_left
          ·simp only [Act.put, List.setIfInBounds_toArray, List.set_cons_zero, List.set_cons_succ, i64_w, i32_w]; rfl
          refine pure_ (i := 3) (N := some 93) (v := ?_) (a' := ?_) #[y_,y_,y_,y_,n_,n_,n_,n_,n_,n_,n_,n_,n_,n_,n_,n_,n_,n_,n_,n_,n_,n_,n_,n_,n_,n_,n_,n_,n_,n_,n_,n_,n_,n_,n_] rfl rfl (any_of HT_.out (by kernel_rfl)) (fun _ _ _ h => h) (Or.inl ⟨by rfl, ?_⟩) ?_ ?_
          rotate_left
          ·intro w'; go_simp; with_reducible rfl
          rotate_left
          ·simp only [Act.put, List.setIfInBounds_toArray, List.set_cons_zero, List.set_cons_succ, i64_w, i32_w]; rfl
          refine one_ (i := 4) (N := some 94) #[y_,y_,y_,y_,y_,n_,n_,n_,n_,n_,n_,n_,n_,n_,n_,n_,n_,n_,n_,n_,n_,n_,n_,n_,n_,n_,n_,n_,n_,n_,n_,n_,n_,n_,n_] rfl rfl (one_of HT_.out (by kernel_rfl)) (by decide) (fun K hK => ?_); refine goes_ Try.func19 (by kernel_rfl) rfl #[.slice Ao103 t115.length co103, .slice Ao7 t101.length co7] (by rfl) rfl rfl (by (try simp only [List.map_toArray, List.map_cons, List.map_nil]); first | done | rfl | (simp only [List.length_drop, List.length_take]; rfl)) ?_
          with_reducible refine (laws_luSame.calls k2 _ _ t115 _ _ t101 false _ ?side1 ?side2 ?side3 ?side4 A82.out).mono ?_
          (case side1 => repeat (first | exact (Kd.R_reads' HO_5.out).2.2 | (with_reducible refine Kd.C_alloc ?_ _) | (with_reducible refine Kd.C_drewN ?_ _) | (with_reducible refine Kd.C_drew ?_))); (case side2 => exact (Kd.R_reads' HO_5.out).2.1); (case side3 => repeat (first | exact (Kd.R_reads' HO_3.out).2.2 | (with_reducible refine Kd.C_alloc ?_ _) | (with_reducible refine Kd.C_drewN ?_ _) | (with_reducible refine Kd.C_drew ?_))); (case side4 => exact (Kd.R_reads' HO_3.out).2.1); rintro e w' ⟨rfl, ⟨nd, rfl⟩⟩; refine ⟨_, rfl, ?_⟩; refine hK.out _ _ trivial (fun hHeld => ?_); clear hK K; refine norm_ (a' := ?_) ?_ ?_
          rotate_left
          ·show Act.put _ (some 94) _ = _
           simp only [Act.put, List.setIfInBounds_toArray, List.set_cons_zero, List.set_cons_succ, i64_w, i32_w]; rfl
          refine pure_ (i := 5) (N := some 95) (v := ?_) (a' := ?_) #[y_,y_,y_,y_,y_,y_,n_,n_,n_,n_,n_,n_,n_,n_,n_,n_,n_,n_,n_,n_,n_,n_,n_,n_,n_,n_,n_,n_,n_,n_,n_,n_,n_,n_,n_] rfl rfl (any_of HT_.out (by kernel_rfl)) (fun _ _ _ h => h) (Or.inl ⟨by rfl, ?_⟩) ?_ ?_
          rotate_left
          ·intro w'; go_simp; with_reducible rfl
          rotate_left
          ·simp only [Act.put, List.setIfInBounds_toArray, List.set_cons_zero, List.set_cons_succ, i64_w, i32_w]; rfl
          refine pure_ (i := 6) (N := some 96) (v := ?_) (a' := ?_) #[y_,y_,y_,y_,y_,y_,y_,n_,n_,n_,n_,n_,n_,n_,n_,n_,n_,n_,n_,n_,n_,n_,n_,n_,n_,n_,n_,n_,n_,n_,n_,n_,n_,n_,n_] rfl rfl (any_of HT_.out (by kernel_rfl)) (fun _ _ _ h => h) (Or.inl ⟨by rfl, ?_⟩) ?_ ?_
          rotate_left
          ·intro w'; go_simp; with_reducible rfl
          rotate_left
          ·simp only [Act.put, List.setIfInBounds_toArray, List.set_cons_zero, List.set_cons_succ, i64_w, i32_w]; rfl
          refine pure_ (i := 7) (N := some 97) (v := undef) (a' := ?_) #[y_,y_,y_,y_,y_,y_,y_,y_,n_,n_,n_,n_,n_,n_,n_,n_,n_,n_,n_,n_,n_,n_,n_,n_,n_,n_,n_,n_,n_,n_,n_,n_,n_,n_,n_] rfl rfl (any_of HT_.out (by kernel_rfl)) (fun _ _ _ h => h) (Or.inr ⟨by rfl, rfl⟩) ?_ ?_
          rotate_left
          ·simp only [Act.put, List.setIfInBounds_toArray, List.set_cons_zero, List.set_cons_succ, i64_w, i32_w]; rfl
          refine pure_ (i := 8) (N := some 98) (v := undef) (a' := ?_) #[y_,y_,y_,y_,y_,y_,y_,y_,y_,n_,n_,n_,n_,n_,n_,n_,n_,n_,n_,n_,n_,n_,n_,n_,n_,n_,n_,n_,n_,n_,n_,n_,n_,n_,n_] rfl rfl (any_of HT_.out (by kernel_rfl)) (fun _ _ _ h => h) (Or.inr ⟨by rfl, rfl⟩) ?_ ?_
          rotate_left
          ·simp only [Act.put, List.setIfInBounds_toArray, List.set_cons_zero, List.set_cons_succ, i64_w, i32_w]; rfl
          refine pure_ (i := 9) (N := some 99) (v := undef) (a' := ?_) #[y_,y_,y_,y_,y_,y_,y_,y_,y_,y_,n_,n_,n_,n_,n_,n_,n_,n_,n_,n_,n_,n_,n_,n_,n_,n_,n_,n_,n_,n_,n_,n_,n_,n_,n_] rfl rfl (any_of HT_.out (by kernel_rfl)) (fun _ _ _ h => h) (Or.inr ⟨by rfl, rfl⟩) ?_ ?_
          rotate_left
          ·simp only [Act.put, List.setIfInBounds_toArray, List.set_cons_zero, List.set_cons_succ, i64_w, i32_w]; rfl
          refine pure_ (i := 10) (N := some 100) (v := undef) (a' := ?_) #[y_,y_,y_,y_,y_,y_,y_,y_,y_,y_,y_,n_,n_,n_,n_,n_,n_,n_,n_,n_,n_,n_,n_,n_,n_,n_,n_,n_,n_,n_,n_,n_,n_,n_,n_] rfl rfl (any_of HT_.out (by kernel_rfl)) (fun _ _ _ h => h) (Or.inr ⟨by rfl, rfl⟩) ?_ ?_
          rotate_left
          ·simp only [Act.put, List.setIfInBounds_toArray, List.set_cons_zero, List.set_cons_succ, i64_w, i32_w]; rfl
          refine pure_ (i := 11) (N := some 101) (v := undef) (a' := ?_) #[y_,y_,y_,y_,y_,y_,y_,y_,y_,y_,y_,y_,n_,n_,n_,n_,n_,n_,n_,n_,n_,n_,n_,n_,n_,n_,n_,n_,n_,n_,n_,n_,n_,n_,n_] rfl rfl (any_of HT_.out (by kernel_rfl)) (fun _ _ _ h => h) (Or.inr ⟨by rfl, rfl⟩) ?_ ?_
          rotate_left
          ·simp only [Act.put, List.setIfInBounds_toArray, List.set_cons_zero, List.set_cons_succ, i64_w, i32_w]; rfl
          refine pure_ (i := 12) (N := some 102) (v := undef) (a' := ?_) #[y_,y_,y_,y_,y_,y_,y_,y_,y_,y_,y_,y_,y_,n_,n_,n_,n_,n_,n_,n_,n_,n_,n_,n_,n_,n_,n_,n_,n_,n_,n_,n_,n_,n_,n_] rfl rfl (any_of HT_.out (by kernel_rfl)) (fun _ _ _ h => h) (Or.inr ⟨by rfl, rfl⟩) ?_ ?_
          rotate_left
          ·simp only [Act.put, List.setIfInBounds_toArray, List.set_cons_zero, List.set_cons_succ, i64_w, i32_w]; rfl
          refine pure_ (i := 13) (N := some 103) (v := undef) (a' := ?_) #[y_,y_,y_,y_,y_,y_,y_,y_,y_,y_,y_,y_,y_,y_,n_,n_,n_,n_,n_,n_,n_,n_,n_,n_,n_,n_,n_,n_,n_,n_,n_,n_,n_,n_,n_] rfl rfl (any_of HT_.out (by kernel_rfl)) (fun _ _ _ h => h) (Or.inr ⟨by rfl, rfl⟩) ?_ ?_
          rotate_left
          ·simp only [Act.put, List.setIfInBounds_toArray, List.set_cons_zero, List.set_cons_succ, i64_w, i32_w]; rfl
          refine pure_ (i := 14) (N := some 104) (v := ?_) (a' := ?_) #[y_,y_,y_,y_,y_,y_,y_,y_,y_,y_,y_,y_,y_,y_,y_,n_,n_,n_,n_,n_,n_,n_,n_,n_,n_,n_,n_,n_,n_,n_,n_,n_,n_,n_,n_] rfl rfl (any_of HT_.out (by kernel_rfl)) (fun _ _ _ h => h) (Or.inl ⟨by rfl, ?_⟩) ?_ ?_
          rotate_left
          ·intro w'; go_simp; with_reducible rfl
          rotate_left
          ·simp only [Act.put, List.setIfInBounds_toArray, List.set_cons_zero, List.set_cons_succ, i64_w, i32_w]; rfl
          refine pure_ (i := 15) (N := some 105) (v := ?_) (a' := ?_) #[y_,y_,y_,y_,y_,y_,y_,y_,y_,y_,y_,y_,y_,y_,y_,y_,n_,n_,n_,n_,n_,n_,n_,n_,n_,n_,n_,n_,n_,n_,n_,n_,n_,n_,n_] rfl rfl (any_of HT_.out (by kernel_rfl)) (fun _ _ _ h => h) (Or.inl ⟨by rfl, ?_⟩) ?_ ?_
          rotate_left
          ·intro w'; go_simp; with_reducible rfl
          rotate_left
          ·simp only [Act.put, List.setIfInBounds_toArray, List.set_cons_zero, List.set_cons_succ, i64_w, i32_w]; rfl
          refine pure_ (i := 16) (N := some 106) (v := undef) (a' := ?_) #[y_,y_,y_,y_,y_,y_,y_,y_,y_,y_,y_,y_,y_,y_,y_,y_,y_,n_,n_,n_,n_,n_,n_,n_,n_,n_,n_,n_,n_,n_,n_,n_,n_,n_,n_] rfl rfl (any_of HT_.out (by kernel_rfl)) (fun _ _ _ h => h) (Or.inr ⟨by rfl, rfl⟩) ?_ ?_
          rotate_left
          ·simp only [Act.put, List.setIfInBounds_toArray, List.set_cons_zero, List.set_cons_succ, i64_w, i32_w]; rfl
          refine pure_ (i := 17) (N := some 107) (v := undef) (a' := ?_) #[y_,y_,y_,y_,y_,y_,y_,y_,y_,y_,y_,y_,y_,y_,y_,y_,y_,y_,n_,n_,n_,n_,n_,n_,n_,n_,n_,n_,n_,n_,n_,n_,n_,n_,n_] rfl rfl (any_of HT_.out (by kernel_rfl)) (fun _ _ _ h => h) (Or.inr ⟨by rfl, rfl⟩) ?_ ?_
          rotate_left
          ·simp only [Act.put, List.setIfInBounds_toArray, List.set_cons_zero, List.set_cons_succ, i64_w, i32_w]; rfl
          refine pure_ (i := 18) (N := some 108) (v := undef) (a' := ?_) #[y_,y_,y_,y_,y_,y_,y_,y_,y_,y_,y_,y_,y_,y_,y_,y_,y_,y_,y_,n_,n_,n_,n_,n_,n_,n_,n_,n_,n_,n_,n_,n_,n_,n_,n_] rfl rfl (any_of HT_.out (by kernel_rfl)) (fun _ _ _ h => h) (Or.inr ⟨by rfl, rfl⟩) ?_ ?_
          rotate_left
          ·simp only [Act.put, List.setIfInBounds_toArray, List.set_cons_zero, List.set_cons_succ, i64_w, i32_w]; rfl
          refine pure_ (i := 19) (N := some 109) (v := undef) (a' := ?_) #[y_,y_,y_,y_,y_,y_,y_,y_,y_,y_,y_,y_,y_,y_,y_,y_,y_,y_,y_,y_,n_,n_,n_,n_,n_,n_,n_,n_,n_,n_,n_,n_,n_,n_,n_] rfl rfl (any_of HT_.out (by kernel_rfl)) (fun _ _ _ h => h) (Or.inr ⟨by rfl, rfl⟩) ?_ ?_
          rotate_left
          ·simp only [Act.put, List.setIfInBounds_toArray, List.set_cons_zero, List.set_cons_succ, i64_w, i32_w]; rfl
          refine pure_ (i := 20) (N := some 110) (v := undef) (a' := ?_) #[y_,y_,y_,y_,y_,y_,y_,y_,y_,y_,y_,y_,y_,y_,y_,y_,y_,y_,y_,y_,y_,n_,n_,n_,n_,n_,n_,n_,n_,n_,n_,n_,n_,n_,n_] rfl rfl (any_of HT_.out (by kernel_rfl)) (fun _ _ _ h => h) (Or.inr ⟨by rfl, rfl⟩) ?_ ?_
          rotate_left
          ·simp only [Act.put, List.setIfInBounds_toArray, List.set_cons_zero, List.set_cons_succ, i64_w, i32_w]; rfl
          refine pure_ (i := 21) (N := some 111) (v := undef) (a' := ?_) #[y_,y_,y_,y_,y_,y_,y_,y_,y_,y_,y_,y_,y_,y_,y_,y_,y_,y_,y_,y_,y_,y_,n_,n_,n_,n_,n_,n_,n_,n_,n_,n_,n_,n_,n_] rfl rfl (any_of HT_.out (by kernel_rfl)) (fun _ _ _ h => h) (Or.inr ⟨by rfl, rfl⟩) ?_ ?_
          rotate_left
          ·simp only [Act.put, List.setIfInBounds_toArray, List.set_cons_zero, List.set_cons_succ, i64_w, i32_w]; rfl
          refine pure_ (i := 22) (N := some 112) (v := undef) (a' := ?_) #[y_,y_,y_,y_,y_,y_,y_,y_,y_,y_,y_,y_,y_,y_,y_,y_,y_,y_,y_,y_,y_,y_,y_,n_,n_,n_,n_,n_,n_,n_,n_,n_,n_,n_,n_] rfl rfl (any_of HT_.out (by kernel_rfl)) (fun _ _ _ h => h) (Or.inr ⟨by rfl, rfl⟩) ?_ ?_
          rotate_left
          ·simp only [Act.put, List.setIfInBounds_toArray, List.set_cons_zero, List.set_cons_succ, i64_w, i32_w]; rfl
          refine pure_ (i := 23) (N := some 113) (v := undef) (a' := ?_) #[y_,y_,y_,y_,y_,y_,y_,y_,y_,y_,y_,y_,y_,y_,y_,y_,y_,y_,y_,y_,y_,y_,y_,y_,n_,n_,n_,n_,n_,n_,n_,n_,n_,n_,n_] rfl rfl (any_of HT_.out (by kernel_rfl)) (fun _ _ _ h => h) (Or.inr ⟨by rfl, rfl⟩) ?_ ?_
          rotate_left
          ·simp only [Act.put, List.setIfInBounds_toArray, List.set_cons_zero, List.set_cons_succ, i64_w, i32_w]; rfl
          refine pure_ (i := 24) (N := some 114) (v := undef) (a' := ?_) #[y_,y_,y_,y_,y_,y_,y_,y_,y_,y_,y_,y_,y_,y_,y_,y_,y_,y_,y_,y_,y_,y_,y_,y_,y_,n_,n_,n_,n_,n_,n_,n_,n_,n_,n_] rfl rfl (any_of HT_.out (by kernel_rfl)) (fun _ _ _ h => h) (Or.inr ⟨by rfl, rfl⟩) ?_ ?_
          rotate_left
          ·simp only [Act.put, List.setIfInBounds_toArray, List.set_cons_zero, List.set_cons_succ, i64_w, i32_w]; rfl
          refine pure_ (i := 25) (N := some 115) (v := undef) (a' := ?_) #[y_,y_,y_,y_,y_,y_,y_,y_,y_,y_,y_,y_,y_,y_,y_,y_,y_,y_,y_,y_,y_,y_,y_,y_,y_,y_,n_,n_,n_,n_,n_,n_,n_,n_,n_] rfl rfl (any_of HT_.out (by kernel_rfl)) (fun _ _ _ h => h) (Or.inr ⟨by rfl, rfl⟩) ?_ ?_
          rotate_left
          ·simp only [Act.put, List.setIfInBounds_toArray, List.set_cons_zero, List.set_cons_succ, i64_w, i32_w]; rfl
          refine pure_ (i := 26) (N := some 116) (v := undef) (a' := ?_) #[y_,y_,y_,y_,y_,y_,y_,y_,y_,y_,y_,y_,y_,y_,y_,y_,y_,y_,y_,y_,y_,y_,y_,y_,y_,y_,y_,n_,n_,n_,n_,n_,n_,n_,n_] rfl rfl (any_of HT_.out (by kernel_rfl)) (fun _ _ _ h => h) (Or.inr ⟨by rfl, rfl⟩) ?_ ?_
          rotate_left
          ·simp only [Act.put, List.setIfInBounds_toArray, List.set_cons_zero, List.set_cons_succ, i64_w, i32_w]; rfl
          refine pure_ (i := 27) (N := some 117) (v := undef) (a' := ?_) #[y_,y_,y_,y_,y_,y_,y_,y_,y_,y_,y_,y_,y_,y_,y_,y_,y_,y_,y_,y_,y_,y_,y_,y_,y_,y_,y_,y_,n_,n_,n_,n_,n_,n_,n_] rfl rfl (any_of HT_.out (by kernel_rfl)) (fun _ _ _ h => h) (Or.inr ⟨by rfl, rfl⟩) ?_ ?_
          rotate_left
          ·simp only [Act.put, List.setIfInBounds_toArray, List.set_cons_zero, List.set_cons_succ, i64_w, i32_w]; rfl
          refine pure_ (i := 28) (N := some 118) (v := ?_) (a' := ?_) #[y_,y_,y_,y_,y_,y_,y_,y_,y_,y_,y_,y_,y_,y_,y_,y_,y_,y_,y_,y_,y_,y_,y_,y_,y_,y_,y_,y_,y_,n_,n_,n_,n_,n_,n_] rfl rfl (any_of HT_.out (by kernel_rfl)) (fun _ _ _ h => h) (Or.inl ⟨by rfl, ?_⟩) ?_ ?_
          rotate_left
          ·intro w'; go_simp; with_reducible rfl
          rotate_left
          ·simp only [Act.put, List.setIfInBounds_toArray, List.set_cons_zero, List.set_cons_succ, i64_w, i32_w]; rfl
          refine pure_ (i := 29) (N := some 119) (v := ?_) (a' := ?_) #[y_,y_,y_,y_,y_,y_,y_,y_,y_,y_,y_,y_,y_,y_,y_,y_,y_,y_,y_,y_,y_,y_,y_,y_,y_,y_,y_,y_,y_,y_,n_,n_,n_,n_,n_] rfl rfl (any_of HT_.out (by kernel_rfl)) (fun _ _ _ h => h) (Or.inl ⟨by rfl, ?_⟩) ?_ ?_
          rotate_left
          ·intro w'; go_simp; with_reducible rfl
          rotate_left
          ·simp only [Act.put, List.setIfInBounds_toArray, List.set_cons_zero, List.set_cons_succ, i64_w, i32_w]; rfl
          refine pure_ (i := 30) (N := some 120) (v := undef) (a' := ?_) #[y_,y_,y_,y_,y_,y_,y_,y_,y_,y_,y_,y_,y_,y_,y_,y_,y_,y_,y_,y_,y_,y_,y_,y_,y_,y_,y_,y_,y_,y_,y_,n_,n_,n_,n_] rfl rfl (any_of HT_.out (by kernel_rfl)) (fun _ _ _ h => h) (Or.inr ⟨by rfl, rfl⟩) ?_ ?_
          rotate_left
          ·simp only [Act.put, List.setIfInBounds_toArray, List.set_cons_zero, List.set_cons_succ, i64_w, i32_w]; rfl
          refine pure_ (i := 31) (N := some 121) (v := undef) (a' := ?_) #[y_,y_,y_,y_,y_,y_,y_,y_,y_,y_,y_,y_,y_,y_,y_,y_,y_,y_,y_,y_,y_,y_,y_,y_,y_,y_,y_,y_,y_,y_,y_,y_,n_,n_,n_] rfl rfl (any_of HT_.out (by kernel_rfl)) (fun _ _ _ h => h) (Or.inr ⟨by rfl, rfl⟩) ?_ ?_
          rotate_left
          ·simp only [Act.put, List.setIfInBounds_toArray, List.set_cons_zero, List.set_cons_succ, i64_w, i32_w]; rfl
          refine pure_ (i := 32) (N := some 122) (v := undef) (a' := ?_) #[y_,y_,y_,y_,y_,y_,y_,y_,y_,y_,y_,y_,y_,y_,y_,y_,y_,y_,y_,y_,y_,y_,y_,y_,y_,y_,y_,y_,y_,y_,y_,y_,y_,n_,n_] rfl rfl (any_of HT_.out (by kernel_rfl)) (fun _ _ _ h => h) (Or.inr ⟨by rfl, rfl⟩) ?_ ?_
          rotate_left
          ·simp only [Act.put, List.setIfInBounds_toArray, List.set_cons_zero, List.set_cons_succ, i64_w, i32_w]; rfl
          refine pure_ (i := 33) (N := some 123) (v := ?_) (a' := ?_) #[y_,y_,y_,y_,y_,y_,y_,y_,y_,y_,y_,y_,y_,y_,y_,y_,y_,y_,y_,y_,y_,y_,y_,y_,y_,y_,y_,y_,y_,y_,y_,y_,y_,y_,n_] rfl rfl (any_of HT_.out (by kernel_rfl)) (fun _ _ _ h => h) (Or.inl ⟨by rfl, ?_⟩) ?_ ?_
          rotate_left
          ·intro w'; go_simp; with_reducible rfl
          rotate_left
          ·simp only [Act.put, List.setIfInBounds_toArray, List.set_cons_zero, List.set_cons_succ, i64_w, i32_w]; rfl
          refine pure_ (i := 34) (N := some 2) (v := ?_) (a' := ?_) #[y_,y_,y_,y_,y_,y_,y_,y_,y_,y_,y_,y_,y_,y_,y_,y_,y_,y_,y_,y_,y_,y_,y_,y_,y_,y_,y_,y_,y_,y_,y_,y_,y_,y_,y_] rfl rfl (any_of HT_.out (by kernel_rfl)) (fun _ _ _ h => h) (Or.inl ⟨by rfl, ?_⟩) ?_ ?_
          rotate_left
          ·intro w'; go_simp; with_reducible rfl
          rotate_left
          ·simp only [Act.put, List.setIfInBounds_toArray, List.set_cons_zero, List.set_cons_succ, i64_w, i32_w]; rfl
          refine done_ (done_of HT_.out (by kernel_rfl)) ?_
          try go_wp2
          go_ret
          exact ⟨by first | rfl | (simp [errW_none, errW_some] <;> rfl) | (simp [*, errW_none, errW_some] <;> rfl), by repeat (first | (with_reducible first | exact HB.out | apply below_alloc | apply pw_below_drewN | apply below_drew1) | exact HB.out)⟩
        ·replace c81 := Bool.eq_false_iff.mpr c81
         subst c81
         have H1 : (some false) = some r := by rw [if_neg (show ¬ (false = true) by decide)] at H; exact H
         clear H; have H := H1; clear H1; obtain rfl := Option.some.inj H
         try go_wp2
         have n0_ := Aside0.mk (Kd.R_drew HO_3.out); have n1_ := Aside0.mk (Kd.R_drew HO_4.out); have n2_ := Aside0.mk (Kd.R_drew HO_5.out); have n3_ := Aside0.mk (below_drew1 HB.out); clear HO_3; clear HO_4; clear HO_5; clear HB; have HO_3 := n0_; have HO_4 := n1_; have HO_5 := n2_; have HB := n3_; clear n0_ n1_ n2_ n3_; refine start_ (n := 35) (S := fun w' => True) (ds := []) #[n_,n_,n_,n_,n_,n_,n_,n_,n_,n_,n_,n_,n_,n_,n_,n_,n_,n_,n_,n_,n_,n_,n_,n_,n_,n_,n_,n_,n_,n_,n_,n_,n_,n_,n_] (by kernel_rfl) rfl rfl trivial (fun hHeld => ?_); refine with_tabW laws_FnTurns.tab17 laws_FnTurns.bits17 (fun HT_ HW_ => ?_); generalize wr.drew = w104 at HO_3 HO_4 HO_5 HB hHeld ⊢; refine pure_ (i := 0) (N := some 90) (v := ?_) (a' := ?_) #[y_,n_,n_,n_,n_,n_,n_,n_,n_,n_,n_,n_,n_,n_,n_,n_,n_,n_,n_,n_,n_,n_,n_,n_,n_,n_,n_,n_,n_,n_,n_,n_,n_,n_,n_] rfl rfl (any_of HT_.out (by kernel_rfl)) (fun _ _ _ h => h) (Or.inl ⟨by rfl, ?_⟩) ?_ ?_
         rotate_left
         ·intro w'; go_simp; with_reducible rfl
         rotate_left
         ·simp only [Act.put, List.setIfInBounds_toArray, List.set_cons_zero, List.set_cons_succ, i64_w, i32_w]; rfl
         refine pure_ (i := 1) (N := some 91) (v := ?_) (a' := ?_) #[y_,y_,n_,n_,n_,n_,n_,n_,n_,n_,n_,n_,n_,n_,n_,n_,n_,n_,n_,n_,n_,n_,n_,n_,n_,n_,n_,n_,n_,n_,n_,n_,n_,n_,n_] rfl rfl (any_of HT_.out (by kernel_rfl)) (fun _ _ _ h => h) (Or.inl ⟨by rfl, ?_⟩) ?_ ?_
         rotate_left
         ·intro w'; go_simp; with_reducible rfl
         rotate_left
         ·simp only [Act.put, List.setIfInBounds_toArray, List.set_cons_zero, List.set_cons_succ, i64_w, i32_w]; rfl
         refine pure_ (i := 2) (N := some 92) (v := undef) (a' := ?_) #[y_,y_,y_,n_,n_,n_,n_,n_,n_,n_,n_,n_,n_,n_,n_,n_,n_,n_,n_,n_,n_,n_,n_,n_,n_,n_,n_,n_,n_,n_,n_,n_,n_,n_,n_] rfl rfl (any_of HT_.out (by kernel_rfl)) (fun _ _ _ h => h) (Or.inr ⟨by rfl, rfl⟩) ?_ ?_
         rotate_left
         ·simp only [Act.put, List.setIfInBounds_toArray, List.set_cons_zero, List.set_cons_succ, i64_w, i32_w]; rfl
         refine pure_ (i := 3) (N := some 93) (v := undef) (a' := ?_) #[y_,y_,y_,y_,n_,n_,n_,n_,n_,n_,n_,n_,n_,n_,n_,n_,n_,n_,n_,n_,n_,n_,n_,n_,n_,n_,n_,n_,n_,n_,n_,n_,n_,n_,n_] rfl rfl (any_of HT_.out (by kernel_rfl)) (fun _ _ _ h => h) (Or.inr ⟨by rfl, rfl⟩) ?_ ?_
         rotate_left
         ·simp only [Act.put, List.setIfInBounds_toArray, List.set_cons_zero, List.set_cons_succ, i64_w, i32_w]; rfl
         refine pure_ (i := 4) (N := some 94) (v := undef) (a' := ?_) #[y_,y_,y_,y_,y_,n_,n_,n_,n_,n_,n_,n_,n_,n_,n_,n_,n_,n_,n_,n_,n_,n_,n_,n_,n_,n_,n_,n_,n_,n_,n_,n_,n_,n_,n_] rfl rfl (any_of HT_.out (by kernel_rfl)) (fun _ _ _ h => h) (Or.inr ⟨by rfl, rfl⟩) ?_ ?_
         rotate_left
         ·simp only [Act.put, List.setIfInBounds_toArray, List.set_cons_zero, List.set_cons_succ, i64_w, i32_w]; rfl
         refine pure_ (i := 5) (N := some 95) (v := ?_) (a' := ?_) #[y_,y_,y_,y_,y_,y_,n_,n_,n_,n_,n_,n_,n_,n_,n_,n_,n_,n_,n_,n_,n_,n_,n_,n_,n_,n_,n_,n_,n_,n_,n_,n_,n_,n_,n_] rfl rfl (any_of HT_.out (by kernel_rfl)) (fun _ _ _ h => h) (Or.inl ⟨by rfl, ?_⟩) ?_ ?_
         rotate_left
         ·intro w'; go_simp; with_reducible rfl
         rotate_left
         ·simp only [Act.put, List.setIfInBounds_toArray, List.set_cons_zero, List.set_cons_succ, i64_w, i32_w]; rfl
         refine pure_ (i := 6) (N := some 96) (v := ?_) (a' := ?_) #[y_,y_,y_,y_,y_,y_,y_,n_,n_,n_,n_,n_,n_,n_,n_,n_,n_,n_,n_,n_,n_,n_,n_,n_,n_,n_,n_,n_,n_,n_,n_,n_,n_,n_,n_] rfl rfl (any_of HT_.out (by kernel_rfl)) (fun _ _ _ h => h) (Or.inl ⟨by rfl, ?_⟩) ?_ ?_
         rotate_left
         ·intro w'; go_simp; with_reducible rfl
         rotate_left
         ·simp only [Act.put, List.setIfInBounds_toArray, List.set_cons_zero, List.set_cons_succ, i64_w, i32_w]; rfl
         refine pure_ (i := 7) (N := some 97) (v := undef) (a' := ?_) #[y_,y_,y_,y_,y_,y_,y_,y_,n_,n_,n_,n_,n_,n_,n_,n_,n_,n_,n_,n_,n_,n_,n_,n_,n_,n_,n_,n_,n_,n_,n_,n_,n_,n_,n_] rfl rfl (any_of HT_.out (by kernel_rfl)) (fun _ _ _ h => h) (Or.inr ⟨by rfl, rfl⟩) ?_ ?_
         rotate_left
         ·simp only [Act.put, List.setIfInBounds_toArray, List.set_cons_zero, List.set_cons_succ, i64_w, i32_w]; rfl
         refine pure_ (i := 8) (N := some 98) (v := undef) (a' := ?_) #[y_,y_,y_,y_,y_,y_,y_,y_,y_,n_,n_,n_,n_,n_,n_,n_,n_,n_,n_,n_,n_,n_,n_,n_,n_,n_,n_,n_,n_,n_,n_,n_,n_,n_,n_] rfl rfl (any_of HT_.out (by kernel_rfl)) (fun _ _ _ h => h) (Or.inr ⟨by rfl, rfl⟩) ?_ ?_
         rotate_left
         ·simp only [Act.put, List.setIfInBounds_toArray, List.set_cons_zero, List.set_cons_succ, i64_w, i32_w]; rfl
         refine pure_ (i := 9) (N := some 99) (v := undef) (a' := ?_) #[y_,y_,y_,y_,y_,y_,y_,y_,y_,y_,n_,n_,n_,n_,n_,n_,n_,n_,n_,n_,n_,n_,n_,n_,n_,n_,n_,n_,n_,n_,n_,n_,n_,n_,n_] rfl rfl (any_of HT_.out (by kernel_rfl)) (fun _ _ _ h => h) (Or.inr ⟨by rfl, rfl⟩) ?_ ?_
         rotate_left
         ·simp only [Act.put, List.setIfInBounds_toArray, List.set_cons_zero, List.set_cons_succ, i64_w, i32_w]; rfl
         refine pure_ (i := 10) (N := some 100) (v := undef) (a' := ?_) #[y_,y_,y_,y_,y_,y_,y_,y_,y_,y_,y_,n_,n_,n_,n_,n_,n_,n_,n_,n_,n_,n_,n_,n_,n_,n_,n_,n_,n_,n_,n_,n_,n_,n_,n_] rfl rfl (any_of HT_.out (by kernel_rfl)) (fun _ _ _ h => h) (Or.inr ⟨by rfl, rfl⟩) ?_ ?_
         rotate_left
         ·simp only [Act.put, List.setIfInBounds_toArray, List.set_cons_zero, List.set_cons_succ, i64_w, i32_w]; rfl
         refine pure_ (i := 11) (N := some 101) (v := undef) (a' := ?_) #[y_,y_,y_,y_,y_,y_,y_,y_,y_,y_,y_,y_,n_,n_,n_,n_,n_,n_,n_,n_,n_,n_,n_,n_,n_,n_,n_,n_,n_,n_,n_,n_,n_,n_,n_] rfl rfl (any_of HT_.out (by kernel_rfl)) (fun _ _ _ h => h) (Or.inr ⟨by rfl, rfl⟩) ?_ ?_
         rotate_left
         ·simp only [Act.put, List.setIfInBounds_toArray, List.set_cons_zero, List.set_cons_succ, i64_w, i32_w]; rfl
         refine pure_ (i := 12) (N := some 102) (v := undef) (a' := ?_) #[y_,y_,y_,y_,y_,y_,y_,y_,y_,y_,y_,y_,y_,n_,n_,n_,n_,n_,n_,n_,n_,n_,n_,n_,n_,n_,n_,n_,n_,n_,n_,n_,n_,n_,n_] rfl rfl (any_of HT_.out (by kernel_rfl)) (fun _ _ _ h => h) (Or.inr ⟨by rfl, rfl⟩) ?_ ?_
         rotate_left
         ·simp only [Act.put, List.setIfInBounds_toArray, List.set_cons_zero, List.set_cons_succ, i64_w, i32_w]; rfl
         refine pure_ (i := 13) (N := some 103) (v := undef) (a' := ?_) #[y_,y_,y_,y_,y_,y_,y_,y_,y_,y_,y_,y_,y_,y_,n_,n_,n_,n_,n_,n_,n_,n_,n_,n_,n_,n_,n_,n_,n_,n_,n_,n_,n_,n_,n_] rfl rfl (any_of HT_.out (by kernel_rfl)) (fun _ _ _ h => h) (Or.inr ⟨by rfl, rfl⟩) ?_ ?_
         rotate_left
         ·simp only [Act.put, List.setIfInBounds_toArray, List.set_cons_zero, List.set_cons_succ, i64_w, i32_w]; rfl
         refine pure_ (i := 14) (N := some 104) (v := ?_) (a' := ?_) #[y_,y_,y_,y_,y_,y_,y_,y_,y_,y_,y_,y_,y_,y_,y_,n_,n_,n_,n_,n_,n_,n_,n_,n_,n_,n_,n_,n_,n_,n_,n_,n_,n_,n_,n_] rfl rfl (any_of HT_.out (by kernel_rfl)) (fun _ _ _ h => h) (Or.inl ⟨by rfl, ?_⟩) ?_ ?_
         rotate_left
         ·intro w'; go_simp; with_reducible rfl
         rotate_left
         ·simp only [Act.put, List.setIfInBounds_toArray, List.set_cons_zero, List.set_cons_succ, i64_w, i32_w]; rfl
         refine pure_ (i := 15) (N := some 105) (v := ?_) (a' := ?_) #[y_,y_,y_,y_,y_,y_,y_,y_,y_,y_,y_,y_,y_,y_,y_,y_,n_,n_,n_,n_,n_,n_,n_,n_,n_,n_,n_,n_,n_,n_,n_,n_,n_,n_,n_] rfl rfl (any_of HT_.out (by kernel_rfl)) (fun _ _ _ h => h) (Or.inl ⟨by rfl, ?_⟩) ?_ ?_
         rotate_left
         ·intro w'; go_simp; with_reducible rfl
         rotate_left
         ·simp only [Act.put, List.setIfInBounds_toArray, List.set_cons_zero, List.set_cons_succ, i64_w, i32_w]; rfl
         refine pure_ (i := 16) (N := some 106) (v := undef) (a' := ?_) #[y_,y_,y_,y_,y_,y_,y_,y_,y_,y_,y_,y_,y_,y_,y_,y_,y_,n_,n_,n_,n_,n_,n_,n_,n_,n_,n_,n_,n_,n_,n_,n_,n_,n_,n_] rfl rfl (any_of HT_.out (by kernel_rfl)) (fun _ _ _ h => h) (Or.inr ⟨by rfl, rfl⟩) ?_ ?_
         rotate_left
         ·simp only [Act.put, List.setIfInBounds_toArray, List.set_cons_zero, List.set_cons_succ, i64_w, i32_w]; rfl
         refine pure_ (i := 17) (N := some 107) (v := undef) (a' := ?_) #[y_,y_,y_,y_,y_,y_,y_,y_,y_,y_,y_,y_,y_,y_,y_,y_,y_,y_,n_,n_,n_,n_,n_,n_,n_,n_,n_,n_,n_,n_,n_,n_,n_,n_,n_] rfl rfl (any_of HT_.out (by kernel_rfl)) (fun _ _ _ h => h) (Or.inr ⟨by rfl, rfl⟩) ?_ ?_
         rotate_left
         ·simp only [Act.put, List.setIfInBounds_toArray, List.set_cons_zero, List.set_cons_succ, i64_w, i32_w]; rfl
         refine pure_ (i := 18) (N := some 108) (v := undef) (a' := ?_) #[y_,y_,y_,y_,y_,y_,y_,y_,y_,y_,y_,y_,y_,y_,y_,y_,y_,y_,y_,n_,n_,n_,n_,n_,n_,n_,n_,n_,n_,n_,n_,n_,n_,n_,n_] rfl rfl (any_of HT_.out (by kernel_rfl)) (fun _ _ _ h => h) (Or.inr ⟨by rfl, rfl⟩) ?_ ?_
         rotate_left
         ·simp only [Act.put, List.setIfInBounds_toArray, List.set_cons_zero, List.set_cons_succ, i64_w, i32_w]; rfl
         refine pure_ (i := 19) (N := some 109) (v := undef) (a' := ?_) #[y_,y_,y_,y_,y_,y_,y_,y_,y_,y_,y_,y_,y_,y_,y_,y_,y_,y_,y_,y_,n_,n_,n_,n_,n_,n_,n_,n_,n_,n_,n_,n_,n_,n_,n_] rfl rfl (any_of HT_.out (by kernel_rfl)) (fun _ _ _ h => h) (Or.inr ⟨by rfl, rfl⟩) ?_ ?_
         rotate_left
         ·simp only [Act.put, List.setIfInBounds_toArray, List.set_cons_zero, List.set_cons_succ, i64_w, i32_w]; rfl
         refine pure_ (i := 20) (N := some 110) (v := undef) (a' := ?_) #[y_,y_,y_,y_,y_,y_,y_,y_,y_,y_,y_,y_,y_,y_,y_,y_,y_,y_,y_,y_,y_,n_,n_,n_,n_,n_,n_,n_,n_,n_,n_,n_,n_,n_,n_] rfl rfl (any_of HT_.out (by kernel_rfl)) (fun _ _ _ h => h) (Or.inr ⟨by rfl, rfl⟩) ?_ ?_
         rotate_left
         ·simp only [Act.put, List.setIfInBounds_toArray, List.set_cons_zero, List.set_cons_succ, i64_w, i32_w]; rfl
         refine pure_ (i := 21) (N := some 111) (v := undef) (a' := ?_) #[y_,y_,y_,y_,y_,y_,y_,y_,y_,y_,y_,y_,y_,y_,y_,y_,y_,y_,y_,y_,y_,y_,n_,n_,n_,n_,n_,n_,n_,n_,n_,n_,n_,n_,n_] rfl rfl (any_of HT_.out (by kernel_rfl)) (fun _ _ _ h => h) (Or.inr ⟨by rfl, rfl⟩) ?_ ?_
         rotate_left
         ·simp only [Act.put, List.setIfInBounds_toArray, List.set_cons_zero, List.set_cons_succ, i64_w, i32_w]; rfl
         refine pure_ (i := 22) (N := some 112) (v := undef) (a' := ?_) #[y_,y_,y_,y_,y_,y_,y_,y_,y_,y_,y_,y_,y_,y_,y_,y_,y_,y_,y_,y_,y_,y_,y_,n_,n_,n_,n_,n_,n_,n_,n_,n_,n_,n_,n_] rfl rfl (any_of HT_.out (by kernel_rfl)) (fun _ _ _ h => h) (Or.inr ⟨by rfl, rfl⟩) ?_ ?_
         rotate_left
         ·simp only [Act.put, List.setIfInBounds_toArray, List.set_cons_zero, List.set_cons_succ, i64_w, i32_w]; rfl
         refine pure_ (i := 23) (N := some 113) (v := undef) (a' := ?_) #[y_,y_,y_,y_,y_,y_,y_,y_,y_,y_,y_,y_,y_,y_,y_,y_,y_,y_,y_,y_,y_,y_,y_,y_,n_,n_,n_,n_,n_,n_,n_,n_,n_,n_,n_] rfl rfl (any_of HT_.out (by kernel_rfl)) (fun _ _ _ h => h) (Or.inr ⟨by rfl, rfl⟩) ?_ ?_
         rotate_left
         ·simp only [Act.put, List.setIfInBounds_toArray, List.set_cons_zero, List.set_cons_succ, i64_w, i32_w]; rfl
         refine pure_ (i := 24) (N := some 114) (v := undef) (a' := ?_) #[y_,y_,y_,y_,y_,y_,y_,y_,y_,y_,y_,y_,y_,y_,y_,y_,y_,y_,y_,y_,y_,y_,y_,y_,y_,n_,n_,n_,n_,n_,n_,n_,n_,n_,n_] rfl rfl (any_of HT_.out (by kernel_rfl)) (fun _ _ _ h => h) (Or.inr ⟨by rfl, rfl⟩) ?_ ?_
         rotate_left
         ·simp only [Act.put, List.setIfInBounds_toArray, List.set_cons_zero, List.set_cons_succ, i64_w, i32_w]; rfl
         refine pure_ (i := 25) (N := some 115) (v := undef) (a' := ?_) #[y_,y_,y_,y_,y_,y_,y_,y_,y_,y_,y_,y_,y_,y_,y_,y_,y_,y_,y_,y_,y_,y_,y_,y_,y_,y_,n_,n_,n_,n_,n_,n_,n_,n_,n_] rfl rfl (any_of HT_.out (by kernel_rfl)) (fun _ _ _ h => h) (Or.inr ⟨by rfl, rfl⟩) ?_ ?_
         rotate_left
         ·simp only [Act.put, List.setIfInBounds_toArray, List.set_cons_zero, List.set_cons_succ, i64_w, i32_w]; rfl
         refine pure_ (i := 26) (N := some 116) (v := undef) (a' := ?_) #[y_,y_,y_,y_,y_,y_,y_,y_,y_,y_,y_,y_,y_,y_,y_,y_,y_,y_,y_,y_,y_,y_,y_,y_,y_,y_,y_,n_,n_,n_,n_,n_,n_,n_,n_] rfl rfl (any_of HT_.out (by kernel_rfl)) (fun _ _ _ h => h) (Or.inr ⟨by rfl, rfl⟩) ?_ ?_
         rotate_left
         ·simp only [Act.put, List.setIfInBounds_toArray, List.set_cons_zero, List.set_cons_succ, i64_w, i32_w]; rfl
         refine pure_ (i := 27) (N := some 117) (v := undef) (a' := ?_) #[y_,y_,y_,y_,y_,y_,y_,y_,y_,y_,y_,y_,y_,y_,y_,y_,y_,y_,y_,y_,y_,y_,y_,y_,y_,y_,y_,y_,n_,n_,n_,n_,n_,n_,n_] rfl rfl (any_of HT_.out (by kernel_rfl)) (fun _ _ _ h => h) (Or.inr ⟨by rfl, rfl⟩) ?_ ?_
         rotate_left
         ·simp only [Act.put, List.setIfInBounds_toArray, List.set_cons_zero, List.set_cons_succ, i64_w, i32_w]; rfl
         refine pure_ (i := 28) (N := some 118) (v := ?_) (a' := ?_) #[y_,y_,y_,y_,y_,y_,y_,y_,y_,y_,y_,y_,y_,y_,y_,y_,y_,y_,y_,y_,y_,y_,y_,y_,y_,y_,y_,y_,y_,n_,n_,n_,n_,n_,n_] rfl rfl (any_of HT_.out (by kernel_rfl)) (fun _ _ _ h => h) (Or.inl ⟨by rfl, ?_⟩) ?_ ?_
         rotate_left
         ·intro w'; go_simp; with_reducible rfl
         rotate_left
         ·simp only [Act.put, List.setIfInBounds_toArray, List.set_cons_zero, List.set_cons_succ, i64_w, i32_w]; rfl
         refine pure_ (i := 29) (N := some 119) (v := ?_) (a' := ?_) #[y_,y_,y_,y_,y_,y_,y_,y_,y_,y_,y_,y_,y_,y_,y_,y_,y_,y_,y_,y_,y_,y_,y_,y_,y_,y_,y_,y_,y_,y_,n_,n_,n_,n_,n_] rfl rfl (any_of HT_.out (by kernel_rfl)) (fun _ _ _ h => h) (Or.inl ⟨by rfl, ?_⟩) ?_ ?_
         rotate_left
         ·intro w'; go_simp; with_reducible rfl
         rotate_left
         ·simp only [Act.put, List.setIfInBounds_toArray, List.set_cons_zero, List.set_cons_succ, i64_w, i32_w]; rfl
         refine pure_ (i := 30) (N := some 120) (v := undef) (a' := ?_) #[y_,y_,y_,y_,y_,y_,y_,y_,y_,y_,y_,y_,y_,y_,y_,y_,y_,y_,y_,y_,y_,y_,y_,y_,y_,y_,y_,y_,y_,y_,y_,n_,n_,n_,n_] rfl rfl (any_of HT_.out (by kernel_rfl)) (fun _ _ _ h => h) (Or.inr ⟨by rfl, rfl⟩) ?_ ?_
         rotate_left
         ·simp only [Act.put, List.setIfInBounds_toArray, List.set_cons_zero, List.set_cons_succ, i64_w, i32_w]; rfl
         refine pure_ (i := 31) (N := some 121) (v := undef) (a' := ?_) #[y_,y_,y_,y_,y_,y_,y_,y_,y_,y_,y_,y_,y_,y_,y_,y_,y_,y_,y_,y_,y_,y_,y_,y_,y_,y_,y_,y_,y_,y_,y_,y_,n_,n_,n_] rfl rfl (any_of HT_.out (by kernel_rfl)) (fun _ _ _ h => h) (Or.inr ⟨by rfl, rfl⟩) ?_ ?_
         rotate_left
         ·simp only [Act.put, List.setIfInBounds_toArray, List.set_cons_zero, List.set_cons_succ, i64_w, i32_w]; rfl
         refine pure_ (i := 32) (N := some 122) (v := undef) (a' := ?_) #[y_,y_,y_,y_,y_,y_,y_,y_,y_,y_,y_,y_,y_,y_,y_,y_,y_,y_,y_,y_,y_,y_,y_,y_,y_,y_,y_,y_,y_,y_,y_,y_,y_,n_,n_] rfl rfl (any_of HT_.out (by kernel_rfl)) (fun _ _ _ h => h) (Or.inr ⟨by rfl, rfl⟩) ?_ ?_
         rotate_left
         ·simp only [Act.put, List.setIfInBounds_toArray, List.set_cons_zero, List.set_cons_succ, i64_w, i32_w]; rfl
         refine pure_ (i := 33) (N := some 123) (v := ?_) (a' := ?_) #[y_,y_,y_,y_,y_,y_,y_,y_,y_,y_,y_,y_,y_,y_,y_,y_,y_,y_,y_,y_,y_,y_,y_,y_,y_,y_,y_,y_,y_,y_,y_,y_,y_,y_,n_] rfl rfl (any_of HT_.out (by kernel_rfl)) (fun _ _ _ h => h) (Or.inl ⟨by rfl, ?_⟩) ?_ ?_
         rotate_left
         ·intro w'; go_simp; with_reducible rfl
         rotate_left
         ·simp only [Act.put, List.setIfInBounds_toArray, List.set_cons_zero, List.set_cons_succ, i64_w, i32_w]; rfl
         refine pure_ (i := 34) (N := some 2) (v := ?_) (a' := ?_) #[y_,y_,y_,y_,y_,y_,y_,y_,y_,y_,y_,y_,y_,y_,y_,y_,y_,y_,y_,y_,y_,y_,y_,y_,y_,y_,y_,y_,y_,y_,y_,y_,y_,y_,y_] rfl rfl (any_of HT_.out (by kernel_rfl)) (fun _ _ _ h => h) (Or.inl ⟨by rfl, ?_⟩) ?_ ?_
         rotate_left
         ·intro w'; go_simp; with_reducible rfl
         rotate_left
         ·simp only [Act.put, List.setIfInBounds_toArray, List.set_cons_zero, List.set_cons_succ, i64_w, i32_w]; rfl
         refine done_ (done_of HT_.out (by kernel_rfl)) ?_
         try go_wp2
         go_ret
         exact ⟨by first | rfl | (simp [errW_none, errW_some] <;> rfl) | (simp [*, errW_none, errW_some] <;> rfl), by repeat (first | (with_reducible first | exact HB.out | apply below_alloc | apply pw_below_drewN | apply below_drew1) | exact HB.out)⟩

/-- THE ONE PURE STATEMENT of laws_FnTurns: yours. -/
def laws_FnTurns.Pure : Prop := ∀ (l0 : List Int), l0.length ≤ maxLen → l0.length * 1 ≤ 140737488351232 → (∀ x ∈ l0, (Lit.int .u8 x).wf = true) → ∃ k, laws_FnTurns.f k l0 = some true
theorem laws_FnTurns.walk (P : laws_FnTurns.Pure) (a0 : Option Addr) (len0 cap0 : Nat) (z0 : List Int) (w : World) (w0 : (a0 = none ∧ len0 = 0 ∧ cap0 = 0 ∧ z0 = []) ∨ ∃ x, a0 = some x ∧ len0 ≤ cap0 ∧ cap0 ≤ maxLen ∧ z0.length = cap0 ∧ (∀ i, i < z0.length → w.cell? (x.add i) = some (.int .u8 (z0.getD i 0))) ∧ ∀ n ∈ z0, (Lit.int .u8 n).wf = true) (y0 : len0 * 1 ≤ 140737488351232) :
  Calls Try.prog 8 #[.slice a0 len0 cap0] w fun e w' => e = .returned (.bool true) ∧ Below w.heap.size w w' := by
 obtain ⟨l0, rfl, hr0, hm0, hw0, hc0⟩ := ReadsInt.ofRowC w0; obtain ⟨k, h⟩ := P l0 hm0 y0 hw0; refine (laws_FnTurns.calls k _ _ l0 true w (Kd.C_of_reads (d := (0 : Int)) (h1 := fun _ => rfl) hr0) hc0 h).mono ?_; rintro e w' ⟨rfl, hd⟩
 exact ⟨rfl, hd⟩

end Go.Proofs.Ytdacpdhpifocbaa.P

namespace Go.Proofs.Ytdacpdhpifocbaa.Q
open Go.RowKit Go.Proofs.Ytdacpdhpifocbaa.P Go.Proofs.YtdacpdhpifocbaaW.PrintWords Go.Proofs.YtdacpdhpifocbaaW.PrintLast
set_option linter.unusedVariables false

abbrev PT := S38
def g (l : List PT) (i : Nat) : PT := l.getD i z38
theorem rd_nat (l : List PT) (i : Nat) : rd_T38 l (i : Int) = g l i := by simp [rd_T38, g]
theorem rd_zero (l : List PT) : rd_T38 l 0 = g l 0 := by simp [rd_T38, g]
theorem w_id {x : Int} (h0 : -9223372036854775808 ≤ x) (h1 : x < 9223372036854775808) : wrap64 x = x := by unfold wrap64; omega
theorem w_succ {i : Nat} (h : i < 1000000000000000000) : wrap64 ((i : Int) + 1) = ((i + 1 : Nat) : Int) := by rw [w_id (by omega) (by omega)]; omega
theorem w_pred {i : Nat} (h0 : 0 < i) (h : i < 1000000000000000000) : wrap64 ((i : Int) - 1) = ((i - 1 : Nat) : Int) := by rw [w_id (by omega) (by omega)]; omega
theorem g_eq {l : List PT} {i : Nat} (h : i < l.length) : g l i = l[i] := by simp [g, List.getD_eq_getElem?_getD, h]
theorem PT.ext {a b : PT} (h0 : a.f0 = b.f0) (h1 : a.f1 = b.f1) : a = b := by cases a; cases b; simp_all

instance : DecidableEq PT := fun a b => if h : a.f0 = b.f0 ∧ a.f1 = b.f1 then isTrue (PT.ext h.1 h.2) else isFalse (fun e => h ⟨by rw [e], by rw [e]⟩)
/-- a point of the grid -/
def okP (p : PT) : Bool := decide (0 ≤ p.f0 ∧ p.f0 ≤ 9 ∧ 0 ≤ p.f1 ∧ p.f1 ≤ 9)
theorem okP_iff {p : PT} : okP p = true ↔ 0 ≤ p.f0 ∧ p.f0 ≤ 9 ∧ 0 ≤ p.f1 ∧ p.f1 ≤ 9 := by simp [okP]
theorem implOk (a b : Int) : impl_PtOk.f a b = some (okP ⟨a, b⟩) := by
  unfold impl_PtOk.f okP
  by_cases h1 : a ≥ 0
  · by_cases h2 : a ≤ 9
    · by_cases h3 : b ≥ 0
      · rw [if_pos h1, if_pos h2, if_pos h3]; congr 1; simp only [decide_eq_decide]; omega
      · rw [if_pos h1, if_pos h2, if_neg h3]; congr 1; symm; simp only [decide_eq_false_iff_not]; omega
    · rw [if_pos h1, if_neg h2]; congr 1; symm; simp only [decide_eq_false_iff_not]; omega
  · rw [if_neg h1]; congr 1; symm; simp only [decide_eq_false_iff_not]; omega
theorem specIn (a b c : Int) : spec_l6In.f a b c = some (decide (b ≤ a ∧ a ≤ c)) := by
  unfold spec_l6In.f
  by_cases h1 : a ≥ b
  · rw [if_pos h1]; congr 1; simp only [decide_eq_decide]; omega
  · rw [if_neg h1]; congr 1; symm; simp only [decide_eq_false_iff_not]; omega
theorem specOk (a b : Int) : spec_PtOk.f a b = some (okP ⟨a, b⟩) := by
  unfold spec_PtOk.f okP
  rw [specIn, specIn]
  simp only [Option.bind_some]
  by_cases h1 : 0 ≤ a ∧ a ≤ 9
  · rw [decide_eq_true h1, if_pos rfl]; congr 1; simp only [decide_eq_decide]; omega
  · rw [decide_eq_false h1, if_neg (by decide)]; congr 1; symm; simp only [decide_eq_false_iff_not]; omega

/-- one step apart -/
def stepP (a b : PT) : Bool := (wrap64 (a.f0 + 1) == b.f0 && a.f1 == b.f1) || ((a.f0 == b.f0 && wrap64 (a.f1 + 1) == b.f1) || ((wrap64 (a.f0 - 1) == b.f0 && a.f1 == b.f1) || (a.f0 == b.f0 && wrap64 (a.f1 - 1) == b.f1)))
theorem implStep (a b : PT) : impl_isStep.f a.f0 a.f1 b.f0 b.f1 = some (stepP a b) := rfl
/-- one step apart, as numbers -/
def Step (a b : PT) : Prop := (b.f0 = a.f0 + 1 ∧ b.f1 = a.f1) ∨ (b.f0 = a.f0 ∧ b.f1 = a.f1 + 1) ∨ (b.f0 = a.f0 - 1 ∧ b.f1 = a.f1) ∨ (b.f0 = a.f0 ∧ b.f1 = a.f1 - 1)
instance (a b : PT) : Decidable (Step a b) := by unfold Step; infer_instance
theorem stepP_iff {a b : PT} (ha : okP a = true) : stepP a b = true ↔ Step a b := by
  rw [okP_iff] at ha
  unfold stepP Step
  rw [w_id (x := a.f0 + 1) (by omega) (by omega), w_id (x := a.f1 + 1) (by omega) (by omega), w_id (x := a.f0 - 1) (by omega) (by omega), w_id (x := a.f1 - 1) (by omega) (by omega)]
  simp only [Bool.or_eq_true, Bool.and_eq_true, beq_iff_eq]
  omega
theorem dot_one {x y : Int} (hx : -9 ≤ x ∧ x ≤ 9) (hy : -9 ≤ y ∧ y ≤ 9) : x * x + y * y = 1 ↔ (x = 1 ∧ y = 0) ∨ (x = 0 ∧ y = 1) ∨ (x = -1 ∧ y = 0) ∨ (x = 0 ∧ y = -1) := by
  obtain ⟨h1, h2⟩ := hx
  obtain ⟨h3, h4⟩ := hy
  have ex : x * x = 0 ∧ x = 0 ∨ x * x = 1 ∧ (x = 1 ∨ x = -1) ∨ 4 ≤ x * x ∧ (x ≤ -2 ∨ 2 ≤ x) := by
    have : x = -9 ∨ x = -8 ∨ x = -7 ∨ x = -6 ∨ x = -5 ∨ x = -4 ∨ x = -3 ∨ x = -2 ∨ x = -1 ∨ x = 0 ∨ x = 1 ∨ x = 2 ∨ x = 3 ∨ x = 4 ∨ x = 5 ∨ x = 6 ∨ x = 7 ∨ x = 8 ∨ x = 9 := by omega
    rcases this with h | h | h | h | h | h | h | h | h | h | h | h | h | h | h | h | h | h | h <;> subst h <;> decide
  have ey : y * y = 0 ∧ y = 0 ∨ y * y = 1 ∧ (y = 1 ∨ y = -1) ∨ 4 ≤ y * y ∧ (y ≤ -2 ∨ 2 ≤ y) := by
    have : y = -9 ∨ y = -8 ∨ y = -7 ∨ y = -6 ∨ y = -5 ∨ y = -4 ∨ y = -3 ∨ y = -2 ∨ y = -1 ∨ y = 0 ∨ y = 1 ∨ y = 2 ∨ y = 3 ∨ y = 4 ∨ y = 5 ∨ y = 6 ∨ y = 7 ∨ y = 8 ∨ y = 9 := by omega
    rcases this with h | h | h | h | h | h | h | h | h | h | h | h | h | h | h | h | h | h | h <;> subst h <;> decide
  generalize x * x = a at *
  generalize y * y = b at *
  omega
theorem w_mul {x y : Int} (hx : -9 ≤ x ∧ x ≤ 9) (hy : -9 ≤ y ∧ y ≤ 9) : -81 ≤ x * y ∧ x * y ≤ 81 := by
  have : x = -9 ∨ x = -8 ∨ x = -7 ∨ x = -6 ∨ x = -5 ∨ x = -4 ∨ x = -3 ∨ x = -2 ∨ x = -1 ∨ x = 0 ∨ x = 1 ∨ x = 2 ∨ x = 3 ∨ x = 4 ∨ x = 5 ∨ x = 6 ∨ x = 7 ∨ x = 8 ∨ x = 9 := by omega
  rcases this with h | h | h | h | h | h | h | h | h | h | h | h | h | h | h | h | h | h | h <;> subst h <;> omega
theorem specBeside {a b : PT} (ha : okP a = true) (hb : okP b = true) : spec_l13Beside.f a.f0 a.f1 b.f0 b.f1 = some (decide (Step a b)) := by
  rw [okP_iff] at ha hb
  unfold spec_l13Beside.f spec_l2Dot.f
  simp only [Option.bind_some]
  have hx : -9 ≤ b.f0 - a.f0 ∧ b.f0 - a.f0 ≤ 9 := by omega
  have hy : -9 ≤ b.f1 - a.f1 ∧ b.f1 - a.f1 ≤ 9 := by omega
  have mx := w_mul hx hx
  have my := w_mul hy hy
  rw [w_id (x := b.f0 - a.f0) (by omega) (by omega), w_id (x := b.f1 - a.f1) (by omega) (by omega), w_id (x := (b.f0 - a.f0) * (b.f0 - a.f0)) (by omega) (by omega), w_id (x := (b.f1 - a.f1) * (b.f1 - a.f1)) (by omega) (by omega), w_id (by omega) (by omega)]
  congr 1
  rw [Bool.eq_iff_iff, beq_iff_eq, decide_eq_true_eq, dot_one hx hy]
  unfold Step
  omega

/-- a path: 1 to 400 points of the grid, each one step from the one ahead -/
def PathTo (l : List PT) (i : Nat) : Prop := ∀ j, i ≤ j → j < l.length → okP (g l j) = true ∧ (0 < j → Step (g l (j - 1)) (g l j))
def IsPath (l : List PT) : Prop := 1 ≤ l.length ∧ l.length ≤ 400 ∧ PathTo l 0
theorem PathTo.cons {l : List PT} {i : Nat} (h : okP (g l i) = true) (h' : 0 < i → Step (g l (i - 1)) (g l i)) (r : PathTo l (i + 1)) : PathTo l i := by
  intro j h1 h2
  rcases Nat.eq_or_lt_of_le h1 with e | e
  · subst e; exact ⟨h, h'⟩
  · exact r j e h2
theorem isPath_l0 (l : List PT) (hl : l.length < 1000000000000000000) : ∀ (d k i : Nat), l.length - i = d → i ≤ l.length → d < k → (∀ j, j < i → okP (g l j) = true) →
    ∃ b, impl_isPath.l0 k l l (l.length : Int) (i : Int) = some b ∧ (b = true ↔ PathTo l i) := by
  intro d
  induction d with
  | zero =>
    intro k i hd hi hk _
    obtain ⟨k, rfl⟩ : ∃ m, k = m + 1 := ⟨k - 1, by omega⟩
    refine ⟨true, ?_, by simp only [true_iff]; intro j h1 h2; omega⟩
    simp only [impl_isPath.l0]
    rw [if_neg (by omega)]
  | succ d ih =>
    intro k i hd hi hk hbef
    obtain ⟨k, rfl⟩ : ∃ m, k = m + 1 := ⟨k - 1, by omega⟩
    simp only [impl_isPath.l0]
    rw [if_pos (by omega), if_pos (by omega), if_pos (by omega), rd_nat, implOk]
    simp only [Option.bind_some]
    by_cases hok : okP (g l i) = true
    · rw [if_pos (by simpa using hok), w_succ (by omega)]
      have hbef' : ∀ j, j < i + 1 → okP (g l j) = true := fun j hj => by
        rcases Nat.eq_or_lt_of_le (Nat.le_of_lt_succ hj) with e | e
        · subst e; exact hok
        · exact hbef j e
      by_cases h0 : 0 < i
      · rw [if_pos (by omega), w_pred h0 (by omega), if_pos (by omega), if_pos (by omega), rd_nat, implStep]
        simp only [Option.bind_some]
        by_cases hs : stepP (g l (i - 1)) (g l i) = true
        · rw [if_pos hs]
          obtain ⟨b, hb, hb'⟩ := ih k (i + 1) (by omega) (by omega) (by omega) hbef'
          refine ⟨b, hb, hb'.trans ⟨fun r => PathTo.cons hok (fun _ => (stepP_iff (hbef _ (by omega))).1 hs) r, fun r j h1 h2 => r j (by omega) h2⟩⟩
        · rw [if_neg hs]
          refine ⟨false, rfl, by simp only [Bool.false_eq_true, false_iff]; exact fun r => hs ((stepP_iff (hbef _ (by omega))).2 ((r i (Nat.le_refl _) (by omega)).2 h0))⟩
      · rw [if_neg (by omega)]
        obtain ⟨b, hb, hb'⟩ := ih k (i + 1) (by omega) (by omega) (by omega) hbef'
        exact ⟨b, hb, hb'.trans ⟨fun r => PathTo.cons hok (fun h => absurd h h0) r, fun r j h1 h2 => r j (by omega) h2⟩⟩
    · rw [if_neg (by simpa using hok)]
      exact ⟨false, rfl, by simp only [Bool.false_eq_true, false_iff]; exact fun r => hok (r i (Nat.le_refl _) (by omega)).1⟩
theorem isPath_f (l : List PT) (hl : l.length < 1000000000000000000) (k : Nat) (hk : l.length + 2 ≤ k) : ∃ b, impl_isPath.f k l = some b ∧ (b = true ↔ IsPath l) := by
  obtain ⟨k, rfl⟩ : ∃ m, k = m + 1 := ⟨k - 1, by omega⟩
  unfold impl_isPath.f IsPath
  simp only [impl_isPath.j0]
  by_cases h1 : (l.length : Int) < 1
  · rw [if_pos h1, if_pos trivial]
    exact ⟨false, rfl, by simp only [Bool.false_eq_true, false_iff]; omega⟩
  · rw [if_neg h1]
    by_cases h2 : (l.length : Int) > 400
    · rw [decide_eq_true h2, if_pos rfl]
      exact ⟨false, rfl, by simp only [Bool.false_eq_true, false_iff]; omega⟩
    · rw [decide_eq_false h2, if_neg (by decide)]
      obtain ⟨b, hb, hb'⟩ := isPath_l0 l hl l.length k 0 (by omega) (by omega) (by omega) (fun j hj => by omega)
      exact ⟨b, hb, hb'.trans ⟨fun r => ⟨by omega, by omega, r⟩, fun r => r.2.2⟩⟩
theorem l22Path_l0 (l : List PT) (hl : l.length < 1000000000000000000) : ∀ (d k i : Nat), l.length - i = d → i ≤ l.length → d < k → (∀ j, j < i → okP (g l j) = true) →
    ∃ b, spec_l22Path.l0 k l (i : Int) = some b ∧ (b = true ↔ PathTo l i ∧ 1 ≤ l.length ∧ l.length ≤ 400) := by
  intro d
  induction d with
  | zero =>
    intro k i hd hi hk _
    obtain ⟨k, rfl⟩ : ∃ m, k = m + 1 := ⟨k - 1, by omega⟩
    simp only [spec_l22Path.l0]
    rw [if_neg (by omega), specIn]
    refine ⟨_, rfl, ?_⟩
    rw [decide_eq_true_eq]
    exact ⟨fun h => ⟨fun j h1 h2 => by omega, by omega, by omega⟩, fun h => by omega⟩
  | succ d ih =>
    intro k i hd hi hk hbef
    obtain ⟨k, rfl⟩ : ∃ m, k = m + 1 := ⟨k - 1, by omega⟩
    simp only [spec_l22Path.l0]
    rw [if_pos (by omega), if_pos (by omega), rd_nat, specOk]
    simp only [Option.bind_some]
    by_cases hok : okP (g l i) = true
    · rw [if_pos (by simpa using hok), w_succ (by omega)]
      have hbef' : ∀ j, j < i + 1 → okP (g l j) = true := fun j hj => by
        rcases Nat.eq_or_lt_of_le (Nat.le_of_lt_succ hj) with e | e
        · subst e; exact hok
        · exact hbef j e
      by_cases h0 : 0 < i
      · rw [if_pos (by omega), w_pred h0 (by omega), if_pos (by omega), if_pos (by omega), rd_nat, specBeside (hbef _ (by omega)) hok]
        simp only [Option.bind_some]
        by_cases hs : Step (g l (i - 1)) (g l i)
        · rw [if_pos (decide_eq_true hs)]
          obtain ⟨b, hb, hb'⟩ := ih k (i + 1) (by omega) (by omega) (by omega) hbef'
          exact ⟨b, hb, hb'.trans ⟨fun r => ⟨PathTo.cons hok (fun _ => hs) r.1, r.2⟩, fun r => ⟨fun j h1 h2 => r.1 j (by omega) h2, r.2⟩⟩⟩
        · rw [if_neg (by simpa using hs)]
          exact ⟨false, rfl, by simp only [Bool.false_eq_true, false_iff]; exact fun r => hs ((r.1 i (Nat.le_refl _) (by omega)).2 h0)⟩
      · rw [if_neg (by omega)]
        obtain ⟨b, hb, hb'⟩ := ih k (i + 1) (by omega) (by omega) (by omega) hbef'
        exact ⟨b, hb, hb'.trans ⟨fun r => ⟨PathTo.cons hok (fun h => absurd h h0) r.1, r.2⟩, fun r => ⟨fun j h1 h2 => r.1 j (by omega) h2, r.2⟩⟩⟩
    · rw [if_neg (by simpa using hok)]
      exact ⟨false, rfl, by simp only [Bool.false_eq_true, false_iff]; exact fun r => hok (r.1 i (Nat.le_refl _) (by omega)).1⟩
theorem l22Path_f (l : List PT) (hl : l.length < 1000000000000000000) (k : Nat) (hk : l.length + 2 ≤ k) : ∃ b, spec_l22Path.f k l = some b ∧ (b = true ↔ IsPath l) := by
  obtain ⟨b, hb, hb'⟩ := l22Path_l0 l hl l.length k 0 (by omega) (by omega) (by omega) (fun j hj => by omega)
  exact ⟨b, hb, hb'.trans ⟨fun r => ⟨r.2.1, r.2.2, r.1⟩, fun r => ⟨r.2.2, r.1, r.2.1⟩⟩⟩

/-- does the step from b go on as that from a to b -/
def goesOn (a b c : PT) : Bool := c.f0 - b.f0 == b.f0 - a.f0 && c.f1 - b.f1 == b.f1 - a.f1
theorem implGoes {a b c : PT} (ha : okP a = true) (hb : okP b = true) (hc : okP c = true) : impl_goesOn.f a.f0 a.f1 b.f0 b.f1 c.f0 c.f1 = some (goesOn a b c) := by
  rw [okP_iff] at ha hb hc
  unfold impl_goesOn.f goesOn
  rw [w_id (x := c.f0 - b.f0) (by omega) (by omega), w_id (x := b.f0 - a.f0) (by omega) (by omega), w_id (x := c.f1 - b.f1) (by omega) (by omega), w_id (x := b.f1 - a.f1) (by omega) (by omega)]
  by_cases h : c.f0 - b.f0 = b.f0 - a.f0
  · rw [if_pos h, h]; simp
  · rw [if_neg h, show (c.f0 - b.f0 == b.f0 - a.f0) = false from beq_eq_false_iff_ne.2 h]; rfl
/-- is place j of a path one at which it begins, turns, or ends -/
def turnAt (l : List PT) (j : Nat) : Bool := decide (j = 0) || decide (j + 1 = l.length) || !goesOn (g l (j - 1)) (g l j) (g l (j + 1))
def turnsFrom (l : List PT) (i : Nat) : List PT := ((List.range' i (l.length - i)).filter (turnAt l)).map (g l)
def turns (l : List PT) : List PT := turnsFrom l 0
theorem turnsFrom_end (l : List PT) (i : Nat) (h : l.length ≤ i) : turnsFrom l i = [] := by
  unfold turnsFrom
  rw [show l.length - i = 0 by omega]; rfl
theorem turnsFrom_step (l : List PT) (i : Nat) (h : i < l.length) : turnsFrom l i = (if turnAt l i = true then [g l i] else []) ++ turnsFrom l (i + 1) := by
  unfold turnsFrom
  rw [show l.length - i = (l.length - (i + 1)) + 1 by omega, List.range'_succ, List.filter_cons]
  split <;> simp
theorem pt_eta (p : PT) : (⟨p.f0, p.f1⟩ : PT) = p := rfl
theorem codeTurns_l0 (l : List PT) (hp : IsPath l) : ∀ (d k i : Nat) (acc : List PT), l.length - i = d → i ≤ l.length → d < k → acc.length ≤ i →
    impl_CodeTurns.l0 k l acc (wrap64 ((l.length : Int) - 1)) l (l.length : Int) (i : Int) = some (acc ++ turnsFrom l i) := by
  obtain ⟨h1, h2, hp⟩ := hp
  have hw : wrap64 ((l.length : Int) - 1) = ((l.length - 1 : Nat) : Int) := w_pred (by omega) (by omega)
  rw [hw]
  intro d
  induction d with
  | zero =>
    intro k i acc hd hi hk ha
    obtain ⟨k, rfl⟩ : ∃ m, k = m + 1 := ⟨k - 1, by omega⟩
    simp only [impl_CodeTurns.l0]
    rw [if_neg (by omega), turnsFrom_end l i (by omega), List.append_nil]
  | succ d ih =>
    intro k i acc hd hi hk ha
    obtain ⟨k, rfl⟩ : ∃ m, k = m + 1 := ⟨k - 1, by omega⟩
    simp only [impl_CodeTurns.l0]
    rw [if_pos (by omega), if_pos (by omega), if_pos (by omega), rd_nat, pt_eta, turnsFrom_step l i (by omega), w_succ (by omega)]
    have hadd : turnAt l i = true → impl_CodeTurns.l0 k l (acc ++ [g l i]) ((l.length - 1 : Nat) : Int) l (l.length : Int) ((i + 1 : Nat) : Int) = some (acc ++ ((if turnAt l i = true then [g l i] else []) ++ turnsFrom l (i + 1))) := fun ht => by
      rw [if_pos ht, ih k (i + 1) (acc ++ [g l i]) (by omega) (by omega) (by omega) (by simp; omega), List.append_assoc]
    by_cases e0 : i = 0
    · rw [if_pos (by omega), if_pos (by omega)]
      exact hadd (by simp [turnAt, e0])
    · rw [if_neg (by omega)]
      by_cases e1 : i + 1 = l.length
      · rw [if_pos (by omega), if_pos (by omega)]
        exact hadd (by simp [turnAt, e1])
      · rw [if_neg (by omega), w_pred (by omega) (by omega), if_pos (by omega), if_pos (by omega), if_pos (by omega), if_pos (by omega), rd_nat, rd_nat,
          implGoes (hp _ (by omega) (by omega)).1 (hp _ (by omega) (by omega)).1 (hp _ (by omega) (by omega)).1]
        simp only [Option.bind_some]
        have ht : turnAt l i = !goesOn (g l (i - 1)) (g l i) (g l (i + 1)) := by simp [turnAt, e0, e1]
        by_cases hg : goesOn (g l (i - 1)) (g l i) (g l (i + 1)) = true
        · rw [if_pos hg, ih k (i + 1) acc (by omega) (by omega) (by omega) (by omega), ht, hg]
          rfl
        · rw [if_neg hg, if_pos (by omega)]
          exact hadd (by rw [ht]; simpa using hg)
theorem l22Turns_l0 (l : List PT) (hp : IsPath l) : ∀ (d k i : Nat) (acc : List PT), l.length - i = d → i ≤ l.length → 1 ≤ i → d < k → acc.length ≤ i →
    spec_l22Turns.l0 k l acc (i : Int) = some (acc ++ turnsFrom l i) := by
  obtain ⟨h1, h2, hp⟩ := hp
  have hw : wrap64 ((l.length : Int) - 1) = ((l.length - 1 : Nat) : Int) := w_pred (by omega) (by omega)
  intro d
  induction d with
  | zero =>
    intro k i acc hd hi _ hk ha
    obtain ⟨k, rfl⟩ : ∃ m, k = m + 1 := ⟨k - 1, by omega⟩
    simp only [spec_l22Turns.l0]
    rw [if_neg (by omega), turnsFrom_end l i (by omega), List.append_nil]
  | succ d ih =>
    intro k i acc hd hi e0 hk ha
    obtain ⟨k, rfl⟩ : ∃ m, k = m + 1 := ⟨k - 1, by omega⟩
    simp only [spec_l22Turns.l0]
    rw [if_pos (by omega), hw, turnsFrom_step l i (by omega), w_succ (by omega), rd_nat]
    have hadd : turnAt l i = true → spec_l22Turns.l0 k l (acc ++ [g l i]) ((i + 1 : Nat) : Int) = some (acc ++ ((if turnAt l i = true then [g l i] else []) ++ turnsFrom l (i + 1))) := fun ht => by
      rw [if_pos ht, ih k (i + 1) (acc ++ [g l i]) (by omega) (by omega) (by omega) (by omega) (by simp; omega), List.append_assoc]
    by_cases e1 : i + 1 = l.length
    · rw [if_pos (by omega), if_pos (by omega), if_pos (by omega), pt_eta]
      exact hadd (by simp [turnAt, e1])
    · have oa := (hp (i - 1) (by omega) (by omega)).1
      have ob := (hp i (by omega) (by omega)).1
      have oc := (hp (i + 1) (by omega) (by omega)).1
      have ht : turnAt l i = !goesOn (g l (i - 1)) (g l i) (g l (i + 1)) := by simp [turnAt, e1]; omega
      rw [okP_iff] at oa ob oc
      rw [if_neg (by omega), if_pos (by omega), if_pos (by omega), if_pos (by omega), w_pred (by omega) (by omega), if_pos (by omega), if_pos (by omega), rd_nat, rd_nat, pt_eta,
        w_id (x := (g l (i + 1)).f0 - (g l i).f0) (by omega) (by omega), w_id (x := (g l i).f0 - (g l (i - 1)).f0) (by omega) (by omega), w_id (x := (g l (i + 1)).f1 - (g l i).f1) (by omega) (by omega), w_id (x := (g l i).f1 - (g l (i - 1)).f1) (by omega) (by omega)]
      by_cases hx : (g l (i + 1)).f0 - (g l i).f0 = (g l i).f0 - (g l (i - 1)).f0
      · rw [if_pos hx]
        by_cases hy : (g l (i + 1)).f1 - (g l i).f1 = (g l i).f1 - (g l (i - 1)).f1
        · rw [if_pos hy, ih k (i + 1) acc (by omega) (by omega) (by omega) (by omega) (by omega), ht, show goesOn (g l (i - 1)) (g l i) (g l (i + 1)) = true by simp [goesOn, hx, hy]]
          rfl
        · rw [if_neg hy, if_pos (by omega)]
          exact hadd (by rw [ht]; simp [goesOn, hy])
      · rw [if_neg hx, if_pos (by omega)]
        exact hadd (by rw [ht]; simp [goesOn, hx])
theorem l22Turns_f (l : List PT) (hp : IsPath l) (k : Nat) (hk : l.length < k) : spec_l22Turns.f k l = some (turns l) := by
  have h1 := hp.1
  unfold spec_l22Turns.f turns
  rw [if_pos (by omega), rd_zero, pt_eta, turnsFrom_step l 0 (by omega), if_pos (by simp [turnAt])]
  exact l22Turns_l0 l hp (l.length - 1) k 1 [g l 0] (by omega) (by omega) (by omega) (by omega) (by simp)
open Classical in
/-- what CodeTurns answers -/
noncomputable def codeTurns (l : List PT) : List PT := if IsPath l then turns l else []
theorem implCodeTurns (l : List PT) (hl : l.length < 1000000000000000000) (k : Nat) (hk : l.length + 2 ≤ k) : impl_CodeTurns.f k l = some (codeTurns l) := by
  obtain ⟨b, hb, hb'⟩ := isPath_f l hl k hk
  unfold impl_CodeTurns.f codeTurns
  rw [hb]
  simp only [Option.bind_some]
  by_cases hp : IsPath l
  · rw [if_pos (hb'.2 hp), if_pos hp]
    exact codeTurns_l0 l hp l.length k 0 [] (by omega) (by omega) (by omega) (by simp)
  · rw [if_neg (fun h => hp (hb'.1 h)), if_neg hp]
theorem specCodeTurns (l : List PT) (hl : l.length < 1000000000000000000) (k : Nat) (hk : l.length + 2 ≤ k) : spec_CodeTurns.f k l = some (codeTurns l) := by
  obtain ⟨b, hb, hb'⟩ := l22Path_f l hl k hk
  unfold spec_CodeTurns.f codeTurns
  rw [hb]
  simp only [Option.bind_some]
  by_cases hp : IsPath l
  · rw [if_pos (hb'.2 hp), if_pos hp, l22Turns_f l hp k (by omega)]
    rfl
  · rw [if_neg (fun h => hp (hb'.1 h)), if_neg hp]
end Go.Proofs.Ytdacpdhpifocbaa.Q

namespace Go.Proofs.Ytdacpdhpifocbaa.Q
open Go.RowKit Go.Proofs.Ytdacpdhpifocbaa.P Go.Proofs.YtdacpdhpifocbaaW.PrintWords Go.Proofs.YtdacpdhpifocbaaW.PrintLast
set_option linter.unusedVariables false

def sgn (a b : Int) : Int := if a < b then 1 else if a > b then -1 else 0
def nxt (a b : PT) : PT := ⟨a.f0 + sgn a.f0 b.f0, a.f1 + sgn a.f1 b.f1⟩
def dist (a b : PT) : Nat := (a.f0 - b.f0).natAbs + (a.f1 - b.f1).natAbs
def leg : Nat → PT → PT → List PT
  | 0, _, _ => []
  | n + 1, a, b => nxt a b :: leg n (nxt a b) b
def InLine (a b : PT) : Prop := a.f0 = b.f0 ∨ a.f1 = b.f1
theorem sgn_spec (a b : Int) : a < b ∧ sgn a b = 1 ∨ b < a ∧ sgn a b = -1 ∨ a = b ∧ sgn a b = 0 := by
  unfold sgn
  by_cases h : a < b
  · rw [if_pos h]; omega
  · rw [if_neg h]
    by_cases h' : a > b
    · rw [if_pos h']; omega
    · rw [if_neg h']; omega
theorem dist_zero {a b : PT} : dist a b = 0 ↔ a = b := by
  unfold dist
  constructor
  · intro h
    exact PT.ext (by omega) (by omega)
  · intro h
    subst h
    omega
theorem nxt_dist {a b : PT} (h : InLine a b) (n : Nat) (hd : dist a b = n + 1) : dist (nxt a b) b = n ∧ InLine (nxt a b) b ∧ Step a (nxt a b) ∧ (n ≠ 0 → sgn (nxt a b).f0 b.f0 = sgn a.f0 b.f0 ∧ sgn (nxt a b).f1 b.f1 = sgn a.f1 b.f1) := by
  unfold dist InLine nxt Step at *
  simp only
  rcases sgn_spec a.f0 b.f0 with ⟨h0, e0⟩ | ⟨h0, e0⟩ | ⟨h0, e0⟩ <;> rcases sgn_spec a.f1 b.f1 with ⟨h1, e1⟩ | ⟨h1, e1⟩ | ⟨h1, e1⟩ <;>
    (try rw [e0]) <;> (try rw [e1]) <;>
    first
      | omega
      | (refine ⟨by omega, by omega, by omega, fun hn => ?_⟩
         rcases sgn_spec (a.f0 + 1) b.f0 with ⟨h2, e2⟩ | ⟨h2, e2⟩ | ⟨h2, e2⟩ <;> rcases sgn_spec (a.f0 + -1) b.f0 with ⟨h3, e3⟩ | ⟨h3, e3⟩ | ⟨h3, e3⟩ <;> rcases sgn_spec (a.f0 + 0) b.f0 with ⟨h4, e4⟩ | ⟨h4, e4⟩ | ⟨h4, e4⟩ <;>
         rcases sgn_spec (a.f1 + 1) b.f1 with ⟨h5, e5⟩ | ⟨h5, e5⟩ | ⟨h5, e5⟩ <;> rcases sgn_spec (a.f1 + -1) b.f1 with ⟨h6, e6⟩ | ⟨h6, e6⟩ | ⟨h6, e6⟩ <;> rcases sgn_spec (a.f1 + 0) b.f1 with ⟨h7, e7⟩ | ⟨h7, e7⟩ | ⟨h7, e7⟩ <;> omega)
theorem nxt_ok {a b : PT} (ha : okP a = true) (hb : okP b = true) : okP (nxt a b) = true := by
  rw [okP_iff] at *
  unfold nxt
  simp only
  rcases sgn_spec a.f0 b.f0 with ⟨h0, e0⟩ | ⟨h0, e0⟩ | ⟨h0, e0⟩ <;> rcases sgn_spec a.f1 b.f1 with ⟨h1, e1⟩ | ⟨h1, e1⟩ | ⟨h1, e1⟩ <;> rw [e0, e1] <;> omega
theorem ok_dist {a b : PT} (ha : okP a = true) (hb : okP b = true) (h : InLine a b) : dist a b ≤ 9 := by
  rw [okP_iff] at *
  unfold dist InLine at *
  omega
theorem leg_length : ∀ (n : Nat) (a b : PT), (leg n a b).length = n
  | 0, _, _ => rfl
  | n + 1, a, b => by simp [leg, leg_length n]
theorem implToward (a b : Int) : impl_toward.f a b = some (sgn a b) := by
  unfold impl_toward.f sgn
  by_cases h : a < b
  · rw [if_pos h, if_pos h]
  · rw [if_neg h, if_neg h]
    by_cases h' : a > b
    · rw [if_pos h', if_pos h']
    · rw [if_neg h', if_neg h']
theorem ne_bool {a b : PT} : ((!(a.f0 == b.f0) || (!(a.f1 == b.f1))) = true) ↔ a ≠ b := by
  simp only [Bool.or_eq_true, Bool.not_eq_true', beq_eq_false_iff_ne]
  constructor
  · rintro h rfl
    omega
  · intro h
    by_cases h0 : a.f0 = b.f0
    · exact .inr fun h1 => h (PT.ext h0 h1)
    · exact .inl h0
theorem eq_bool {a b : PT} : ((a.f0 == b.f0 && (a.f1 == b.f1)) = true) ↔ a = b := by
  simp only [Bool.and_eq_true, beq_iff_eq]
  exact ⟨fun h => PT.ext h.1 h.2, fun h => by subst h; exact ⟨rfl, rfl⟩⟩
theorem impl_l1 (xs : List PT) (len i : Int) (b : PT) (hb : okP b = true) : ∀ (n m : Nat) (acc : List PT) (a : PT) (x y : Int), okP a = true → InLine a b → dist a b = n → (n ≠ 0 → x = sgn a.f0 b.f0 ∧ y = sgn a.f1 b.f1) → acc.length + n < 8796093022208 →
    impl_CodeStay.l1 (m + n + 1) acc x y xs len i a.f0 a.f1 b.f0 b.f1 = impl_CodeStay.l0 m (acc ++ leg n a b) xs len (wrap64 (i + 1)) b.f0 b.f1 := by
  intro n
  induction n with
  | zero =>
    intro m acc a x y ha hl hd hxy hacc
    obtain rfl := dist_zero.1 hd
    simp only [impl_CodeStay.l1]
    rw [if_neg (by rw [ne_bool]; simp)]
    simp [leg]
  | succ n ih =>
    intro m acc a x y ha hl hd hxy hacc
    obtain ⟨rfl, rfl⟩ := hxy (by omega)
    obtain ⟨h1, h2, h3, h4⟩ := nxt_dist hl n hd
    have hn := nxt_ok ha hb
    have hn' := hn
    rw [okP_iff] at hn'
    obtain ⟨q, hq⟩ : ∃ q, q = m + n + 1 := ⟨_, rfl⟩
    rw [show m + (n + 1) + 1 = q + 1 by omega]
    simp only [impl_CodeStay.l1]
    rw [if_pos (by rw [ne_bool]; intro e; rw [dist_zero.2 e] at hd; omega), if_pos (by omega)]
    have e0 : wrap64 (a.f0 + sgn a.f0 b.f0) = (nxt a b).f0 := by have e : (nxt a b).f0 = a.f0 + sgn a.f0 b.f0 := rfl; rw [e] at hn' ⊢; exact w_id (by omega) (by omega)
    have e1 : wrap64 (a.f1 + sgn a.f1 b.f1) = (nxt a b).f1 := by have e : (nxt a b).f1 = a.f1 + sgn a.f1 b.f1 := rfl; rw [e] at hn' ⊢; exact w_id (by omega) (by omega)
    rw [e0, e1, pt_eta, hq, ih m (acc ++ [nxt a b]) (nxt a b) _ _ hn h2 h1 (fun hn => ⟨(h4 hn).1.symm, (h4 hn).2.symm⟩) (by simp; omega)]
    simp [leg]
instance (a b : PT) : Decidable (InLine a b) := by unfold InLine; infer_instance
/-- may one stay on a line from a to b -/
def good (a b : PT) : Bool := okP b && decide (a ≠ b) && decide (InLine a b)
def stayGo : PT → List PT → Option (List PT)
  | _, [] => some []
  | a, b :: r => if good a b = true then (stayGo b r).map (leg (dist a b) a b ++ ·) else none
theorem good_iff {a b : PT} : good a b = true ↔ okP b = true ∧ a ≠ b ∧ InLine a b := by simp [good, and_assoc]
def Ends (acc : List PT) (p : PT) : Prop := 0 < acc.length ∧ g acc (acc.length - 1) = p
theorem g_append_left {l r : List PT} {i : Nat} (h : i < l.length) : g (l ++ r) i = g l i := by simp [g, List.getD_eq_getElem?_getD, List.getElem?_append_left h]
theorem g_append_last (l : List PT) (p : PT) : g (l ++ [p]) l.length = p := by simp [g, List.getD_eq_getElem?_getD]
theorem pathTo_snoc {acc : List PT} {a p : PT} (h : PathTo acc 0) (he : Ends acc a) (hp : okP p = true) (hs : Step a p) : PathTo (acc ++ [p]) 0 ∧ Ends (acc ++ [p]) p := by
  constructor
  · intro j _ hj
    simp only [List.length_append, List.length_cons, List.length_nil] at hj
    rcases Nat.lt_or_ge j acc.length with h1 | h1
    · rw [g_append_left h1, g_append_left (by omega)]
      exact h j (by omega) h1
    · obtain rfl : j = acc.length := by omega
      rw [g_append_last, g_append_left (by have := he.1; omega), he.2]
      exact ⟨hp, fun _ => hs⟩
  · refine ⟨by simp, ?_⟩
    rw [show (acc ++ [p]).length - 1 = acc.length by simp]
    exact g_append_last acc p
theorem pathTo_leg (b : PT) (hb : okP b = true) : ∀ (n : Nat) (acc : List PT) (a : PT), okP a = true → InLine a b → dist a b = n → PathTo acc 0 → Ends acc a → PathTo (acc ++ leg n a b) 0 ∧ Ends (acc ++ leg n a b) b := by
  intro n
  induction n with
  | zero =>
    intro acc a ha hl hd hp he
    obtain rfl := dist_zero.1 hd
    simp only [leg, List.append_nil]
    exact ⟨hp, he⟩
  | succ n ih =>
    intro acc a ha hl hd hp he
    obtain ⟨h1, h2, h3, h4⟩ := nxt_dist hl n hd
    obtain ⟨hp', he'⟩ := pathTo_snoc hp he (nxt_ok ha hb) h3
    have := ih (acc ++ [nxt a b]) (nxt a b) (nxt_ok ha hb) h2 h1 hp' he'
    simpa [leg] using this
def fin (r : Option (List PT)) (acc : List PT) : List PT × Bool :=
  match r with
  | none => ([], false)
  | some l => if (acc ++ l).length ≤ 400 then (acc ++ l, true) else ([], false)
theorem fin_map (r : Option (List PT)) (acc l : List PT) : fin (r.map (l ++ ·)) acc = fin r (acc ++ l) := by
  cases r <;> simp [fin, List.append_assoc]
theorem impl_l0 (r : List PT) (hr : r.length ≤ 400) : ∀ (rem : List PT) (k i : Nat) (acc : List PT) (a : PT), r.drop i = rem → i ≤ r.length → okP a = true → PathTo acc 0 → Ends acc a → acc.length ≤ 1 + 9 * i → 20 * rem.length + 4000 ≤ k →
    impl_CodeStay.l0 k acc r (r.length : Int) (i : Int) a.f0 a.f1 = some (fin (stayGo a rem) acc) := by
  intro rem
  induction rem with
  | nil =>
    intro k i acc a hd hi ha hp he hacc hk
    have hlen : r.length ≤ i := by have := congrArg List.length hd; simp at this; omega
    obtain ⟨k, rfl⟩ : ∃ m, k = m + 1 := ⟨k - 1, by omega⟩
    simp only [impl_CodeStay.l0]
    rw [if_neg (by omega)]
    obtain ⟨b, hb, hb'⟩ := isPath_f acc (by omega) k (by simp at hk; omega)
    rw [hb]
    simp only [Option.bind_some, stayGo, fin, List.append_nil]
    have h0 := he.1
    by_cases h : acc.length ≤ 400
    · rw [if_pos (hb'.2 ⟨by omega, h, hp⟩), if_pos h]
    · rw [if_neg (fun hh => h (hb'.1 hh).2.1), if_neg h]
  | cons b rem ih =>
    intro k i acc a hd hi ha hp he hacc hk
    have hlt : i < r.length := by
      rcases Nat.lt_or_ge i r.length with h | h
      · exact h
      · rw [List.drop_of_length_le h] at hd; cases hd
    have hg : g r i = b := by
      rw [List.drop_eq_getElem_cons hlt] at hd
      rw [g_eq hlt]
      exact (List.cons.inj hd).1
    have hdrop : r.drop (i + 1) = rem := by
      rw [List.drop_eq_getElem_cons hlt] at hd
      exact (List.cons.inj hd).2
    simp only [List.length_cons] at hk
    obtain ⟨k, rfl⟩ : ∃ m, k = m + 2 := ⟨k - 2, by omega⟩
    simp only [impl_CodeStay.l0]
    rw [if_pos (by omega), if_pos (by omega), if_pos (by omega), rd_nat, hg, implOk, pt_eta]
    simp only [Option.bind_some, stayGo]
    have hbad : ∀ x0 x1 y0 y1 : Int, impl_CodeStay.j2 (k + 1) acc r (r.length : Int) (i : Int) true x0 x1 y0 y1 = some ([], false) := fun _ _ _ _ => by simp only [impl_CodeStay.j2, if_true]
    have hgo : good a b = true → impl_CodeStay.j2 (k + 1) acc r (r.length : Int) (i : Int) false a.f0 a.f1 b.f0 b.f1 = some (fin ((stayGo b rem).map (leg (dist a b) a b ++ ·)) acc) := fun hgd => by
      obtain ⟨hb, hne, hl⟩ := good_iff.1 hgd
      have h9 := ok_dist ha hb hl
      simp only [impl_CodeStay.j2, Bool.false_eq_true, if_false]
      rw [implToward, implToward]
      simp only [Option.bind_some]
      obtain ⟨m, hm⟩ : ∃ m, k = m + dist a b + 1 := ⟨k - dist a b - 1, by omega⟩
      obtain ⟨hp', he'⟩ := pathTo_leg b hb _ acc a ha hl rfl hp he
      rw [hm, impl_l1 r _ _ b hb (dist a b) m acc a _ _ ha hl rfl (fun _ => ⟨rfl, rfl⟩) (by omega), w_succ (by omega),
        ih m (i + 1) (acc ++ leg (dist a b) a b) b hdrop (by omega) hb hp' he' (by rw [List.length_append, leg_length]; omega) (by omega), fin_map]
    by_cases hok : okP b = true
    · rw [if_pos hok]
      by_cases heq : a = b
      · subst heq
        rw [if_pos (by rw [eq_bool]), hbad, if_neg (by rw [good_iff]; simp)]
        rfl
      · rw [if_neg (by rw [eq_bool]; exact fun e => heq e.symm)]
        by_cases hx : b.f0 = a.f0
        · have hgd : good a b = true := good_iff.2 ⟨hok, heq, .inl hx.symm⟩
          rw [if_pos hx, hgo hgd, if_pos hgd]
        · rw [if_neg hx]
          by_cases hy : b.f1 = a.f1
          · have hgd : good a b = true := good_iff.2 ⟨hok, heq, .inr hy.symm⟩
            rw [show (b.f1 != a.f1) = false by simp [hy], hgo hgd, if_pos hgd]
          · rw [show (b.f1 != a.f1) = true by simp [hy], hbad, if_neg (by rw [good_iff]; unfold InLine; omega)]
            rfl
    · rw [if_neg hok, hbad, if_neg (by rw [good_iff]; exact fun h => hok h.1)]
      rfl
/-- what CodeStay answers -/
def stay (t : List PT) : List PT × Bool :=
  match t with
  | [] => ([], false)
  | a :: r => if r.length ≤ 399 ∧ okP a = true then fin (stayGo a r) [a] else ([], false)
theorem one_path {a : PT} (ha : okP a = true) : PathTo [a] 0 ∧ Ends [a] a := by
  refine ⟨fun j _ hj => ?_, by simp [Ends, g]⟩
  obtain rfl : j = 0 := by simpa using hj
  exact ⟨by simpa [g] using ha, fun h => absurd h (by omega)⟩
theorem implCodeStay (t : List PT) (hl : t.length < 1000000000000000000) (k : Nat) (hk : 20000 ≤ k) : impl_CodeStay.f k t = some (stay t) := by
  obtain ⟨k, rfl⟩ : ∃ m, k = m + 1 := ⟨k - 1, by omega⟩
  have hbad : impl_CodeStay.j0 (k + 1) t true = some ([], false) := by simp only [impl_CodeStay.j0, if_true]
  unfold impl_CodeStay.f
  match t, hl, hbad with
  | [], hl, hbad =>
    rw [if_pos (by simp), hbad]
    rfl
  | a :: r, hl, hbad =>
    rw [if_neg (by simp only [List.length_cons]; omega)]
    simp only [List.length_cons] at hl
    by_cases h4 : r.length ≤ 399
    · rw [if_neg (by simp only [List.length_cons]; omega), if_pos (by simp only [List.length_cons]; omega), rd_zero, show g (a :: r) 0 = a from rfl, implOk, pt_eta]
      simp only [Option.bind_some, stay]
      by_cases hok : okP a = true
      · rw [if_pos ⟨h4, hok⟩, hok]
        simp only [impl_CodeStay.j0, Bool.not_true, Bool.false_eq_true, if_false]
        rw [if_pos (by simp only [List.length_cons]; omega), if_pos (by simp only [List.length_cons]; omega), rd_zero, show g (a :: r) 0 = a from rfl, pt_eta]
        simp only [Option.bind_some, List.drop_succ_cons, List.drop_zero]
        obtain ⟨hp, he⟩ := one_path hok
        exact impl_l0 r (by omega) r k 0 [a] a rfl (by omega) hok hp he (by simp) (by omega)
      · rw [if_neg (fun h => hok h.2), show okP a = false by simpa using hok]
        exact hbad
    · rw [if_pos (by simp only [List.length_cons]; omega), hbad]
      simp only [stay]
      rw [if_neg (fun h => h4 h.1)]
end Go.Proofs.Ytdacpdhpifocbaa.Q

namespace Go.Proofs.Ytdacpdhpifocbaa.Q
open Go.RowKit Go.Proofs.Ytdacpdhpifocbaa.P Go.Proofs.YtdacpdhpifocbaaW.PrintWords Go.Proofs.YtdacpdhpifocbaaW.PrintLast
set_option linter.unusedVariables false

theorem extend {a b c : PT} {n : Nat} (hl : InLine b c) (hd : dist b c = n + 1) (hs : Step a b) (h0 : (nxt b c).f0 - b.f0 = b.f0 - a.f0) (h1 : (nxt b c).f1 - b.f1 = b.f1 - a.f1) :
    InLine a c ∧ dist a c = n + 2 ∧ nxt a c = b ∧ a ≠ c := by
  have e0 : (nxt b c).f0 = b.f0 + sgn b.f0 c.f0 := rfl
  have e1 : (nxt b c).f1 = b.f1 + sgn b.f1 c.f1 := rfl
  rw [e0] at h0
  rw [e1] at h1
  have key : InLine a c ∧ dist a c = n + 2 ∧ (a.f0 + sgn a.f0 c.f0 = b.f0 ∧ a.f1 + sgn a.f1 c.f1 = b.f1) := by
    unfold dist InLine Step at *
    rcases sgn_spec b.f0 c.f0 with ⟨p, e⟩ | ⟨p, e⟩ | ⟨p, e⟩ <;> rcases sgn_spec b.f1 c.f1 with ⟨p', e'⟩ | ⟨p', e'⟩ | ⟨p', e'⟩ <;> rw [e] at h0 <;> rw [e'] at h1 <;>
      rcases sgn_spec a.f0 c.f0 with ⟨q, f⟩ | ⟨q, f⟩ | ⟨q, f⟩ <;> rcases sgn_spec a.f1 c.f1 with ⟨q', f'⟩ | ⟨q', f'⟩ | ⟨q', f'⟩ <;> rw [f, f'] <;> omega
  refine ⟨key.1, key.2.1, PT.ext key.2.2.1 key.2.2.2, fun e => ?_⟩
  rw [dist_zero.2 e] at key
  omega
theorem step_nxt {a b : PT} (hs : Step a b) : InLine a b ∧ dist a b = 1 ∧ nxt a b = b ∧ a ≠ b := by
  have key : InLine a b ∧ dist a b = 1 ∧ (a.f0 + sgn a.f0 b.f0 = b.f0 ∧ a.f1 + sgn a.f1 b.f1 = b.f1) := by
    unfold dist InLine Step at *
    rcases sgn_spec a.f0 b.f0 with ⟨q, f⟩ | ⟨q, f⟩ | ⟨q, f⟩ <;> rcases sgn_spec a.f1 b.f1 with ⟨q', f'⟩ | ⟨q', f'⟩ | ⟨q', f'⟩ <;> rw [f, f'] <;> omega
  refine ⟨key.1, key.2.1, PT.ext key.2.2.1 key.2.2.2, fun e => ?_⟩
  rw [dist_zero.2 e] at key
  omega
theorem drop_g {l : List PT} {i : Nat} (h : i < l.length) : l.drop i = g l i :: l.drop (i + 1) := by rw [List.drop_eq_getElem_cons h, g_eq h]
/-- From each point of a path on, what is between its turns is the path. -/
theorem stayGo_turns (l : List PT) (hp : PathTo l 0) : ∀ (d i : Nat), l.length - i = d + 1 → stayGo (g l i) (turnsFrom l (i + 1)) = some (l.drop (i + 1)) := by
  intro d
  induction d with
  | zero =>
    intro i hd
    rw [turnsFrom_end l (i + 1) (by omega), List.drop_of_length_le (by omega)]
    rfl
  | succ d ih =>
    intro i hd
    have hs : Step (g l i) (g l (i + 1)) := (hp (i + 1) (by omega) (by omega)).2 (by omega)
    have hb := (hp (i + 1) (by omega) (by omega)).1
    have h := ih (i + 1) (by omega)
    rw [turnsFrom_step l (i + 1) (by omega)]
    by_cases ht : turnAt l (i + 1) = true
    · rw [if_pos ht, List.singleton_append]
      obtain ⟨h1, h2, h3, h4⟩ := step_nxt hs
      simp only [stayGo]
      rw [if_pos (good_iff.2 ⟨hb, h4, h1⟩), h, h2]
      simp only [leg, Option.map_some, h3, List.singleton_append]
      rw [drop_g (show i + 1 < l.length by omega)]
    · rw [if_neg ht, List.nil_append]
      have hlast : i + 1 + 1 < l.length := by
        rcases Nat.lt_or_ge (i + 1 + 1) l.length with h' | h'
        · exact h'
        · exact absurd (show turnAt l (i + 1) = true by simp [turnAt]; omega) ht
      have hg : goesOn (g l i) (g l (i + 1)) (g l (i + 1 + 1)) = true := by
        simp only [turnAt, Bool.or_eq_true, Bool.not_eq_true', not_or] at ht
        simpa using ht.2
      simp only [goesOn, Bool.and_eq_true, beq_iff_eq] at hg
      rw [drop_g hlast] at h
      cases hc : turnsFrom l (i + 1 + 1) with
      | nil =>
        rw [hc] at h
        simp [stayGo] at h
      | cons c t =>
        rw [hc] at h
        simp only [stayGo] at h ⊢
        by_cases hgd : good (g l (i + 1)) c = true
        · rw [if_pos hgd] at h
          obtain ⟨hok, hne, hl⟩ := good_iff.1 hgd
          obtain ⟨n, hn⟩ : ∃ n, dist (g l (i + 1)) c = n + 1 := ⟨dist (g l (i + 1)) c - 1, by
            have : dist (g l (i + 1)) c ≠ 0 := fun e => hne (dist_zero.1 e)
            omega⟩
          obtain ⟨m, hm, hm'⟩ := Option.map_eq_some_iff.1 h
          rw [hn] at hm'
          simp only [leg, List.cons_append] at hm'
          obtain ⟨e1, e2⟩ := List.cons.inj hm'
          obtain ⟨x1, x2, x3, x4⟩ := extend hl hn hs (by rw [e1]; exact hg.1) (by rw [e1]; exact hg.2)
          rw [if_pos (good_iff.2 ⟨hok, x4, x1⟩), hm, x2]
          simp only [Option.map_some]
          rw [drop_g (show i + 1 < l.length by omega), drop_g hlast, ← hm']
          simp [leg, x3, e1]
        · rw [if_neg hgd] at h
          cases h
theorem stay_turns (l : List PT) (hp : IsPath l) : stay (turns l) = (l, true) := by
  obtain ⟨h1, h2, hp⟩ := hp
  have h := stayGo_turns l hp (l.length - 1) 0 (by omega)
  unfold turns
  rw [turnsFrom_step l 0 (by omega), if_pos (by simp [turnAt]), List.singleton_append]
  simp only [stay]
  have hlen : (turnsFrom l (0 + 1)).length ≤ l.length - 1 := by
    unfold turnsFrom
    rw [List.length_map]
    exact Nat.le_trans (List.length_filter_le _ _) (by simp)
  rw [if_pos ⟨by omega, (hp 0 (by omega) (by omega)).1⟩, h]
  have e : [g l 0] ++ l.drop 1 = l := by
    have := drop_g (show 0 < l.length by omega)
    simpa using this.symm
  simp only [fin]
  rw [e, if_pos h2]

theorem codeTurns_path {l : List PT} (h : IsPath l) : codeTurns l = turns l := by unfold codeTurns; rw [if_pos h]
end Go.Proofs.Ytdacpdhpifocbaa.Q

namespace Go.Proofs.Ytdacpdhpifocbaa.Q
open Go.RowKit Go.Proofs.Ytdacpdhpifocbaa.P Go.Proofs.YtdacpdhpifocbaaW.PrintWords Go.Proofs.YtdacpdhpifocbaaW.PrintLast
set_option linter.unusedVariables false

theorem ext_g' {a b : List PT} (h : a.length = b.length) (h' : ∀ j, j < a.length → g a j = g b j) : a = b := by
  apply List.ext_getElem h
  intro i h1 h2
  have := h' i h1
  rwa [g_eq h1, g_eq h2] at this
theorem luSame_l0 (a b : List PT) (hl : a.length < 1000000000000000000) (hab : a.length = b.length) : ∀ (d k i : Nat), a.length - i = d → i ≤ a.length → d < k →
    ∃ r, laws_luSame.l0 k a b (i : Int) = some r ∧ (r = true ↔ ∀ j, i ≤ j → j < a.length → g a j = g b j) := by
  intro d
  induction d with
  | zero =>
    intro k i hd hi hk
    obtain ⟨k, rfl⟩ : ∃ m, k = m + 1 := ⟨k - 1, by omega⟩
    refine ⟨true, ?_, by simp only [true_iff]; intro j h1 h2; omega⟩
    simp only [laws_luSame.l0]
    rw [if_neg (by omega)]
  | succ d ih =>
    intro k i hd hi hk
    obtain ⟨k, rfl⟩ : ∃ m, k = m + 1 := ⟨k - 1, by omega⟩
    simp only [laws_luSame.l0]
    rw [if_pos (by omega), if_pos (by omega), if_pos (by omega), rd_nat, rd_nat]
    by_cases h : g a i = g b i
    · rw [if_neg (by rw [ne_bool]; simpa using h), w_succ (by omega)]
      obtain ⟨r, hr, hr'⟩ := ih k (i + 1) (by omega) (by omega) (by omega)
      refine ⟨r, hr, hr'.trans ⟨fun q j h1 h2 => ?_, fun q j h1 h2 => q j (by omega) h2⟩⟩
      rcases Nat.eq_or_lt_of_le h1 with e | e
      · subst e; exact h
      · exact q j e h2
    · rw [if_pos (by rw [ne_bool]; exact h)]
      exact ⟨false, rfl, by simp only [Bool.false_eq_true, false_iff]; exact fun q => h (q i (Nat.le_refl _) (by omega))⟩
theorem luSame_f (a b : List PT) (hl : a.length < 1000000000000000000) (k : Nat) (hk : a.length < k) : laws_luSame.f k a b = some (decide (a = b)) := by
  unfold laws_luSame.f
  by_cases h : a.length = b.length
  · rw [if_pos (by omega)]
    obtain ⟨r, hr, hr'⟩ := luSame_l0 a b hl h a.length k 0 (by omega) (by omega) (by omega)
    rw [show ((0 : Nat) : Int) = 0 from rfl] at hr
    rw [hr]
    congr 1
    rw [Bool.eq_iff_iff, hr', decide_eq_true_eq]
    exact ⟨fun q => ext_g' h (fun j hj => q j (by omega) hj), fun q j _ _ => by rw [q]⟩
  · rw [if_neg (by omega), decide_eq_false (fun e => h (by rw [e]))]
theorem luSame_self (a : List PT) (hl : a.length < 1000000000000000000) (k : Nat) (hk : a.length < k) : laws_luSame.f k a a = some true := by rw [luSame_f a a hl k hk]; simp
theorem mem_g {l : List PT} {p : PT} : p ∈ l ↔ ∃ j, j < l.length ∧ g l j = p := by
  rw [List.mem_iff_getElem]
  exact ⟨fun ⟨j, h, e⟩ => ⟨j, h, by rw [g_eq h]; exact e⟩, fun ⟨j, h, e⟩ => ⟨j, h, by rw [← g_eq h]; exact e⟩⟩
theorem luAmong_l0 (l : List PT) (p : PT) (hl : l.length < 1000000000000000000) : ∀ (d k i : Nat), l.length - i = d → i ≤ l.length → d < k →
    ∃ r, laws_luAmong.l0 k l (i : Int) p.f0 p.f1 = some r ∧ (r = true ↔ ∃ j, i ≤ j ∧ j < l.length ∧ g l j = p) := by
  intro d
  induction d with
  | zero =>
    intro k i hd hi hk
    obtain ⟨k, rfl⟩ : ∃ m, k = m + 1 := ⟨k - 1, by omega⟩
    refine ⟨false, ?_, by simp only [Bool.false_eq_true, false_iff]; rintro ⟨j, h1, h2, _⟩; omega⟩
    simp only [laws_luAmong.l0]
    rw [if_neg (by omega)]
  | succ d ih =>
    intro k i hd hi hk
    obtain ⟨k, rfl⟩ : ∃ m, k = m + 1 := ⟨k - 1, by omega⟩
    simp only [laws_luAmong.l0]
    rw [if_pos (by omega), if_pos (by omega), rd_nat]
    by_cases h : g l i = p
    · rw [if_pos (by rw [eq_bool]; exact h)]
      exact ⟨true, rfl, by simp only [true_iff]; exact ⟨i, Nat.le_refl _, by omega, h⟩⟩
    · rw [if_neg (by rw [eq_bool]; exact h), w_succ (by omega)]
      obtain ⟨r, hr, hr'⟩ := ih k (i + 1) (by omega) (by omega) (by omega)
      refine ⟨r, hr, hr'.trans ⟨fun ⟨j, h1, h2, h3⟩ => ⟨j, by omega, h2, h3⟩, fun ⟨j, h1, h2, h3⟩ => ⟨j, ?_, h2, h3⟩⟩⟩
      rcases Nat.eq_or_lt_of_le h1 with e | e
      · subst e; exact absurd h3 h
      · exact e
theorem luAmong_f (l : List PT) (p : PT) (hl : l.length < 1000000000000000000) (k : Nat) (hk : l.length < k) : laws_luAmong.f k l p.f0 p.f1 = some (decide (p ∈ l)) := by
  obtain ⟨r, hr, hr'⟩ := luAmong_l0 l p hl l.length k 0 (by omega) (by omega) (by omega)
  unfold laws_luAmong.f
  rw [show ((0 : Nat) : Int) = 0 from rfl] at hr
  rw [hr]
  congr 1
  rw [Bool.eq_iff_iff, hr', decide_eq_true_eq, mem_g]
  exact ⟨fun ⟨j, _, h2, h3⟩ => ⟨j, h2, h3⟩, fun ⟨j, h2, h3⟩ => ⟨j, Nat.zero_le _, h2, h3⟩⟩
theorem luPart_l0 (a b : List PT) (hl : a.length < 1000000000000000000) (hb : b.length < 1000000000000000000) : ∀ (d k i : Nat), a.length - i = d → i ≤ a.length → d + b.length + 1 < k →
    ∃ r, laws_luPart.l0 k a b (i : Int) = some r ∧ (r = true ↔ ∀ j, i ≤ j → j < a.length → g a j ∈ b) := by
  intro d
  induction d with
  | zero =>
    intro k i hd hi hk
    obtain ⟨k, rfl⟩ : ∃ m, k = m + 1 := ⟨k - 1, by omega⟩
    refine ⟨true, ?_, by simp only [true_iff]; intro j h1 h2; omega⟩
    simp only [laws_luPart.l0]
    rw [if_neg (by omega)]
  | succ d ih =>
    intro k i hd hi hk
    obtain ⟨k, rfl⟩ : ∃ m, k = m + 1 := ⟨k - 1, by omega⟩
    simp only [laws_luPart.l0]
    rw [if_pos (by omega), if_pos (by omega), rd_nat, luAmong_f b (g a i) hb k (by omega)]
    simp only [Option.bind_some, decide_eq_true_eq]
    by_cases h : g a i ∈ b
    · rw [if_pos h, w_succ (by omega)]
      obtain ⟨r, hr, hr'⟩ := ih k (i + 1) (by omega) (by omega) (by omega)
      refine ⟨r, hr, hr'.trans ⟨fun q j h1 h2 => ?_, fun q j h1 h2 => q j (by omega) h2⟩⟩
      rcases Nat.eq_or_lt_of_le h1 with e | e
      · subst e; exact h
      · exact q j e h2
    · rw [if_neg h]
      exact ⟨false, rfl, by simp only [Bool.false_eq_true, false_iff]; exact fun q => h (q i (Nat.le_refl _) (by omega))⟩
theorem luPart_f (a b : List PT) (hl : a.length < 1000000000000000000) (hb : b.length < 1000000000000000000) (k : Nat) (hk : a.length + b.length + 1 < k) : laws_luPart.f k a b = some (decide (∀ p ∈ a, p ∈ b)) := by
  obtain ⟨r, hr, hr'⟩ := luPart_l0 a b hl hb a.length k 0 (by omega) (by omega) (by omega)
  unfold laws_luPart.f
  rw [show ((0 : Nat) : Int) = 0 from rfl] at hr
  rw [hr]
  congr 1
  rw [Bool.eq_iff_iff, hr', decide_eq_true_eq]
  refine ⟨fun q p hp => ?_, fun q j _ h2 => q _ (mem_g.2 ⟨j, h2, rfl⟩)⟩
  obtain ⟨j, hj, rfl⟩ := mem_g.1 hp
  exact q j (Nat.zero_le _) hj
theorem luPart_true (a b : List PT) (hl : a.length < 1000000000000000000) (hb : b.length < 1000000000000000000) (k : Nat) (hk : a.length + b.length + 1 < k) (h : ∀ p ∈ a, p ∈ b) : laws_luPart.f k a b = some true := by
  rw [luPart_f a b hl hb k hk, decide_eq_true h]
end Go.Proofs.Ytdacpdhpifocbaa.Q

namespace Go.Proofs.Ytdacpdhpifocbaa.Q
open Go.RowKit Go.Proofs.Ytdacpdhpifocbaa.P Go.Proofs.YtdacpdhpifocbaaW.PrintWords Go.Proofs.YtdacpdhpifocbaaW.PrintLast
set_option linter.unusedVariables false
set_option maxHeartbeats 1000000
set_option linter.unusedSimpArgs false

def dot3 (a b c : PT) : Int := (b.f0 - a.f0) * (c.f0 - b.f0) + (b.f1 - a.f1) * (c.f1 - b.f1)
def Dots (L : List PT) : Prop := ∀ i, i + 2 < L.length → dot3 (g L i) (g L (i + 1)) (g L (i + 2)) ≤ 0
theorem dots_cons {a b : PT} {L : List PT} (h : Dots (b :: L)) (h0 : ∀ c r, L = c :: r → dot3 a b c ≤ 0) : Dots (a :: b :: L) := by
  intro i hi
  match i with
  | 0 =>
    match L, h0, hi with
    | [], _, hi => simp at hi
    | c :: r, h0, _ => exact h0 c r rfl
  | i + 1 => exact h i (by simp only [List.length_cons] at hi ⊢; omega)
theorem dot_unit {a b c : PT} {m n s0 s1 t0 t1 : Int} (hm : 0 < m) (hn : 0 < n)
    (hs : (s0 = 1 ∧ s1 = 0) ∨ (s0 = 0 ∧ s1 = 1) ∨ (s0 = -1 ∧ s1 = 0) ∨ (s0 = 0 ∧ s1 = -1)) (ht : (t0 = 1 ∧ t1 = 0) ∨ (t0 = 0 ∧ t1 = 1) ∨ (t0 = -1 ∧ t1 = 0) ∨ (t0 = 0 ∧ t1 = -1))
    (hne : ¬ (t0 = s0 ∧ t1 = s1)) (h0 : b.f0 = a.f0 + m * s0) (h1 : b.f1 = a.f1 + m * s1) (k0 : c.f0 = b.f0 + n * t0) (k1 : c.f1 = b.f1 + n * t1) : dot3 a b c ≤ 0 := by
  have e0 : b.f0 - a.f0 = m * s0 := by omega
  have e1 : b.f1 - a.f1 = m * s1 := by omega
  have e2 : c.f0 - b.f0 = n * t0 := by omega
  have e3 : c.f1 - b.f1 = n * t1 := by omega
  have hp := Int.mul_pos hm hn
  unfold dot3
  rw [e0, e1, e2, e3]
  rcases hs with ⟨rfl, rfl⟩ | ⟨rfl, rfl⟩ | ⟨rfl, rfl⟩ | ⟨rfl, rfl⟩ <;> rcases ht with ⟨rfl, rfl⟩ | ⟨rfl, rfl⟩ | ⟨rfl, rfl⟩ | ⟨rfl, rfl⟩ <;> first | (exfalso; exact hne ⟨rfl, rfl⟩) | (simp only [Int.mul_one, Int.mul_zero, Int.mul_neg, Int.neg_mul, Int.zero_mul, Int.add_zero, Int.zero_add, Int.neg_neg]; omega)
theorem unit_step {a b : PT} (h : Step a b) : (b.f0 - a.f0 = 1 ∧ b.f1 - a.f1 = 0) ∨ (b.f0 - a.f0 = 0 ∧ b.f1 - a.f1 = 1) ∨ (b.f0 - a.f0 = -1 ∧ b.f1 - a.f1 = 0) ∨ (b.f0 - a.f0 = 0 ∧ b.f1 - a.f1 = -1) := by
  unfold Step at h
  omega
theorem turns_dots (l : List PT) (hp : PathTo l 0) : ∀ (d i p : Nat) (m s0 s1 : Int), l.length - i = d → p < i → i ≤ l.length → 0 < m →
    (i < l.length → (g l i).f0 = (g l p).f0 + m * s0 ∧ (g l i).f1 = (g l p).f1 + m * s1 ∧ (g l i).f0 - (g l (i - 1)).f0 = s0 ∧ (g l i).f1 - (g l (i - 1)).f1 = s1) →
    (∀ b r, turnsFrom l i = b :: r → ∃ n : Int, 0 < n ∧ b.f0 = (g l p).f0 + n * s0 ∧ b.f1 = (g l p).f1 + n * s1) ∧ Dots (g l p :: turnsFrom l i) := by
  intro d
  induction d with
  | zero =>
    intro i p m s0 s1 hd hpi hi hm h
    rw [turnsFrom_end l i (by omega)]
    exact ⟨fun b r h => (by cases h), fun j hj => by simp at hj⟩
  | succ d ih =>
    intro i p m s0 s1 hd hpi hi hm h
    obtain ⟨h0, h1, h2, h3⟩ := h (by omega)
    rw [turnsFrom_step l i (by omega)]
    by_cases ht : turnAt l i = true
    · rw [if_pos ht, List.singleton_append]
      by_cases hlast : i + 1 = l.length
      · rw [turnsFrom_end l (i + 1) (by omega)]
        refine ⟨fun b r h => ?_, fun j hj => (by simp only [List.length_cons, List.length_nil] at hj; omega)⟩
        obtain ⟨rfl, rfl⟩ := List.cons.inj h
        exact ⟨m, hm, h0, h1⟩
      · have hst := (hp i (Nat.zero_le _) (by omega)).2 (by omega)
        have hst' := (hp (i + 1) (Nat.zero_le _) (by omega)).2 (by omega)
        rw [show i + 1 - 1 = i by omega] at hst'
        have u0 := unit_step hst
        have u1 := unit_step hst'
        rw [h2, h3] at u0
        obtain ⟨k1, k2⟩ := ih (i + 1) i 1 ((g l (i + 1)).f0 - (g l i).f0) ((g l (i + 1)).f1 - (g l i).f1) (by omega) (by omega) (by omega) (by omega) (fun _ => ⟨by omega, by omega, by rw [show i + 1 - 1 = i by omega], by rw [show i + 1 - 1 = i by omega]⟩)
        refine ⟨fun b r h => ?_, dots_cons k2 (fun c r hc => ?_)⟩
        · obtain ⟨rfl, rfl⟩ := List.cons.inj h
          exact ⟨m, hm, h0, h1⟩
        · obtain ⟨n, hn, q0, q1⟩ := k1 c r hc
          refine dot_unit hm hn u0 u1 (fun he => ?_) h0 h1 q0 q1
          have hg : goesOn (g l (i - 1)) (g l i) (g l (i + 1)) = true := by
            simp only [goesOn, Bool.and_eq_true, beq_iff_eq]
            omega
          unfold turnAt at ht
          rw [hg, decide_eq_false (by omega), decide_eq_false (by omega)] at ht
          simp at ht
    · rw [if_neg ht, List.nil_append]
      have ht' : goesOn (g l (i - 1)) (g l i) (g l (i + 1)) = true ∧ i + 1 ≠ l.length := by
        unfold turnAt at ht
        simp only [Bool.or_eq_true, decide_eq_true_eq, Bool.not_eq_true', not_or, Bool.not_eq_false] at ht
        exact ⟨ht.2, ht.1.2⟩
      refine ih (i + 1) p (m + 1) s0 s1 (by omega) (by omega) (by omega) (by omega) (fun hi1 => ?_)
      have hg := ht'.1
      simp only [goesOn, Bool.and_eq_true, beq_iff_eq] at hg
      rw [show i + 1 - 1 = i by omega, Int.add_mul, Int.add_mul, Int.one_mul, Int.one_mul]
      omega
theorem turns_head {l : List PT} (h : 0 < l.length) : ∃ r, turns l = g l 0 :: r := ⟨turnsFrom l 1, by
  unfold turns
  rw [turnsFrom_step l 0 h, if_pos (by simp [turnAt])]
  rfl⟩
theorem path_dots {l : List PT} (hp : IsPath l) : Dots (turns l) := by
  obtain ⟨h1, _, hp⟩ := hp
  unfold turns
  rw [turnsFrom_step l 0 (by omega), if_pos (by simp [turnAt]), List.singleton_append]
  exact (turns_dots l hp (l.length - 1) 1 0 1 ((g l 1).f0 - (g l 0).f0) ((g l 1).f1 - (g l 0).f1) rfl (by omega) (by omega) (by omega) (fun _ => ⟨by omega, by omega, rfl, rfl⟩)).2
theorem mem_turns {l : List PT} {p : PT} (h : p ∈ turns l) : p ∈ l := by
  unfold turns turnsFrom at h
  obtain ⟨j, hj, rfl⟩ := List.mem_map.1 h
  have := (List.mem_filter.1 hj).1
  rw [List.mem_range'_1] at this
  exact mem_g.2 ⟨j, by omega, rfl⟩
theorem turnsFrom_len (l : List PT) (i : Nat) : (turnsFrom l i).length ≤ l.length - i := by
  unfold turnsFrom
  rw [List.length_map]
  exact Nat.le_trans (List.length_filter_le _ _) (by simp)
theorem turnsFrom_last (l : List PT) : ∀ (d i : Nat), l.length - i = d + 1 → ∃ r, turnsFrom l i = r ++ [g l (l.length - 1)] := by
  intro d
  induction d with
  | zero =>
    intro i hd
    rw [turnsFrom_step l i (by omega), if_pos (by simp only [turnAt, Bool.or_eq_true, decide_eq_true_eq]; left; right; omega), turnsFrom_end l (i + 1) (by omega)]
    exact ⟨[], by rw [show l.length - 1 = i by omega]; rfl⟩
  | succ d ih =>
    intro i hd
    obtain ⟨r, hr⟩ := ih (i + 1) (by omega)
    rw [turnsFrom_step l i (by omega), hr, ← List.append_assoc]
    exact ⟨_, rfl⟩
theorem turns_last {l : List PT} (h : 0 < l.length) : g (turns l) ((turns l).length - 1) = g l (l.length - 1) := by
  obtain ⟨r, hr⟩ := turnsFrom_last l (l.length - 1) 0 (by omega)
  unfold turns
  rw [hr, List.length_append]
  simp [g]
/-! ### on the other side -/
/-! ### backward -/
end Go.Proofs.Ytdacpdhpifocbaa.Q

