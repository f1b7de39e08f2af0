/- Part 5 of what Stay rests on: contracts of the program's functions and plain facts (the print's texts and the session's own, put together). -/
import Derived.Test.YtdacpdhpifocbaaBStay3
namespace Go.Proofs.Ytdacpdhpifocbaa.P
open Go.RowKit Go.Proofs.YtdacpdhpifocbaaW.PrintWords Go.Proofs.YtdacpdhpifocbaaW.PrintLast Go.Proofs.YtdacpdhpifocbaaW.PrintMore
attribute [local go_sem] max2_int min2_int max_two min_two max_three min_three max_four min_four   -- for this text's walks alone
set_option linter.unusedVariables false
set_option linter.unusedSimpArgs false

attribute [local go_sem high] eqA38
/-! ### laws_FnStay: function 6 -/
mutual
def laws_FnStay.j0 : Nat → List (S38) → List (S38) → Bool → List (S38) → Bool → Bool → Option (Bool)
  | 0, _, _, _, _, _, _ => none
  | k + 1, x3, x4, x5, x6, x7, x41 => if x41 = true then (if (x7 == x5) = true then ((laws_luSame.f k x6 x4).bind fun t113 => (some t113)) else (some false)) else (if 0 < (x3.length : Int) then ((impl_PtOk.f ((rd_T38 x3 0).f0) ((rd_T38 x3 0).f1)).bind fun t115 => (laws_FnStay.l0 k x3 x6 x7 t115 1 1)) else (none))
def laws_FnStay.l0 : Nat → List (S38) → List (S38) → Bool → Bool → Int → Int → Option (Bool)
  | 0, _, _, _, _, _, _ => none
  | k + 1, x3, x6, x7, x8, x9, x10 => if x10 < (x3.length : Int) then (if 0 ≤ x10 then (if 0 ≤ (wrap64 (x10 - 1)) then (if (wrap64 (x10 - 1)) < (x3.length : Int) then (if x8 = true then ((impl_PtOk.f ((rd_T38 x3 x10).f0) ((rd_T38 x3 x10).f1)).bind fun t121 => (if t121 = true then (laws_FnStay.l0 k x3 x6 x7 (((wrap64 (((rd_T38 x3 x10).f0) - ((rd_T38 x3 (wrap64 (x10 - 1))).f0))) == 0) != ((wrap64 (((rd_T38 x3 x10).f1) - ((rd_T38 x3 (wrap64 (x10 - 1))).f1))) == 0)) (wrap64 ((wrap64 (x9 + (mx (wrap64 (((rd_T38 x3 x10).f0) - ((rd_T38 x3 (wrap64 (x10 - 1))).f0))) (wrap64 (-(wrap64 (((rd_T38 x3 x10).f0) - ((rd_T38 x3 (wrap64 (x10 - 1))).f0)))))))) + (mx (wrap64 (((rd_T38 x3 x10).f1) - ((rd_T38 x3 (wrap64 (x10 - 1))).f1))) (wrap64 (-(wrap64 (((rd_T38 x3 x10).f1) - ((rd_T38 x3 (wrap64 (x10 - 1))).f1)))))))) (wrap64 (x10 + 1))) else (laws_FnStay.l0 k x3 x6 x7 false (wrap64 ((wrap64 (x9 + (mx (wrap64 (((rd_T38 x3 x10).f0) - ((rd_T38 x3 (wrap64 (x10 - 1))).f0))) (wrap64 (-(wrap64 (((rd_T38 x3 x10).f0) - ((rd_T38 x3 (wrap64 (x10 - 1))).f0)))))))) + (mx (wrap64 (((rd_T38 x3 x10).f1) - ((rd_T38 x3 (wrap64 (x10 - 1))).f1))) (wrap64 (-(wrap64 (((rd_T38 x3 x10).f1) - ((rd_T38 x3 (wrap64 (x10 - 1))).f1)))))))) (wrap64 (x10 + 1))))) else (laws_FnStay.l0 k x3 x6 x7 false (wrap64 ((wrap64 (x9 + (mx (wrap64 (((rd_T38 x3 x10).f0) - ((rd_T38 x3 (wrap64 (x10 - 1))).f0))) (wrap64 (-(wrap64 (((rd_T38 x3 x10).f0) - ((rd_T38 x3 (wrap64 (x10 - 1))).f0)))))))) + (mx (wrap64 (((rd_T38 x3 x10).f1) - ((rd_T38 x3 (wrap64 (x10 - 1))).f1))) (wrap64 (-(wrap64 (((rd_T38 x3 x10).f1) - ((rd_T38 x3 (wrap64 (x10 - 1))).f1)))))))) (wrap64 (x10 + 1)))) else (none)) else (none)) else (none)) else (if x7 = true then (laws_FnStay.j2 k x3 x6 x7 x8 x9 (!x8)) else (laws_FnStay.j2 k x3 x6 x7 x8 x9 true))
def laws_FnStay.j2 : Nat → List (S38) → List (S38) → Bool → Bool → Int → Bool → Option (Bool)
  | 0, _, _, _, _, _, _ => none
  | k + 1, x3, x6, x7, x8, x9, x115 => if x115 = true then (some (x7 == x8)) else ((laws_luPath.f k x6).bind fun t122 => (if t122 = true then (if (x6.length : Int) = x9 then (if 0 < (x6.length : Int) then (if 0 < (x3.length : Int) then (if (((rd_T38 x6 0).f0) == ((rd_T38 x3 0).f0) && (((rd_T38 x6 0).f1) == ((rd_T38 x3 0).f1))) = true then (if 0 ≤ (wrap64 (x9 - 1)) then (if (wrap64 (x9 - 1)) < (x6.length : Int) then (if 0 ≤ (wrap64 ((x3.length : Int) - 1)) then (if (wrap64 ((x3.length : Int) - 1)) < (x3.length : Int) then (if (((rd_T38 x6 (wrap64 (x9 - 1))).f0) == ((rd_T38 x3 (wrap64 ((x3.length : Int) - 1))).f0) && (((rd_T38 x6 (wrap64 (x9 - 1))).f1) == ((rd_T38 x3 (wrap64 ((x3.length : Int) - 1))).f1))) = true then ((laws_luPart.f k x3 x6).bind fun t127 => (some t127)) else (some false)) else (none)) else (none)) else (none)) else (none)) else (some false)) else (none)) else (none)) else (some false)) else (some false)))
end
def laws_FnStay.f (k : Nat) (l0 : List Int) : Option (Bool) := if (l0.length : Int) > 1048576 then (some true) else ((spec_DrawCodeStay.f k l0).bind fun t101 => ((spec_CodeStay.f k t101).bind fun bt104 => ((impl_CodeStay.f k t101).bind fun bt108 => (if (bt108.2 != bt104.2) = true then (laws_FnStay.j0 k t101 bt104.1 bt104.2 bt108.1 bt108.2 true) else ((laws_luSame.f k bt108.1 bt104.1).bind fun t112 => (if t112 = true then (laws_FnStay.j0 k t101 bt104.1 bt104.2 bt108.1 bt108.2 ((t101.length : Int) == 0)) else (laws_FnStay.j0 k t101 bt104.1 bt104.2 bt108.1 bt108.2 true)))))))
theorem laws_FnStay.mono_l : ∀ k, (∀ y0 y1 y2 y3 y4 y5, LeO (laws_FnStay.j0 k y0 y1 y2 y3 y4 y5) (laws_FnStay.j0 (k + 1) y0 y1 y2 y3 y4 y5)) ∧ (∀ y0 y1 y2 y3 y4 y5, LeO (laws_FnStay.l0 k y0 y1 y2 y3 y4 y5) (laws_FnStay.l0 (k + 1) y0 y1 y2 y3 y4 y5)) ∧ (∀ y0 y1 y2 y3 y4 y5, LeO (laws_FnStay.j2 k y0 y1 y2 y3 y4 y5) (laws_FnStay.j2 (k + 1) y0 y1 y2 y3 y4 y5))
  | 0 => ⟨fun _ _ _ _ _ _ r h => by simp [laws_FnStay.j0] at h, fun _ _ _ _ _ _ r h => by simp [laws_FnStay.l0] at h, fun _ _ _ _ _ _ r h => by simp [laws_FnStay.j2] at h⟩
  | k + 1 => by
    obtain ⟨ih0, ih1, ih2⟩ := laws_FnStay.mono_l k
    refine ⟨?_, ?_, ?_⟩
    · intro y0 y1 y2 y3 y4 y5
      unfold laws_FnStay.j0
      repeat' first
      | (with_reducible exact ih0 _ _ _ _ _ _)
      | (with_reducible exact ih1 _ _ _ _ _ _)
      | (with_reducible exact ih2 _ _ _ _ _ _)
      | (with_reducible exact impl_CodeStay.mono _ _)
      | (with_reducible exact laws_luPart.mono _ _ _)
      | (with_reducible exact laws_luPath.mono _ _)
      | (with_reducible exact laws_luSame.mono _ _ _)
      | (with_reducible exact spec_CodeStay.mono _ _)
      | (with_reducible exact spec_DrawCodeStay.mono _ _)
      | (with_reducible exact LeO.refl _)
      | (with_reducible exact LeO.none _)
      | (with_reducible refine LeO.ite ?_ ?_)
      | (with_reducible refine LeO.bind ?_ (fun _ => ?_))
      | exact ih0 _ _ _ _ _ _
      | exact ih1 _ _ _ _ _ _
      | exact ih2 _ _ _ _ _ _
      | exact impl_CodeStay.mono _ _
      | exact laws_luPart.mono _ _ _
      | exact laws_luPath.mono _ _
      | exact laws_luSame.mono _ _ _
      | exact spec_CodeStay.mono _ _
      | exact spec_DrawCodeStay.mono _ _
      | exact LeO.none _
      | refine LeO.ite ?_ ?_
      | refine LeO.bind ?_ (fun _ => ?_)
    · intro y0 y1 y2 y3 y4 y5
      unfold laws_FnStay.l0
      repeat' first
      | (with_reducible exact ih0 _ _ _ _ _ _)
      | (with_reducible exact ih1 _ _ _ _ _ _)
      | (with_reducible exact ih2 _ _ _ _ _ _)
      | (with_reducible exact impl_CodeStay.mono _ _)
      | (with_reducible exact laws_luPart.mono _ _ _)
      | (with_reducible exact laws_luPath.mono _ _)
      | (with_reducible exact laws_luSame.mono _ _ _)
      | (with_reducible exact spec_CodeStay.mono _ _)
      | (with_reducible exact spec_DrawCodeStay.mono _ _)
      | (with_reducible exact LeO.refl _)
      | (with_reducible exact LeO.none _)
      | (with_reducible refine LeO.ite ?_ ?_)
      | (with_reducible refine LeO.bind ?_ (fun _ => ?_))
      | exact ih0 _ _ _ _ _ _
      | exact ih1 _ _ _ _ _ _
      | exact ih2 _ _ _ _ _ _
      | exact impl_CodeStay.mono _ _
      | exact laws_luPart.mono _ _ _
      | exact laws_luPath.mono _ _
      | exact laws_luSame.mono _ _ _
      | exact spec_CodeStay.mono _ _
      | exact spec_DrawCodeStay.mono _ _
      | exact LeO.none _
      | refine LeO.ite ?_ ?_
      | refine LeO.bind ?_ (fun _ => ?_)
    · intro y0 y1 y2 y3 y4 y5
      unfold laws_FnStay.j2
      repeat' first
      | (with_reducible exact ih0 _ _ _ _ _ _)
      | (with_reducible exact ih1 _ _ _ _ _ _)
      | (with_reducible exact ih2 _ _ _ _ _ _)
      | (with_reducible exact impl_CodeStay.mono _ _)
      | (with_reducible exact laws_luPart.mono _ _ _)
      | (with_reducible exact laws_luPath.mono _ _)
      | (with_reducible exact laws_luSame.mono _ _ _)
      | (with_reducible exact spec_CodeStay.mono _ _)
      | (with_reducible exact spec_DrawCodeStay.mono _ _)
      | (with_reducible exact LeO.refl _)
      | (with_reducible exact LeO.none _)
      | (with_reducible refine LeO.ite ?_ ?_)
      | (with_reducible refine LeO.bind ?_ (fun _ => ?_))
      | exact ih0 _ _ _ _ _ _
      | exact ih1 _ _ _ _ _ _
      | exact ih2 _ _ _ _ _ _
      | exact impl_CodeStay.mono _ _
      | exact laws_luPart.mono _ _ _
      | exact laws_luPath.mono _ _
      | exact laws_luSame.mono _ _ _
      | exact spec_CodeStay.mono _ _
      | exact spec_DrawCodeStay.mono _ _
      | exact LeO.none _
      | refine LeO.ite ?_ ?_
      | refine LeO.bind ?_ (fun _ => ?_)
theorem laws_FnStay.mono : ∀ a0 k, LeO (laws_FnStay.f k a0) (laws_FnStay.f (k + 1) a0) := by
  intro a0 k
  obtain ⟨ih0, ih1, ih2⟩ := laws_FnStay.mono_l k
  unfold laws_FnStay.f
  repeat' first
      | (with_reducible exact ih0 _ _ _ _ _ _)
      | (with_reducible exact ih1 _ _ _ _ _ _)
      | (with_reducible exact ih2 _ _ _ _ _ _)
      | (with_reducible exact impl_CodeStay.mono _ _)
      | (with_reducible exact laws_luPart.mono _ _ _)
      | (with_reducible exact laws_luPath.mono _ _)
      | (with_reducible exact laws_luSame.mono _ _ _)
      | (with_reducible exact spec_CodeStay.mono _ _)
      | (with_reducible exact spec_DrawCodeStay.mono _ _)
      | (with_reducible exact LeO.refl _)
      | (with_reducible exact LeO.none _)
      | (with_reducible refine LeO.ite ?_ ?_)
      | (with_reducible refine LeO.bind ?_ (fun _ => ?_))
      | exact ih0 _ _ _ _ _ _
      | exact ih1 _ _ _ _ _ _
      | exact ih2 _ _ _ _ _ _
      | exact impl_CodeStay.mono _ _
      | exact laws_luPart.mono _ _ _
      | exact laws_luPath.mono _ _
      | exact laws_luSame.mono _ _ _
      | exact spec_CodeStay.mono _ _
      | exact spec_DrawCodeStay.mono _ _
      | exact LeO.none _
      | refine LeO.ite ?_ ?_
      | refine LeO.bind ?_ (fun _ => ?_)
def laws_FnStay.T13 : Bool × List (List Nat × List Nat) := (true, [([], []), ([], []), ([0, 1], [0, 1]), ([2], [2]), ([3], [3]), ([], []), ([], []), ([6], [6]), ([5, 7], [5, 7]), ([8], [8]), ([9], [9]), ([4, 10], [4, 10]), ([11, 0, 1, 2, 3, 4, 5, 6, 7, 8, 9, 10, 11], [11])])
def laws_FnStay.B13 : List Nat := [0, 0, 3, 7, 15, 0, 0, 64, 224, 480, 992, 2047, 4095]
theorem laws_FnStay.tab13 : rtab .any (opsOf Try.f6 13) = laws_FnStay.T13 := by kernel_rfl
theorem laws_FnStay.bits13 : waitsOk laws_FnStay.T13.2 laws_FnStay.B13 = true := by kernel_rfl
def laws_FnStay.T14 : Bool × List (List Nat × List Nat) := (true, [([], []), ([], []), ([0, 1], [0, 1]), ([2], [2]), ([3], [3]), ([], []), ([], []), ([6], [6]), ([5, 7], [5, 7]), ([8], [8]), ([9], [9]), ([4, 10], [4, 10]), ([11, 0, 1, 2, 3, 4, 5, 6, 7, 8, 9, 10, 11], [11])])
def laws_FnStay.B14 : List Nat := [0, 0, 3, 7, 15, 0, 0, 64, 224, 480, 992, 2047, 4095]
theorem laws_FnStay.tab14 : rtab .any (opsOf Try.f6 14) = laws_FnStay.T14 := by kernel_rfl
theorem laws_FnStay.bits14 : waitsOk laws_FnStay.T14.2 laws_FnStay.B14 = true := by kernel_rfl
def laws_FnStay.T19 : Bool × List (List Nat × List Nat) := (true, [([], []), ([0], [0]), ([1, 1], [1]), ([2], [2]), ([3, 2], [2, 3]), ([2], [2]), ([4, 5, 2], [2, 4, 5]), ([2, 6], [2, 6]), ([7, 2], [7]), ([8], [8]), ([9, 8], [8, 9]), ([10, 8], [8, 10]), ([8], [8]), ([12, 8], [8, 12]), ([13, 8], [8, 13]), ([11, 14, 8], [8, 11, 14]), ([8, 15], [8, 15]), ([16, 8], [16]), ([17], [17]), ([17], [17]), ([19, 17], [17, 19]), ([18, 20, 17], [17, 18, 20]), ([21, 17], [17, 21]), ([17], [17]), ([17], [17]), ([24, 17], [17, 24]), ([25, 17], [17, 25]), ([23, 26, 17], [17, 23, 26]), ([27, 17], [17, 27]), ([22, 28, 17], [17, 22, 28]), ([17, 29], [17, 29]), ([30, 17], [30]), ([31], [31]), ([31], [31]), ([32, 33, 31, 31], [31, 32, 33]), ([31, 34], [31, 34]), ([35, 34, 0, 1, 2, 3, 4, 5, 6, 7, 8, 9, 10, 11, 12, 13, 14, 15, 16, 17, 18, 19, 20, 21, 22, 23, 24, 25, 26, 27, 28, 29, 30, 31, 32, 33, 34, 35], [35])])
def laws_FnStay.B19 : List Nat := [0, 1, 3, 7, 15, 7, 63, 127, 255, 511, 1023, 2047, 511, 4607, 12799, 32767, 65535, 131071, 262143, 262143, 786431, 2097151, 4194303, 262143, 262143, 17039359, 50593791, 126091263, 260308991, 536870911, 1073741823, 2147483647, 4294967295, 4294967295, 17179869183, 34359738367, 68719476735]
theorem laws_FnStay.tab19 : rtab .any (opsOf Try.f6 19) = laws_FnStay.T19 := by kernel_rfl
theorem laws_FnStay.bits19 : waitsOk laws_FnStay.T19.2 laws_FnStay.B19 = true := by kernel_rfl
abbrev laws_FnStay.y_ : Bool := true
abbrev laws_FnStay.n_ : Bool := false
set_option maxHeartbeats 8000000 in
set_option maxRecDepth 100000 in
theorem laws_FnStay.calls (k : Nat) (A0 : Option Addr) (c0 : Nat) (l0 : List Int) (r : Bool) (w : World) (hr0 : Kd.C (Kd.int .u8) w A0 l0.length l0) (hc0 : l0.length ≤ c0) (h : laws_FnStay.f k l0 = some r) :
  Calls Try.prog 6 #[.slice A0 l0.length c0] w fun e w' => e = .returned (.bool r) ∧ Below w.heap.size w w' := by
 have hu38 := Try.underlying38; have HR0 := Aside0.mk hr0; have HC0 := Aside0.mk hc0; clear hr0 hc0; have HB := Aside0.mk (Below.refl w.heap.size w); have H : (if (l0.length : Int) > 1048576 then (some true) else ((spec_DrawCodeStay.f k l0).bind fun t101 => ((spec_CodeStay.f k t101).bind fun bt104 => ((impl_CodeStay.f k t101).bind fun bt108 => (if (bt108.2 != bt104.2) = true then (laws_FnStay.j0 k t101 bt104.1 bt104.2 bt108.1 bt108.2 true) else ((laws_luSame.f k bt108.1 bt104.1).bind fun t112 => (if t112 = true then (laws_FnStay.j0 k t101 bt104.1 bt104.2 bt108.1 bt108.2 ((t101.length : Int) == 0)) else (laws_FnStay.j0 k t101 bt104.1 bt104.2 bt108.1 bt108.2 true)))))))) = some r := h; clear h
 by_cases c2 : (l0.length : Int) > 1048576
 ·rw [if_pos c2] at H
  have c2b0 : decide (1048576 < (l0.length : Int)) = true := decide_eq_true c2; have c2b1 : decide (1048576 < l0.length) = true := decide_eq_true (by omega); clear c2; obtain rfl := Option.some.inj H; go_enter Try.func6, Try.ntmps6; go_wp2; go_ret
  exact ⟨by first | rfl | (simp [errW_none, errW_some] <;> rfl) | (simp [*, errW_none, errW_some] <;> rfl), by repeat (first | (with_reducible first | exact HB.out | apply below_alloc | apply pw_below_drewN | apply below_drew1) | exact HB.out)⟩
 ·rw [if_neg c2] at H
  have c2b0 : decide (1048576 < (l0.length : Int)) = false := decide_eq_false c2; have c2b1 : decide (1048576 < l0.length) = false := decide_eq_false (by omega); clear c2; replace H := Option.bind_eq_some_iff.mp H; obtain ⟨t101, A30, H⟩ := H; replace H : ((spec_CodeStay.f k t101).bind fun bt104 => ((impl_CodeStay.f k t101).bind fun bt108 => (if (bt108.2 != bt104.2) = true then (laws_FnStay.j0 k t101 bt104.1 bt104.2 bt108.1 bt108.2 true) else ((laws_luSame.f k bt108.1 bt104.1).bind fun t112 => (if t112 = true then (laws_FnStay.j0 k t101 bt104.1 bt104.2 bt108.1 bt108.2 ((t101.length : Int) == 0)) else (laws_FnStay.j0 k t101 bt104.1 bt104.2 bt108.1 bt108.2 true)))))) = some r := H; have A3 := Aside0.mk A30; clear A30; replace H := Option.bind_eq_some_iff.mp H; obtain ⟨⟨t104, t105⟩, A40, H⟩ := H; replace H : ((impl_CodeStay.f k t101).bind fun bt108 => (if (bt108.2 != t105) = true then (laws_FnStay.j0 k t101 t104 t105 bt108.1 bt108.2 true) else ((laws_luSame.f k bt108.1 t104).bind fun t112 => (if t112 = true then (laws_FnStay.j0 k t101 t104 t105 bt108.1 bt108.2 ((t101.length : Int) == 0)) else (laws_FnStay.j0 k t101 t104 t105 bt108.1 bt108.2 true))))) = some r := H; have A4 := Aside0.mk A40; clear A40; replace H := Option.bind_eq_some_iff.mp H; obtain ⟨⟨t108, t109⟩, A50, H⟩ := H; replace H : (if (t109 != t105) = true then (laws_FnStay.j0 k t101 t104 t105 t108 t109 true) else ((laws_luSame.f k t108 t104).bind fun t112 => (if t112 = true then (laws_FnStay.j0 k t101 t104 t105 t108 t109 ((t101.length : Int) == 0)) else (laws_FnStay.j0 k t101 t104 t105 t108 t109 true)))) = some r := H; have A5 := Aside0.mk A50; clear A50; have HC6 := Aside0.mk H; clear H; go_enter Try.func6, Try.ntmps6; go_upto_region 6 with (first | ((with_reducible refine gate_callee (f := 22) rfl ?_); refine goesL_ (some 17) rfl rfl Try.func22 (by kernel_rfl) rfl #[.slice A0 l0.length c0] rfl (by (try simp only [List.map_toArray, List.map_cons, List.map_nil]); first | done | rfl | (simp only [List.length_drop, List.length_take]; rfl)) ?_; (with_reducible refine (spec_DrawCodeStay.calls k _ _ l0 t101 _ ?side1 ?side2 A3.out).mono ?_); (case side1 => repeat (first | exact HR0.out | (with_reducible refine Kd.C_alloc ?_ _) | (with_reducible refine Kd.C_drewN ?_ _) | (with_reducible refine Kd.C_drew ?_))); (case side2 => exact HC0.out); rintro e w7 ⟨v102, rfl, ho0, hb⟩; refine ⟨_, rfl, ?_⟩; have n0_ := Aside0.mk (Kd.R_lower ho0 (below_size (by repeat (first | (with_reducible first | exact HB.out | apply below_alloc | apply pw_below_drewN | apply below_drew1) | exact HB.out)))); have n1_ := Aside0.mk (below_step (by repeat (first | (with_reducible first | exact HB.out | apply below_alloc | apply pw_below_drewN | apply below_drew1) | exact HB.out)) hb); clear HB; have HO103 := n0_; have HB := n1_; clear n0_ n1_; (try clear hb); (try clear hb2); (try clear hk); (try clear hi); (try clear ho0); obtain ⟨Ao8, co8, eo8⟩ := Kd.R_slice HO103.out; subst eo8) | ((with_reducible refine gate_callee (f := 16) rfl ?_); refine goesL_ (some 20) rfl rfl Try.func16 (by kernel_rfl) rfl #[.slice Ao8 t101.length co8] rfl (by (try simp only [List.map_toArray, List.map_cons, List.map_nil]); first | done | rfl | (simp only [List.length_drop, List.length_take]; rfl)) ?_; (with_reducible refine (spec_CodeStay.calls k _ _ t101 t104 t105 _ ?side1 ?side2 A4.out).mono ?_); (case side1 => repeat (first | exact (Kd.R_reads' HO103.out).2.2 | (with_reducible refine Kd.C_alloc ?_ _) | (with_reducible refine Kd.C_drewN ?_ _) | (with_reducible refine Kd.C_drew ?_))); (case side2 => exact (Kd.R_reads' HO103.out).2.1); rintro e w9 ⟨v106, rfl, ho0, hb⟩; refine ⟨_, rfl, ?_⟩; have n0_ := Aside0.mk (Kd.R_elder' (by (with_reducible repeat (first | apply Kd.R_alloc | apply Kd.R_drewN | apply Kd.R_drew)); exact HO103.out) (Kd.R_base ho0) hb); have n1_ := Aside0.mk (Kd.R_lower (Kd.R_new' ho0 (Kd.R_lt (by (with_reducible repeat (first | apply Kd.R_alloc | apply Kd.R_drewN | apply Kd.R_drew)); exact HO103.out))) (below_size (by repeat (first | (with_reducible first | exact HB.out | apply below_alloc | apply pw_below_drewN | apply below_drew1) | exact HB.out)))); have n2_ := Aside0.mk (below_step (by repeat (first | (with_reducible first | exact HB.out | apply below_alloc | apply pw_below_drewN | apply below_drew1) | exact HB.out)) hb); clear HO103; clear HB; have HO103 := n0_; have HO107 := n1_; have HB := n2_; clear n0_ n1_ n2_; (try clear hb); (try clear hb2); (try clear hk); (try clear hi); (try clear ho0)) | ((with_reducible refine gate_callee (f := 17) rfl ?_); refine goesL_ (some 25) rfl rfl Try.func17 (by kernel_rfl) rfl #[.slice Ao8 t101.length co8] rfl (by (try simp only [List.map_toArray, List.map_cons, List.map_nil]); first | done | rfl | (simp only [List.length_drop, List.length_take]; rfl)) ?_; (with_reducible refine (impl_CodeStay.calls k _ _ t101 t108 t109 _ ?side1 ?side2 A5.out).mono ?_); (case side1 => repeat (first | exact (Kd.R_reads' HO103.out).2.2 | (with_reducible refine Kd.C_alloc ?_ _) | (with_reducible refine Kd.C_drewN ?_ _) | (with_reducible refine Kd.C_drew ?_))); (case side2 => exact (Kd.R_reads' HO103.out).2.1); rintro e w10 ⟨v110, rfl, ho0, hb⟩; refine ⟨_, rfl, ?_⟩; have n0_ := Aside0.mk (Kd.R_elder' (by (with_reducible repeat (first | apply Kd.R_alloc | apply Kd.R_drewN | apply Kd.R_drew)); exact HO103.out) (Kd.R_base ho0) hb); have n1_ := Aside0.mk (Kd.R_elder' (by (with_reducible repeat (first | apply Kd.R_alloc | apply Kd.R_drewN | apply Kd.R_drew)); exact HO107.out) (Kd.R_base ho0) hb); have n2_ := Aside0.mk (Kd.R_lower (Kd.R_new' (Kd.R_new' ho0 (Kd.R_lt (by (with_reducible repeat (first | apply Kd.R_alloc | apply Kd.R_drewN | apply Kd.R_drew)); exact HO103.out))) (Kd.R_lt (by (with_reducible repeat (first | apply Kd.R_alloc | apply Kd.R_drewN | apply Kd.R_drew)); exact HO107.out))) (below_size (by repeat (first | (with_reducible first | exact HB.out | apply below_alloc | apply pw_below_drewN | apply below_drew1) | exact HB.out)))); have n3_ := Aside0.mk (below_step (by repeat (first | (with_reducible first | exact HB.out | apply below_alloc | apply pw_below_drewN | apply below_drew1) | exact HB.out)) hb); clear HO103; clear HO107; clear HB; have HO103 := n0_; have HO107 := n1_; have HO111 := n2_; have HB := n3_; clear n0_ n1_ n2_ n3_; (try clear hb); (try clear hb2); (try clear hk); (try clear hi); (try clear ho0)))
  (try simp only [Act.put, List.setIfInBounds_toArray, List.set_cons_zero, List.set_cons_succ]); go_cut [41] (fun v41 wc => ∃ (kq : Nat) (x41_5 : Bool), v41 = .bool x41_5 ∧ Aside0 (laws_FnStay.j0 kq t101 t104 t105 t108 t109 x41_5 = some r) ∧ Aside0 (kq ≤ k) ∧ Aside0 (Kd.R k38 38 wc w.heap.size (fun k_ => some k_ ≠ (v106 : Value).ownBlock ∧ some k_ ≠ (v110 : Value).ownBlock) (.slice Ao8 t101.length co8) t101) ∧ Aside0 (Kd.R k38 38 wc w.heap.size (fun k_ => some k_ ≠ ((.slice Ao8 t101.length co8) : Value).ownBlock ∧ some k_ ≠ (v110 : Value).ownBlock) v106 t104) ∧ Aside0 (Kd.R k38 38 wc w.heap.size (fun k_ => some k_ ≠ ((.slice Ao8 t101.length co8) : Value).ownBlock ∧ some k_ ≠ (v106 : Value).ownBlock) v110 t108) ∧ Aside0 (Below w.heap.size w wc))
  case first =>
   have H := HC6.out; clear HC6
   by_cases c11 : (t109 != t105) = true
   ·rw [if_pos c11] at H
    have c11b0 : (t109 != t105) = true := c11; (try (have c11b1 : decide (t109 = t105) = false := by simpa using c11)); (try (have c11b2 : (t109 == t105) = false := by simpa using c11)); (try (have c11b3 : ¬ (t109 = t105) := by simpa using c11)); clear c11; (first | rw [c11b0] | (simp only [i64_w, i32_w]; rw [c11b0]) | skip); have H' := Aside0.mk H; clear H; go_wp2; go_meet
    case rel => exact ⟨_, (true), (by first | rfl | (simp; done) | (simp [*]; done)), H', ⟨by first | omega | exact Nat.le_refl _⟩, ⟨by (with_reducible repeat (first | apply Kd.R_alloc | apply Kd.R_drewN | apply Kd.R_drew)); exact Kd.R_mono HO103.out (fun _ hk => ⟨hk.1.2, hk.2⟩)⟩, ⟨by (with_reducible repeat (first | apply Kd.R_alloc | apply Kd.R_drewN | apply Kd.R_drew)); exact Kd.R_mono HO107.out (fun _ hk => ⟨hk.1.2, hk.2⟩)⟩, ⟨by (with_reducible repeat (first | apply Kd.R_alloc | apply Kd.R_drewN | apply Kd.R_drew)); exact Kd.R_mono HO111.out (fun _ hk => ⟨hk.1.2, hk.2⟩)⟩, ⟨by repeat (first | (with_reducible first | exact HB.out | apply below_alloc | apply pw_below_drewN | apply below_drew1) | exact HB.out)⟩⟩
   ·rw [if_neg c11] at H
    have c11b0 : (t109 != t105) = false := by simpa using c11
    (try (have c11b1 : decide (t109 = t105) = true := by simpa using c11)); (try (have c11b2 : (t109 == t105) = true := by simpa using c11)); clear c11; (first | rw [c11b0] | (simp only [i64_w, i32_w]; rw [c11b0]) | skip); replace H := Option.bind_eq_some_iff.mp H; obtain ⟨t112, A120, H⟩ := H; replace H : (if t112 = true then (laws_FnStay.j0 k t101 t104 t105 t108 t109 ((t101.length : Int) == 0)) else (laws_FnStay.j0 k t101 t104 t105 t108 t109 true)) = some r := H; have A12 := Aside0.mk A120; clear A120
    by_cases c13 : t112 = true
    ·subst c13
     have H1 : (laws_FnStay.j0 k t101 t104 t105 t108 t109 ((t101.length : Int) == 0)) = some r := by rw [if_pos rfl] at H; exact H
     clear H; have H := H1; clear H1; have H' := Aside0.mk H; clear H; obtain ⟨Ao14, co14, eo14⟩ := Kd.R_slice HO111.out; subst eo14; obtain ⟨Ao15, co15, eo15⟩ := Kd.R_slice HO107.out; subst eo15; go_wp2_with (first | (go_at_call 19; (with_reducible refine (laws_luSame.calls k _ _ t108 _ _ t104 true _ ?side1 ?side2 ?side3 ?side4 A12.out).mono ?_); (case side1 => repeat (first | exact (Kd.R_reads' HO111.out).2.2 | (with_reducible refine Kd.C_alloc ?_ _) | (with_reducible refine Kd.C_drewN ?_ _) | (with_reducible refine Kd.C_drew ?_))); (case side2 => exact (Kd.R_reads' HO111.out).2.1); (case side3 => repeat (first | exact (Kd.R_reads' HO107.out).2.2 | (with_reducible refine Kd.C_alloc ?_ _) | (with_reducible refine Kd.C_drewN ?_ _) | (with_reducible refine Kd.C_drew ?_))); (case side4 => exact (Kd.R_reads' HO107.out).2.1); rintro e w' ⟨rfl, ⟨nd, rfl⟩⟩)); go_meet
     case rel => exact ⟨_, (((t101.length : Int) == 0)), (by first | rfl | (simp; done) | (simp [*]; done)), H', ⟨by first | omega | exact Nat.le_refl _⟩, ⟨by (with_reducible repeat (first | apply Kd.R_alloc | apply Kd.R_drewN | apply Kd.R_drew)); exact Kd.R_mono HO103.out (fun _ hk => ⟨hk.1.2, hk.2⟩)⟩, ⟨by (with_reducible repeat (first | apply Kd.R_alloc | apply Kd.R_drewN | apply Kd.R_drew)); exact Kd.R_mono HO107.out (fun _ hk => ⟨hk.1.2, hk.2⟩)⟩, ⟨by (with_reducible repeat (first | apply Kd.R_alloc | apply Kd.R_drewN | apply Kd.R_drew)); exact Kd.R_mono HO111.out (fun _ hk => ⟨hk.1.2, hk.2⟩)⟩, ⟨by repeat (first | (with_reducible first | exact HB.out | apply below_alloc | apply pw_below_drewN | apply below_drew1) | exact HB.out)⟩⟩
    ·replace c13 := Bool.eq_false_iff.mpr c13
     subst c13
     have H1 : (laws_FnStay.j0 k t101 t104 t105 t108 t109 true) = some r := by rw [if_neg (show ¬ (false = true) by decide)] at H; exact H
     clear H; have H := H1; clear H1; have H' := Aside0.mk H; clear H; obtain ⟨Ao16, co16, eo16⟩ := Kd.R_slice HO111.out; subst eo16; obtain ⟨Ao17, co17, eo17⟩ := Kd.R_slice HO107.out; subst eo17; go_wp2_with (first | (go_at_call 19; (with_reducible refine (laws_luSame.calls k _ _ t108 _ _ t104 false _ ?side1 ?side2 ?side3 ?side4 A12.out).mono ?_); (case side1 => repeat (first | exact (Kd.R_reads' HO111.out).2.2 | (with_reducible refine Kd.C_alloc ?_ _) | (with_reducible refine Kd.C_drewN ?_ _) | (with_reducible refine Kd.C_drew ?_))); (case side2 => exact (Kd.R_reads' HO111.out).2.1); (case side3 => repeat (first | exact (Kd.R_reads' HO107.out).2.2 | (with_reducible refine Kd.C_alloc ?_ _) | (with_reducible refine Kd.C_drewN ?_ _) | (with_reducible refine Kd.C_drew ?_))); (case side4 => exact (Kd.R_reads' HO107.out).2.1); rintro e w' ⟨rfl, ⟨nd, rfl⟩⟩)); go_meet
     case rel => exact ⟨_, (true), (by first | rfl | (simp; done) | (simp [*]; done)), H', ⟨by first | omega | exact Nat.le_refl _⟩, ⟨by (with_reducible repeat (first | apply Kd.R_alloc | apply Kd.R_drewN | apply Kd.R_drew)); exact Kd.R_mono HO103.out (fun _ hk => ⟨hk.1.2, hk.2⟩)⟩, ⟨by (with_reducible repeat (first | apply Kd.R_alloc | apply Kd.R_drewN | apply Kd.R_drew)); exact Kd.R_mono HO107.out (fun _ hk => ⟨hk.1.2, hk.2⟩)⟩, ⟨by (with_reducible repeat (first | apply Kd.R_alloc | apply Kd.R_drewN | apply Kd.R_drew)); exact Kd.R_mono HO111.out (fun _ hk => ⟨hk.1.2, hk.2⟩)⟩, ⟨by repeat (first | (with_reducible first | exact HB.out | apply below_alloc | apply pw_below_drewN | apply below_drew1) | exact HB.out)⟩⟩
  case rest =>
   clear HC6
   try clear c1
   try clear c2
   try clear c2b0
   try clear c2b1
   try clear p2
   try clear c6
   try clear c11
   try clear c11b0
   try clear c11b1
   try clear c11b2
   try clear c13
   try clear c16
   try clear c17
   obtain ⟨kq, x41_5, rfl, HA, HJ5, HO_3, HO_4, HO_6, HB⟩ := hcut
   cases kq with
   | zero => exact absurd HA.out (by simp [laws_FnStay.j0])
   | succ kj5 =>
    have H := HA.out; clear HA; simp only [laws_FnStay.j0] at H
    by_cases c18 : x41_5 = true
    ·subst c18
     have H1 : (if (t109 == t105) = true then ((laws_luSame.f kj5 t108 t104).bind fun t113 => (some t113)) else (some false)) = some r := by rw [if_pos rfl] at H; exact H
     clear H; have H := H1; clear H1
     by_cases c19 : (t109 == t105) = true
     ·rw [if_pos c19] at H
      have c19b0 : (t109 == t105) = true := c19; (try (have c19b1 : decide (t109 = t105) = true := by simpa using c19)); (try (have c19b2 : (t109 == t105) = true := by simpa using c19)); clear c19; replace H := Option.bind_eq_some_iff.mp H; obtain ⟨t113, A200, H⟩ := H; replace H : (some t113) = some r := H; have A20 := Aside0.mk A200; clear A200; obtain rfl := Option.some.inj H; obtain ⟨Ao21, co21, eo21⟩ := Kd.R_slice HO_6.out; subst eo21; obtain ⟨Ao22, co22, eo22⟩ := Kd.R_slice HO_4.out; subst eo22; go_wp2_with (first | (go_at_call 19; (with_reducible refine (laws_luSame.calls kj5 _ _ t108 _ _ t104 t113 _ ?side1 ?side2 ?side3 ?side4 A20.out).mono ?_); (case side1 => repeat (first | exact (Kd.R_reads' HO_6.out).2.2 | (with_reducible refine Kd.C_alloc ?_ _) | (with_reducible refine Kd.C_drewN ?_ _) | (with_reducible refine Kd.C_drew ?_))); (case side2 => exact (Kd.R_reads' HO_6.out).2.1); (case side3 => repeat (first | exact (Kd.R_reads' HO_4.out).2.2 | (with_reducible refine Kd.C_alloc ?_ _) | (with_reducible refine Kd.C_drewN ?_ _) | (with_reducible refine Kd.C_drew ?_))); (case side4 => exact (Kd.R_reads' HO_4.out).2.1); rintro e w' ⟨rfl, ⟨nd, rfl⟩⟩)); go_ret
      exact ⟨by first | rfl | (simp [errW_none, errW_some] <;> rfl) | (simp [*, errW_none, errW_some] <;> rfl), by repeat (first | (with_reducible first | exact HB.out | apply below_alloc | apply pw_below_drewN | apply below_drew1) | exact HB.out)⟩
     ·rw [if_neg c19] at H
      have c19b0 : (t109 == t105) = false := by simpa using c19
      (try (have c19b1 : decide (t109 = t105) = false := by simpa using c19)); (try (have c19b2 : (t109 == t105) = false := by simpa using c19)); (try (have c19b3 : ¬ (t109 = t105) := by simpa using c19)); clear c19; obtain rfl := Option.some.inj H; go_wp2; go_ret
      exact ⟨by first | rfl | (simp [errW_none, errW_some] <;> rfl) | (simp [*, errW_none, errW_some] <;> rfl), by repeat (first | (with_reducible first | exact HB.out | apply below_alloc | apply pw_below_drewN | apply below_drew1) | exact HB.out)⟩
    ·replace c18 := Bool.eq_false_iff.mpr c18
     subst c18
     have H1 : (if 0 < (t101.length : Int) then ((impl_PtOk.f ((rd_T38 t101 0).f0) ((rd_T38 t101 0).f1)).bind fun t115 => (laws_FnStay.l0 kj5 t101 t108 t109 t115 1 1)) else (none)) = some r := by rw [if_neg (show ¬ (false = true) by decide)] at H; exact H
     clear H; have H := H1; clear H1
     by_cases c23 : 0 < (t101.length : Int)
     ·rw [if_pos c23] at H
      have c23b0 : decide (0 < (t101.length : Int)) = true := decide_eq_true c23; have c23b1 : decide (0 < t101.length) = true := decide_eq_true (by omega); clear c23; replace H := Option.bind_eq_some_iff.mp H; obtain ⟨t115, A240, H⟩ := H; replace H : (laws_FnStay.l0 kj5 t101 t108 t109 t115 1 1) = some r := H; have A24 := Aside0.mk A240; clear A240; have H' := Aside0.mk H; clear H; have p114 : 0 ≤ (0 : Int) := (by omega); have q114 : 0 < (t101.length : Int) := of_decide_eq_true (by first | (with_reducible assumption) | assumption); obtain ⟨ad114, e114, hx114_0, hx114_1⟩ := at_T38 (Kd.R_reads' HO_3.out).2.2 0 p114 q114
      cases e114
      have qi114 : (0 < t101.length) = True := eq_true (by omega); (try rw [show ((0 : Int)).toNat = 0 from rfl] at hx114_0); (try rw [show 0 * 2 = 0 from rfl] at hx114_0); (try rw [Addr.add_zero'] at hx114_0); (try rw [show ((0 : Int)).toNat = 0 from rfl] at hx114_1); (try rw [show 0 * 2 = 0 from rfl] at hx114_1); (try rw [Addr.add_zero'] at hx114_1); replace p114 := eq_true p114; replace q114 := eq_true q114; go_wp2_with (first | ((with_reducible refine gate_callee (f := 23) rfl ?_); refine goesL_ (some 53) rfl rfl Try.func23 (by kernel_rfl) rfl #[.agg #[.int .i64 ((rd_T38 t101 0).f0), .int .i64 ((rd_T38 t101 0).f1)]] rfl (by (try simp only [List.map_toArray, List.map_cons, List.map_nil]); first | done | rfl | (simp only [List.length_drop, List.length_take]; rfl)) ?_; (with_reducible refine (impl_PtOk.calls ((rd_T38 t101 0).f0) ((rd_T38 t101 0).f1) t115 _ A24.out).mono ?_); rintro e w25 ⟨rfl, hb⟩; refine ⟨_, rfl, ?_⟩; have n0_ := Aside0.mk (Kd.R_below (by (with_reducible repeat (first | apply Kd.R_alloc | apply Kd.R_drewN | apply Kd.R_drew)); exact HO_3.out) hb); have n1_ := Aside0.mk (Kd.R_below (by (with_reducible repeat (first | apply Kd.R_alloc | apply Kd.R_drewN | apply Kd.R_drew)); exact HO_4.out) hb); have n2_ := Aside0.mk (Kd.R_below (by (with_reducible repeat (first | apply Kd.R_alloc | apply Kd.R_drewN | apply Kd.R_drew)); exact HO_6.out) hb); have n3_ := Aside0.mk (below_step (by repeat (first | (with_reducible first | exact HB.out | apply below_alloc | apply pw_below_drewN | apply below_drew1) | exact HB.out)) hb); clear HO_3; clear HO_4; clear HO_6; clear HB; have HO_3 := n0_; have HO_4 := n1_; have HO_6 := n2_; have HB := n3_; clear n0_ n1_ n2_ n3_; (try clear hb); (try clear hb2); (try clear hk); (try clear hi))); go_loopg [8, 9, 10] kj5 (fun kq v8 v9 v10 w' => ∃ (x8_2 : Bool) (x9_2 : Int) (x10_2 : Int), v8 = .bool x8_2 ∧ v9 = .int .i64 x9_2 ∧ v10 = .int .i64 x10_2 ∧ Aside0 (laws_FnStay.l0 kq t101 t108 t109 x8_2 x9_2 x10_2 = some r) ∧ Aside0 (kq ≤ kj5) ∧ Aside0 (Kd.R k38 38 w' w.heap.size (fun k_ => some k_ ≠ (v110 : Value).ownBlock) (.slice (some ad114) t101.length co8) t101) ∧ Aside0 (Kd.R k38 38 w' w.heap.size (fun k_ => some k_ ≠ ((.slice (some ad114) t101.length co8) : Value).ownBlock) v110 t108) ∧ Aside0 (Below w.heap.size w w'))
      case atStart => exact ⟨(t115), (1), (1), (by first | rfl | (simp; done) | (simp [*]; done)), (by first | rfl | (simp; done) | (simp [*]; done)), (by first | rfl | (simp; done) | (simp [*]; done)), H', ⟨Nat.le_refl _⟩, ⟨by (with_reducible repeat (first | apply Kd.R_alloc | apply Kd.R_drewN | apply Kd.R_drew)); exact Kd.R_mono HO_3.out (fun _ hk => hk.2)⟩, ⟨by (with_reducible repeat (first | apply Kd.R_alloc | apply Kd.R_drewN | apply Kd.R_drew)); exact Kd.R_mono HO_6.out (fun _ hk => hk.1)⟩, ⟨by repeat (first | (with_reducible first | exact HB.out | apply below_alloc | apply pw_below_drewN | apply below_drew1) | exact HB.out)⟩⟩
      case round =>
       clear H'
       try clear c1
       try clear p1
       try clear q1
       try clear hx1
       try clear qi1
       try clear c2
       try clear c2b0
       try clear c2b1
       try clear p2
       try clear c6
       try clear c11
       try clear c11b0
       try clear c11b1
       try clear c11b2
       try clear p11
       try clear q11
       try clear hx11
       try clear qi11
       try clear c13
       try clear c16
       try clear c17
       try clear c18
       try clear c19
       try clear c19b0
       try clear c19b1
       try clear c19b2
       try clear c22
       try clear c23
       try clear c23b0
       try clear c23b1
       try clear hx114_0
       try clear hx114_1
       try clear p114
       try clear p2
       try clear q114
       obtain ⟨x8_2, x9_2, x10_2, rfl, rfl, rfl, HA, HK2, HO_3, HO_6, HB⟩ := hrel
       cases gk with
       | zero => exact absurd HA.out (by simp [laws_FnStay.l0])
       | succ k2 =>
        have H := HA.out; clear HA; simp only [laws_FnStay.l0] at H
        by_cases c26 : x10_2 < (t101.length : Int)
        ·rw [if_pos c26] at H
         have c26b0 : decide (x10_2 < (t101.length : Int)) = true := decide_eq_true c26; clear c26
         by_cases c27 : 0 ≤ x10_2
         ·rw [if_pos c27] at H
          have c27b0 : decide (0 ≤ x10_2) = true := decide_eq_true c27; clear c27; obtain ⟨ji28, hji28⟩ : ∃ j_ : Int, (wrap64 (x10_2 - 1)) = j_ := ⟨_, rfl⟩
          replace H : (if 0 ≤ (ji28) then (if (ji28) < (t101.length : Int) then (if x8_2 = true then ((impl_PtOk.f ((rd_T38 t101 x10_2).f0) ((rd_T38 t101 x10_2).f1)).bind fun t121 => (if t121 = true then (laws_FnStay.l0 k2 t101 t108 t109 (((wrap64 (((rd_T38 t101 x10_2).f0) - ((rd_T38 t101 (ji28)).f0))) == 0) != ((wrap64 (((rd_T38 t101 x10_2).f1) - ((rd_T38 t101 (ji28)).f1))) == 0)) (wrap64 ((wrap64 (x9_2 + (mx (wrap64 (((rd_T38 t101 x10_2).f0) - ((rd_T38 t101 (ji28)).f0))) (wrap64 (-(wrap64 (((rd_T38 t101 x10_2).f0) - ((rd_T38 t101 (ji28)).f0)))))))) + (mx (wrap64 (((rd_T38 t101 x10_2).f1) - ((rd_T38 t101 (ji28)).f1))) (wrap64 (-(wrap64 (((rd_T38 t101 x10_2).f1) - ((rd_T38 t101 (ji28)).f1)))))))) (wrap64 (x10_2 + 1))) else (laws_FnStay.l0 k2 t101 t108 t109 false (wrap64 ((wrap64 (x9_2 + (mx (wrap64 (((rd_T38 t101 x10_2).f0) - ((rd_T38 t101 (ji28)).f0))) (wrap64 (-(wrap64 (((rd_T38 t101 x10_2).f0) - ((rd_T38 t101 (ji28)).f0)))))))) + (mx (wrap64 (((rd_T38 t101 x10_2).f1) - ((rd_T38 t101 (ji28)).f1))) (wrap64 (-(wrap64 (((rd_T38 t101 x10_2).f1) - ((rd_T38 t101 (ji28)).f1)))))))) (wrap64 (x10_2 + 1))))) else (laws_FnStay.l0 k2 t101 t108 t109 false (wrap64 ((wrap64 (x9_2 + (mx (wrap64 (((rd_T38 t101 x10_2).f0) - ((rd_T38 t101 (ji28)).f0))) (wrap64 (-(wrap64 (((rd_T38 t101 x10_2).f0) - ((rd_T38 t101 (ji28)).f0)))))))) + (mx (wrap64 (((rd_T38 t101 x10_2).f1) - ((rd_T38 t101 (ji28)).f1))) (wrap64 (-(wrap64 (((rd_T38 t101 x10_2).f1) - ((rd_T38 t101 (ji28)).f1)))))))) (wrap64 (x10_2 + 1)))) else (none)) else (none)) = some r := by first | (rw [hji28] at H; exact H) | (simp only [hji28] at H ⊢; exact H)
          have hji28w : (IntKind.i64.wrap (x10_2 - 1)) = ji28 := (i64_w _).trans hji28
          by_cases c29 : 0 ≤ (ji28)
          ·rw [if_pos c29] at H
           have c29b0 : decide (0 ≤ (ji28)) = true := decide_eq_true c29; clear c29
           by_cases c30 : (ji28) < (t101.length : Int)
           ·rw [if_pos c30] at H
            have c30b0 : decide ((ji28) < (t101.length : Int)) = true := decide_eq_true c30; clear c30
            by_cases c31 : x8_2 = true
            ·subst c31
             have H1 : ((impl_PtOk.f ((rd_T38 t101 x10_2).f0) ((rd_T38 t101 x10_2).f1)).bind fun t121 => (if t121 = true then (laws_FnStay.l0 k2 t101 t108 t109 (((wrap64 (((rd_T38 t101 x10_2).f0) - ((rd_T38 t101 (ji28)).f0))) == 0) != ((wrap64 (((rd_T38 t101 x10_2).f1) - ((rd_T38 t101 (ji28)).f1))) == 0)) (wrap64 ((wrap64 (x9_2 + (mx (wrap64 (((rd_T38 t101 x10_2).f0) - ((rd_T38 t101 (ji28)).f0))) (wrap64 (-(wrap64 (((rd_T38 t101 x10_2).f0) - ((rd_T38 t101 (ji28)).f0)))))))) + (mx (wrap64 (((rd_T38 t101 x10_2).f1) - ((rd_T38 t101 (ji28)).f1))) (wrap64 (-(wrap64 (((rd_T38 t101 x10_2).f1) - ((rd_T38 t101 (ji28)).f1)))))))) (wrap64 (x10_2 + 1))) else (laws_FnStay.l0 k2 t101 t108 t109 false (wrap64 ((wrap64 (x9_2 + (mx (wrap64 (((rd_T38 t101 x10_2).f0) - ((rd_T38 t101 (ji28)).f0))) (wrap64 (-(wrap64 (((rd_T38 t101 x10_2).f0) - ((rd_T38 t101 (ji28)).f0)))))))) + (mx (wrap64 (((rd_T38 t101 x10_2).f1) - ((rd_T38 t101 (ji28)).f1))) (wrap64 (-(wrap64 (((rd_T38 t101 x10_2).f1) - ((rd_T38 t101 (ji28)).f1)))))))) (wrap64 (x10_2 + 1))))) = some r := by rw [if_pos rfl] at H; exact H
             clear H; have H := H1; clear H1; replace H := Option.bind_eq_some_iff.mp H; obtain ⟨t121, A320, H⟩ := H; replace H : (if t121 = true then (laws_FnStay.l0 k2 t101 t108 t109 (((wrap64 (((rd_T38 t101 x10_2).f0) - ((rd_T38 t101 (ji28)).f0))) == 0) != ((wrap64 (((rd_T38 t101 x10_2).f1) - ((rd_T38 t101 (ji28)).f1))) == 0)) (wrap64 ((wrap64 (x9_2 + (mx (wrap64 (((rd_T38 t101 x10_2).f0) - ((rd_T38 t101 (ji28)).f0))) (wrap64 (-(wrap64 (((rd_T38 t101 x10_2).f0) - ((rd_T38 t101 (ji28)).f0)))))))) + (mx (wrap64 (((rd_T38 t101 x10_2).f1) - ((rd_T38 t101 (ji28)).f1))) (wrap64 (-(wrap64 (((rd_T38 t101 x10_2).f1) - ((rd_T38 t101 (ji28)).f1)))))))) (wrap64 (x10_2 + 1))) else (laws_FnStay.l0 k2 t101 t108 t109 false (wrap64 ((wrap64 (x9_2 + (mx (wrap64 (((rd_T38 t101 x10_2).f0) - ((rd_T38 t101 (ji28)).f0))) (wrap64 (-(wrap64 (((rd_T38 t101 x10_2).f0) - ((rd_T38 t101 (ji28)).f0)))))))) + (mx (wrap64 (((rd_T38 t101 x10_2).f1) - ((rd_T38 t101 (ji28)).f1))) (wrap64 (-(wrap64 (((rd_T38 t101 x10_2).f1) - ((rd_T38 t101 (ji28)).f1)))))))) (wrap64 (x10_2 + 1)))) = some r := H; have A32 := Aside0.mk A320; clear A320
             by_cases c33 : t121 = true
             ·subst c33
              have H1 : (laws_FnStay.l0 k2 t101 t108 t109 (((wrap64 (((rd_T38 t101 x10_2).f0) - ((rd_T38 t101 (ji28)).f0))) == 0) != ((wrap64 (((rd_T38 t101 x10_2).f1) - ((rd_T38 t101 (ji28)).f1))) == 0)) (wrap64 ((wrap64 (x9_2 + (mx (wrap64 (((rd_T38 t101 x10_2).f0) - ((rd_T38 t101 (ji28)).f0))) (wrap64 (-(wrap64 (((rd_T38 t101 x10_2).f0) - ((rd_T38 t101 (ji28)).f0)))))))) + (mx (wrap64 (((rd_T38 t101 x10_2).f1) - ((rd_T38 t101 (ji28)).f1))) (wrap64 (-(wrap64 (((rd_T38 t101 x10_2).f1) - ((rd_T38 t101 (ji28)).f1)))))))) (wrap64 (x10_2 + 1))) = some r := by rw [if_pos rfl] at H; exact H
              clear H; have H := H1; clear H1; obtain ⟨ji34, hji34⟩ : ∃ j_ : Int, (mx (wrap64 (((rd_T38 t101 x10_2).f0) - ((rd_T38 t101 (ji28)).f0))) (wrap64 (-(wrap64 (((rd_T38 t101 x10_2).f0) - ((rd_T38 t101 (ji28)).f0)))))) = j_ := ⟨_, rfl⟩
              replace H : (laws_FnStay.l0 k2 t101 t108 t109 (((wrap64 (((rd_T38 t101 x10_2).f0) - ((rd_T38 t101 (ji28)).f0))) == 0) != ((wrap64 (((rd_T38 t101 x10_2).f1) - ((rd_T38 t101 (ji28)).f1))) == 0)) (wrap64 ((wrap64 (x9_2 + (ji34))) + (mx (wrap64 (((rd_T38 t101 x10_2).f1) - ((rd_T38 t101 (ji28)).f1))) (wrap64 (-(wrap64 (((rd_T38 t101 x10_2).f1) - ((rd_T38 t101 (ji28)).f1)))))))) (wrap64 (x10_2 + 1))) = some r := by first | (rw [hji34] at H; exact H) | (simp only [hji34] at H ⊢; exact H)
              (try rw [hji34] at A32); have hji34_ : (if (wrap64 (((rd_T38 t101 x10_2).f0) - ((rd_T38 t101 (ji28)).f0))) < (wrap64 (-(wrap64 (((rd_T38 t101 x10_2).f0) - ((rd_T38 t101 (ji28)).f0))))) then (wrap64 (-(wrap64 (((rd_T38 t101 x10_2).f0) - ((rd_T38 t101 (ji28)).f0))))) else (wrap64 (((rd_T38 t101 x10_2).f0) - ((rd_T38 t101 (ji28)).f0)))) = ji34 := hji34; obtain ⟨ji35, hji35⟩ : ∃ j_ : Int, (mx (wrap64 (((rd_T38 t101 x10_2).f1) - ((rd_T38 t101 (ji28)).f1))) (wrap64 (-(wrap64 (((rd_T38 t101 x10_2).f1) - ((rd_T38 t101 (ji28)).f1)))))) = j_ := ⟨_, rfl⟩
              replace H : (laws_FnStay.l0 k2 t101 t108 t109 (((wrap64 (((rd_T38 t101 x10_2).f0) - ((rd_T38 t101 (ji28)).f0))) == 0) != ((wrap64 (((rd_T38 t101 x10_2).f1) - ((rd_T38 t101 (ji28)).f1))) == 0)) (wrap64 ((wrap64 (x9_2 + (ji34))) + (ji35))) (wrap64 (x10_2 + 1))) = some r := by first | (rw [hji35] at H; exact H) | (simp only [hji35] at H ⊢; exact H)
              (try rw [hji35] at A32); have hji35_ : (if (wrap64 (((rd_T38 t101 x10_2).f1) - ((rd_T38 t101 (ji28)).f1))) < (wrap64 (-(wrap64 (((rd_T38 t101 x10_2).f1) - ((rd_T38 t101 (ji28)).f1))))) then (wrap64 (-(wrap64 (((rd_T38 t101 x10_2).f1) - ((rd_T38 t101 (ji28)).f1))))) else (wrap64 (((rd_T38 t101 x10_2).f1) - ((rd_T38 t101 (ji28)).f1)))) = ji35 := hji35; have H' := Aside0.mk H; clear H
              try go_wp2
              have n0_ := Aside0.mk (Kd.R_drew HO_3.out); have n1_ := Aside0.mk (Kd.R_drew HO_6.out); have n2_ := Aside0.mk (below_drew1 HB.out); clear HO_3; clear HO_6; clear HB; have HO_3 := n0_; have HO_6 := n1_; have HB := n2_; clear n0_ n1_ n2_; have p116 : 0 ≤ (x10_2 : Int) := of_decide_eq_true (by first | (with_reducible assumption) | assumption); have q116 : x10_2 < (t101.length : Int) := of_decide_eq_true (by first | (with_reducible assumption) | assumption); obtain ⟨ad116, e116, hx116_0, hx116_1⟩ := at_T38 (Kd.R_reads' HO_3.out).2.2 x10_2 p116 q116; obtain rfl : ad114 = ad116 := (by injection e116); replace p116 := eq_true p116; replace q116 := eq_true q116; have p117 : 0 ≤ ((ji28) : Int) := of_decide_eq_true (by first | (with_reducible assumption) | assumption); have q117 : (ji28) < (t101.length : Int) := of_decide_eq_true (by first | (with_reducible assumption) | assumption); obtain ⟨ad117, e117, hx117_0, hx117_1⟩ := at_T38 (Kd.R_reads' HO_3.out).2.2 (ji28) p117 q117; obtain rfl : ad114 = ad117 := (by injection e117); replace p117 := eq_true p117; replace q117 := eq_true q117; refine start_ (n := 13) (S := fun w' => w'.cell? (ad114.add ((x10_2).toNat * 2)) = some (.int .i64 ((rd_T38 t101 x10_2).f0)) ∧ w'.cell? ⟨(ad114.add ((x10_2).toNat * 2)).block, (ad114.add ((x10_2).toNat * 2)).off + 1, none⟩ = some (.int .i64 ((rd_T38 t101 x10_2).f1)) ∧ w'.cell? (ad114.add (((ji28)).toNat * 2)) = some (.int .i64 ((rd_T38 t101 (ji28)).f0)) ∧ w'.cell? ⟨(ad114.add (((ji28)).toNat * 2)).block, (ad114.add (((ji28)).toNat * 2)).off + 1, none⟩ = some (.int .i64 ((rd_T38 t101 (ji28)).f1))) (ds := []) #[n_,n_,n_,n_,n_,n_,n_,n_,n_,n_,n_,n_,n_] (by kernel_rfl) rfl rfl ⟨hx116_0, hx116_1, hx117_0, hx117_1⟩ (fun hHeld => ?_); refine with_tabW laws_FnStay.tab13 laws_FnStay.bits13 (fun HT_ HW_ => ?_); generalize wr.drew = w36 at HO_3 HO_6 HB hx116_0 hx116_1 hx117_0 hx117_1 hHeld ⊢; refine pure_ (i := 0) (N := some 60) (v := ?_) (a' := ?_) #[y_,n_,n_,n_,n_,n_,n_,n_,n_,n_,n_,n_,n_] rfl rfl (any_of HT_.out (by kernel_rfl)) (fun _ _ _ h => h) (Or.inl ⟨by rfl, ?_⟩) ?_ ?_
              rotate_left
              ·intro w'; go_simp; with_reducible rfl
              rotate_left
              ·simp only [Act.put, List.setIfInBounds_toArray, List.set_cons_zero, List.set_cons_succ, i64_w, i32_w]; rfl
              refine pure_ (i := 1) (N := some 61) (v := ?_) (a' := ?_) #[y_,y_,n_,n_,n_,n_,n_,n_,n_,n_,n_,n_,n_] rfl rfl (any_of HT_.out (by kernel_rfl)) (fun _ _ _ h => h) (Or.inl ⟨by rfl, ?_⟩) ?_ ?_
              rotate_left
              ·intro w'; go_simp; with_reducible rfl
              rotate_left
              ·simp only [Act.put, List.setIfInBounds_toArray, List.set_cons_zero, List.set_cons_succ, i64_w, i32_w]; rfl
              refine pure_ (i := 2) (N := some 62) (v := ?_) (a' := ?_) #[y_,y_,y_,n_,n_,n_,n_,n_,n_,n_,n_,n_,n_] rfl rfl (any_of HT_.out (by kernel_rfl)) (fun _ _ _ h => h) (Or.inl ⟨by rfl, ?_⟩) ?_ ?_
              rotate_left
              ·intro w'; go_simp; with_reducible rfl
              rotate_left
              ·simp only [Act.put, List.setIfInBounds_toArray, List.set_cons_zero, List.set_cons_succ, i64_w, i32_w]; rfl
              refine pure_ (i := 3) (N := some 63) (v := ?_) (a' := ?_) #[y_,y_,y_,y_,n_,n_,n_,n_,n_,n_,n_,n_,n_] rfl rfl (any_of HT_.out (by kernel_rfl)) (fun _ _ _ h => h) (Or.inl ⟨by rfl, ?_⟩) ?_ ?_
              rotate_left
              ·intro w'; go_simp; with_reducible rfl
              rotate_left
              ·simp only [Act.put, List.setIfInBounds_toArray, List.set_cons_zero, List.set_cons_succ, i64_w, i32_w]; rfl
              refine pure_ (i := 5) (N := some 65) (v := ?_) (a' := ?_) #[y_,y_,y_,y_,n_,y_,n_,n_,n_,n_,n_,n_,n_] rfl rfl (any_of HT_.out (by kernel_rfl)) (fun _ _ _ h => h) (Or.inl ⟨by rfl, ?_⟩) ?_ ?_
              rotate_left
              ·intro w'; go_simp; with_reducible rfl
              rotate_left
              ·simp only [Act.put, List.setIfInBounds_toArray, List.set_cons_zero, List.set_cons_succ, i64_w, i32_w]; rfl
              refine pure_ (i := 6) (N := some 66) (v := ?_) (a' := ?_) #[y_,y_,y_,y_,n_,y_,y_,n_,n_,n_,n_,n_,n_] rfl rfl (any_of HT_.out (by kernel_rfl)) (fun _ _ _ h => h) (Or.inl ⟨by rfl, ?_⟩) ?_ ?_
              rotate_left
              ·intro w'; go_simp; with_reducible rfl
              rotate_left
              ·simp only [Act.put, List.setIfInBounds_toArray, List.set_cons_zero, List.set_cons_succ, i64_w, i32_w]; rfl
              refine pure_ (i := 7) (N := some 67) (v := ?_) (a' := ?_) #[y_,y_,y_,y_,n_,y_,y_,y_,n_,n_,n_,n_,n_] rfl rfl (any_of HT_.out (by kernel_rfl)) (fun _ _ _ h => h) (Or.inl ⟨by rfl, ?_⟩) ?_ ?_
              rotate_left
              ·intro w'; go_simp; with_reducible rfl
              rotate_left
              ·simp only [Act.put, List.setIfInBounds_toArray, List.set_cons_zero, List.set_cons_succ, i64_w, i32_w]; rfl
              refine pure_ (i := 8) (N := some 68) (v := ?_) (a' := ?_) #[y_,y_,y_,y_,n_,y_,y_,y_,y_,n_,n_,n_,n_] rfl rfl (any_of HT_.out (by kernel_rfl)) (fun _ _ _ h => h) (Or.inl ⟨by rfl, ?_⟩) ?_ ?_
              rotate_left
              ·intro w'; go_simp; with_reducible rfl
              rotate_left
              ·simp only [Act.put, List.setIfInBounds_toArray, List.set_cons_zero, List.set_cons_succ, i64_w, i32_w]; rfl
              refine pure_ (i := 9) (N := some 69) (v := ?_) (a' := ?_) #[y_,y_,y_,y_,n_,y_,y_,y_,y_,y_,n_,n_,n_] rfl rfl (any_of HT_.out (by kernel_rfl)) (fun _ _ _ h => h) (Or.inl ⟨by rfl, ?_⟩) ?_ ?_
              rotate_left
              ·intro w'; go_simp; with_reducible rfl
              rotate_left
              ·simp only [Act.put, List.setIfInBounds_toArray, List.set_cons_zero, List.set_cons_succ, i64_w, i32_w]; rfl
              refine take_ (i := 4) (N := some 64) (v := ?_) (a' := ?_) #[y_,y_,y_,y_,y_,y_,y_,y_,y_,y_,n_,n_,n_] rfl rfl (take_ofW HT_.out HW_.out (by kernel_rfl)) (fun _ _ _ h => h) (Or.inl ⟨by rfl, ?_⟩) hHeld ?_ ?_
              rotate_left
              ·rintro w' ⟨s0, s1, s2, s3⟩; go_simp; with_reducible rfl
              rotate_left
              ·simp only [Act.put, List.setIfInBounds_toArray, List.set_cons_zero, List.set_cons_succ, i64_w, i32_w]; rfl
              refine take_ (i := 10) (N := some 70) (v := ?_) (a' := ?_) #[y_,y_,y_,y_,y_,y_,y_,y_,y_,y_,y_,n_,n_] rfl rfl (take_ofW HT_.out HW_.out (by kernel_rfl)) (fun _ _ _ h => h) (Or.inl ⟨by rfl, ?_⟩) hHeld ?_ ?_
              rotate_left
              ·rintro w' ⟨s0, s1, s2, s3⟩; go_simp; with_reducible rfl
              rotate_left
              ·simp only [Act.put, List.setIfInBounds_toArray, List.set_cons_zero, List.set_cons_succ, i64_w, i32_w]; rfl
              refine pure_ (i := 11) (N := some 71) (v := ?_) (a' := ?_) #[y_,y_,y_,y_,y_,y_,y_,y_,y_,y_,y_,y_,n_] rfl rfl (any_of HT_.out (by kernel_rfl)) (fun _ _ _ h => h) (Or.inl ⟨by rfl, ?_⟩) ?_ ?_
              rotate_left
              ·intro w'; go_simp; with_reducible rfl
              rotate_left
              ·simp only [Act.put, List.setIfInBounds_toArray, List.set_cons_zero, List.set_cons_succ, i64_w, i32_w]; rfl
              refine pure_ (i := 12) (N := some 11) (v := ?_) (a' := ?_) #[y_,y_,y_,y_,y_,y_,y_,y_,y_,y_,y_,y_,y_] rfl rfl (any_of HT_.out (by kernel_rfl)) (fun _ _ _ h => h) (Or.inl ⟨by rfl, ?_⟩) ?_ ?_
              rotate_left
              ·intro w'; go_simp; with_reducible rfl
              rotate_left
              ·simp only [Act.put, List.setIfInBounds_toArray, List.set_cons_zero, List.set_cons_succ, i64_w, i32_w]; rfl
              refine done_ (done_of HT_.out (by kernel_rfl)) ?_
              try go_wp2
              have n0_ := Aside0.mk (Kd.R_drew HO_3.out); have n1_ := Aside0.mk (Kd.R_drew HO_6.out); have n2_ := Aside0.mk (below_drew1 HB.out); clear HO_3; clear HO_6; clear HB; have HO_3 := n0_; have HO_6 := n1_; have HB := n2_; clear n0_ n1_ n2_; have p118 : 0 ≤ (x10_2 : Int) := of_decide_eq_true (by first | (with_reducible assumption) | assumption); have q118 : x10_2 < (t101.length : Int) := of_decide_eq_true (by first | (with_reducible assumption) | assumption); obtain ⟨ad118, e118, hx118_0, hx118_1⟩ := at_T38 (Kd.R_reads' HO_3.out).2.2 x10_2 p118 q118; obtain rfl : ad114 = ad118 := (by injection e118); replace p118 := eq_true p118; replace q118 := eq_true q118; have p119 : 0 ≤ ((ji28) : Int) := of_decide_eq_true (by first | (with_reducible assumption) | assumption); have q119 : (ji28) < (t101.length : Int) := of_decide_eq_true (by first | (with_reducible assumption) | assumption); obtain ⟨ad119, e119, hx119_0, hx119_1⟩ := at_T38 (Kd.R_reads' HO_3.out).2.2 (ji28) p119 q119; obtain rfl : ad114 = ad119 := (by injection e119); replace p119 := eq_true p119; replace q119 := eq_true q119; refine start_ (n := 13) (S := fun w' => w'.cell? (ad114.add ((x10_2).toNat * 2)) = some (.int .i64 ((rd_T38 t101 x10_2).f0)) ∧ w'.cell? ⟨(ad114.add ((x10_2).toNat * 2)).block, (ad114.add ((x10_2).toNat * 2)).off + 1, none⟩ = some (.int .i64 ((rd_T38 t101 x10_2).f1)) ∧ w'.cell? (ad114.add (((ji28)).toNat * 2)) = some (.int .i64 ((rd_T38 t101 (ji28)).f0)) ∧ w'.cell? ⟨(ad114.add (((ji28)).toNat * 2)).block, (ad114.add (((ji28)).toNat * 2)).off + 1, none⟩ = some (.int .i64 ((rd_T38 t101 (ji28)).f1))) (ds := []) #[n_,n_,n_,n_,n_,n_,n_,n_,n_,n_,n_,n_,n_] (by kernel_rfl) rfl rfl ⟨hx118_0, hx118_1, hx119_0, hx119_1⟩ (fun hHeld => ?_); refine with_tabW laws_FnStay.tab14 laws_FnStay.bits14 (fun HT_ HW_ => ?_); generalize w36.drew = w37 at HO_3 HO_6 HB hx118_0 hx118_1 hx119_0 hx119_1 hHeld ⊢; refine pure_ (i := 0) (N := some 72) (v := ?_) (a' := ?_) #[y_,n_,n_,n_,n_,n_,n_,n_,n_,n_,n_,n_,n_] rfl rfl (any_of HT_.out (by kernel_rfl)) (fun _ _ _ h => h) (Or.inl ⟨by rfl, ?_⟩) ?_ ?_
              rotate_left
              ·intro w'; go_simp; with_reducible rfl
              rotate_left
              ·simp only [Act.put, List.setIfInBounds_toArray, List.set_cons_zero, List.set_cons_succ, i64_w, i32_w]; rfl
              refine pure_ (i := 1) (N := some 73) (v := ?_) (a' := ?_) #[y_,y_,n_,n_,n_,n_,n_,n_,n_,n_,n_,n_,n_] rfl rfl (any_of HT_.out (by kernel_rfl)) (fun _ _ _ h => h) (Or.inl ⟨by rfl, ?_⟩) ?_ ?_
              rotate_left
              ·intro w'; go_simp; with_reducible rfl
              rotate_left
              ·simp only [Act.put, List.setIfInBounds_toArray, List.set_cons_zero, List.set_cons_succ, i64_w, i32_w]; rfl
              refine pure_ (i := 2) (N := some 74) (v := ?_) (a' := ?_) #[y_,y_,y_,n_,n_,n_,n_,n_,n_,n_,n_,n_,n_] rfl rfl (any_of HT_.out (by kernel_rfl)) (fun _ _ _ h => h) (Or.inl ⟨by rfl, ?_⟩) ?_ ?_
              rotate_left
              ·intro w'; go_simp; with_reducible rfl
              rotate_left
              ·simp only [Act.put, List.setIfInBounds_toArray, List.set_cons_zero, List.set_cons_succ, i64_w, i32_w]; rfl
              refine pure_ (i := 3) (N := some 75) (v := ?_) (a' := ?_) #[y_,y_,y_,y_,n_,n_,n_,n_,n_,n_,n_,n_,n_] rfl rfl (any_of HT_.out (by kernel_rfl)) (fun _ _ _ h => h) (Or.inl ⟨by rfl, ?_⟩) ?_ ?_
              rotate_left
              ·intro w'; go_simp; with_reducible rfl
              rotate_left
              ·simp only [Act.put, List.setIfInBounds_toArray, List.set_cons_zero, List.set_cons_succ, i64_w, i32_w]; rfl
              refine pure_ (i := 5) (N := some 77) (v := ?_) (a' := ?_) #[y_,y_,y_,y_,n_,y_,n_,n_,n_,n_,n_,n_,n_] rfl rfl (any_of HT_.out (by kernel_rfl)) (fun _ _ _ h => h) (Or.inl ⟨by rfl, ?_⟩) ?_ ?_
              rotate_left
              ·intro w'; go_simp; with_reducible rfl
              rotate_left
              ·simp only [Act.put, List.setIfInBounds_toArray, List.set_cons_zero, List.set_cons_succ, i64_w, i32_w]; rfl
              refine pure_ (i := 6) (N := some 78) (v := ?_) (a' := ?_) #[y_,y_,y_,y_,n_,y_,y_,n_,n_,n_,n_,n_,n_] rfl rfl (any_of HT_.out (by kernel_rfl)) (fun _ _ _ h => h) (Or.inl ⟨by rfl, ?_⟩) ?_ ?_
              rotate_left
              ·intro w'; go_simp; with_reducible rfl
              rotate_left
              ·simp only [Act.put, List.setIfInBounds_toArray, List.set_cons_zero, List.set_cons_succ, i64_w, i32_w]; rfl
              refine pure_ (i := 7) (N := some 79) (v := ?_) (a' := ?_) #[y_,y_,y_,y_,n_,y_,y_,y_,n_,n_,n_,n_,n_] rfl rfl (any_of HT_.out (by kernel_rfl)) (fun _ _ _ h => h) (Or.inl ⟨by rfl, ?_⟩) ?_ ?_
              rotate_left
              ·intro w'; go_simp; with_reducible rfl
              rotate_left
              ·simp only [Act.put, List.setIfInBounds_toArray, List.set_cons_zero, List.set_cons_succ, i64_w, i32_w]; rfl
              refine pure_ (i := 8) (N := some 80) (v := ?_) (a' := ?_) #[y_,y_,y_,y_,n_,y_,y_,y_,y_,n_,n_,n_,n_] rfl rfl (any_of HT_.out (by kernel_rfl)) (fun _ _ _ h => h) (Or.inl ⟨by rfl, ?_⟩) ?_ ?_
              rotate_left
              ·intro w'; go_simp; with_reducible rfl
              rotate_left
              ·simp only [Act.put, List.setIfInBounds_toArray, List.set_cons_zero, List.set_cons_succ, i64_w, i32_w]; rfl
              refine pure_ (i := 9) (N := some 81) (v := ?_) (a' := ?_) #[y_,y_,y_,y_,n_,y_,y_,y_,y_,y_,n_,n_,n_] rfl rfl (any_of HT_.out (by kernel_rfl)) (fun _ _ _ h => h) (Or.inl ⟨by rfl, ?_⟩) ?_ ?_
              rotate_left
              ·intro w'; go_simp; with_reducible rfl
              rotate_left
              ·simp only [Act.put, List.setIfInBounds_toArray, List.set_cons_zero, List.set_cons_succ, i64_w, i32_w]; rfl
              refine take_ (i := 4) (N := some 76) (v := ?_) (a' := ?_) #[y_,y_,y_,y_,y_,y_,y_,y_,y_,y_,n_,n_,n_] rfl rfl (take_ofW HT_.out HW_.out (by kernel_rfl)) (fun _ _ _ h => h) (Or.inl ⟨by rfl, ?_⟩) hHeld ?_ ?_
              rotate_left
              ·rintro w' ⟨s0, s1, s2, s3⟩; go_simp; with_reducible rfl
              rotate_left
              ·simp only [Act.put, List.setIfInBounds_toArray, List.set_cons_zero, List.set_cons_succ, i64_w, i32_w]; rfl
              refine take_ (i := 10) (N := some 82) (v := ?_) (a' := ?_) #[y_,y_,y_,y_,y_,y_,y_,y_,y_,y_,y_,n_,n_] rfl rfl (take_ofW HT_.out HW_.out (by kernel_rfl)) (fun _ _ _ h => h) (Or.inl ⟨by rfl, ?_⟩) hHeld ?_ ?_
              rotate_left
              ·rintro w' ⟨s0, s1, s2, s3⟩; go_simp; with_reducible rfl
              rotate_left
              ·simp only [Act.put, List.setIfInBounds_toArray, List.set_cons_zero, List.set_cons_succ, i64_w, i32_w]; rfl
              refine pure_ (i := 11) (N := some 83) (v := ?_) (a' := ?_) #[y_,y_,y_,y_,y_,y_,y_,y_,y_,y_,y_,y_,n_] rfl rfl (any_of HT_.out (by kernel_rfl)) (fun _ _ _ h => h) (Or.inl ⟨by rfl, ?_⟩) ?_ ?_
              rotate_left
              ·intro w'; go_simp; with_reducible rfl
              rotate_left
              ·simp only [Act.put, List.setIfInBounds_toArray, List.set_cons_zero, List.set_cons_succ, i64_w, i32_w]; rfl
              refine pure_ (i := 12) (N := some 12) (v := ?_) (a' := ?_) #[y_,y_,y_,y_,y_,y_,y_,y_,y_,y_,y_,y_,y_] rfl rfl (any_of HT_.out (by kernel_rfl)) (fun _ _ _ h => h) (Or.inl ⟨by rfl, ?_⟩) ?_ ?_
              rotate_left
              ·intro w'; go_simp; with_reducible rfl
              rotate_left
              ·simp only [Act.put, List.setIfInBounds_toArray, List.set_cons_zero, List.set_cons_succ, i64_w, i32_w]; rfl
              refine done_ (done_of HT_.out (by kernel_rfl)) ?_; have p120 : 0 ≤ (x10_2 : Int) := of_decide_eq_true (by first | (with_reducible assumption) | assumption); have q120 : x10_2 < (t101.length : Int) := of_decide_eq_true (by first | (with_reducible assumption) | assumption); obtain ⟨ad120, e120, hx120_0, hx120_1⟩ := at_T38 (Kd.R_reads' HO_3.out).2.2 x10_2 p120 q120; obtain rfl : ad114 = ad120 := (by injection e120); replace p120 := eq_true p120; replace q120 := eq_true q120
              try go_wp2_with (first | (go_at_call 23; (with_reducible refine (impl_PtOk.calls ((rd_T38 t101 x10_2).f0) ((rd_T38 t101 x10_2).f1) true _ A32.out).mono ?_); rintro e w38 ⟨rfl, hb⟩; have n0_ := Aside0.mk (Kd.R_below (by (with_reducible repeat (first | apply Kd.R_alloc | apply Kd.R_drewN | apply Kd.R_drew)); exact HO_3.out) hb); have n1_ := Aside0.mk (Kd.R_below (by (with_reducible repeat (first | apply Kd.R_alloc | apply Kd.R_drewN | apply Kd.R_drew)); exact HO_6.out) hb); have n2_ := Aside0.mk (below_step (by repeat (first | (with_reducible first | exact HB.out | apply below_alloc | apply pw_below_drewN | apply below_drew1) | exact HB.out)) hb); clear HO_3; clear HO_6; clear HB; have HO_3 := n0_; have HO_6 := n1_; have HB := n2_; clear n0_ n1_ n2_; (try clear hb); (try clear hb2); (try clear hk); (try clear hi)))
              go_roundg k2
              case measure => have := HJ5.out; have := HK2.out; omega
              case rel => exact ⟨((((wrap64 (((rd_T38 t101 x10_2).f0) - ((rd_T38 t101 (ji28)).f0))) == 0) != ((wrap64 (((rd_T38 t101 x10_2).f1) - ((rd_T38 t101 (ji28)).f1))) == 0))), (wrap64 ((wrap64 (x9_2 + (ji34))) + (ji35))), (wrap64 (x10_2 + 1)), (by first | rfl | (simp; done) | (simp only [← hji28] <;> (first | rfl | simp)) | (simp [*]; done)), (by first | rfl | (simp; done) | (simp only [← hji34, ← hji35] <;> (first | rfl | simp)) | (simp [*]; done)), (by first | rfl | (simp; done) | (simp [*]; done)), H', ⟨by have := HJ5.out; have := HK2.out; omega⟩, ⟨by (with_reducible repeat (first | apply Kd.R_alloc | apply Kd.R_drewN | apply Kd.R_drew)); exact HO_3.out⟩, ⟨by (with_reducible repeat (first | apply Kd.R_alloc | apply Kd.R_drewN | apply Kd.R_drew)); exact HO_6.out⟩, ⟨by repeat (first | (with_reducible first | exact HB.out | apply below_alloc | apply pw_below_drewN | apply below_drew1) | exact HB.out)⟩⟩
             ·replace c33 := Bool.eq_false_iff.mpr c33
              subst c33
              have H1 : (laws_FnStay.l0 k2 t101 t108 t109 false (wrap64 ((wrap64 (x9_2 + (mx (wrap64 (((rd_T38 t101 x10_2).f0) - ((rd_T38 t101 (ji28)).f0))) (wrap64 (-(wrap64 (((rd_T38 t101 x10_2).f0) - ((rd_T38 t101 (ji28)).f0)))))))) + (mx (wrap64 (((rd_T38 t101 x10_2).f1) - ((rd_T38 t101 (ji28)).f1))) (wrap64 (-(wrap64 (((rd_T38 t101 x10_2).f1) - ((rd_T38 t101 (ji28)).f1)))))))) (wrap64 (x10_2 + 1))) = some r := by rw [if_neg (show ¬ (false = true) by decide)] at H; exact H
              clear H; have H := H1; clear H1; obtain ⟨ji39, hji39⟩ : ∃ j_ : Int, (mx (wrap64 (((rd_T38 t101 x10_2).f0) - ((rd_T38 t101 (ji28)).f0))) (wrap64 (-(wrap64 (((rd_T38 t101 x10_2).f0) - ((rd_T38 t101 (ji28)).f0)))))) = j_ := ⟨_, rfl⟩
              replace H : (laws_FnStay.l0 k2 t101 t108 t109 false (wrap64 ((wrap64 (x9_2 + (ji39))) + (mx (wrap64 (((rd_T38 t101 x10_2).f1) - ((rd_T38 t101 (ji28)).f1))) (wrap64 (-(wrap64 (((rd_T38 t101 x10_2).f1) - ((rd_T38 t101 (ji28)).f1)))))))) (wrap64 (x10_2 + 1))) = some r := by first | (rw [hji39] at H; exact H) | (simp only [hji39] at H ⊢; exact H)
              (try rw [hji39] at A32); have hji39_ : (if (wrap64 (((rd_T38 t101 x10_2).f0) - ((rd_T38 t101 (ji28)).f0))) < (wrap64 (-(wrap64 (((rd_T38 t101 x10_2).f0) - ((rd_T38 t101 (ji28)).f0))))) then (wrap64 (-(wrap64 (((rd_T38 t101 x10_2).f0) - ((rd_T38 t101 (ji28)).f0))))) else (wrap64 (((rd_T38 t101 x10_2).f0) - ((rd_T38 t101 (ji28)).f0)))) = ji39 := hji39; obtain ⟨ji40, hji40⟩ : ∃ j_ : Int, (mx (wrap64 (((rd_T38 t101 x10_2).f1) - ((rd_T38 t101 (ji28)).f1))) (wrap64 (-(wrap64 (((rd_T38 t101 x10_2).f1) - ((rd_T38 t101 (ji28)).f1)))))) = j_ := ⟨_, rfl⟩
              replace H : (laws_FnStay.l0 k2 t101 t108 t109 false (wrap64 ((wrap64 (x9_2 + (ji39))) + (ji40))) (wrap64 (x10_2 + 1))) = some r := by first | (rw [hji40] at H; exact H) | (simp only [hji40] at H ⊢; exact H)
              (try rw [hji40] at A32); have hji40_ : (if (wrap64 (((rd_T38 t101 x10_2).f1) - ((rd_T38 t101 (ji28)).f1))) < (wrap64 (-(wrap64 (((rd_T38 t101 x10_2).f1) - ((rd_T38 t101 (ji28)).f1))))) then (wrap64 (-(wrap64 (((rd_T38 t101 x10_2).f1) - ((rd_T38 t101 (ji28)).f1))))) else (wrap64 (((rd_T38 t101 x10_2).f1) - ((rd_T38 t101 (ji28)).f1)))) = ji40 := hji40; have H' := Aside0.mk H; clear H
              try go_wp2
              have n0_ := Aside0.mk (Kd.R_drew HO_3.out); have n1_ := Aside0.mk (Kd.R_drew HO_6.out); have n2_ := Aside0.mk (below_drew1 HB.out); clear HO_3; clear HO_6; clear HB; have HO_3 := n0_; have HO_6 := n1_; have HB := n2_; clear n0_ n1_ n2_; have p116 : 0 ≤ (x10_2 : Int) := of_decide_eq_true (by first | (with_reducible assumption) | assumption); have q116 : x10_2 < (t101.length : Int) := of_decide_eq_true (by first | (with_reducible assumption) | assumption); obtain ⟨ad116, e116, hx116_0, hx116_1⟩ := at_T38 (Kd.R_reads' HO_3.out).2.2 x10_2 p116 q116; obtain rfl : ad114 = ad116 := (by injection e116); replace p116 := eq_true p116; replace q116 := eq_true q116; have p117 : 0 ≤ ((ji28) : Int) := of_decide_eq_true (by first | (with_reducible assumption) | assumption); have q117 : (ji28) < (t101.length : Int) := of_decide_eq_true (by first | (with_reducible assumption) | assumption); obtain ⟨ad117, e117, hx117_0, hx117_1⟩ := at_T38 (Kd.R_reads' HO_3.out).2.2 (ji28) p117 q117; obtain rfl : ad114 = ad117 := (by injection e117); replace p117 := eq_true p117; replace q117 := eq_true q117; refine start_ (n := 13) (S := fun w' => w'.cell? (ad114.add ((x10_2).toNat * 2)) = some (.int .i64 ((rd_T38 t101 x10_2).f0)) ∧ w'.cell? ⟨(ad114.add ((x10_2).toNat * 2)).block, (ad114.add ((x10_2).toNat * 2)).off + 1, none⟩ = some (.int .i64 ((rd_T38 t101 x10_2).f1)) ∧ w'.cell? (ad114.add (((ji28)).toNat * 2)) = some (.int .i64 ((rd_T38 t101 (ji28)).f0)) ∧ w'.cell? ⟨(ad114.add (((ji28)).toNat * 2)).block, (ad114.add (((ji28)).toNat * 2)).off + 1, none⟩ = some (.int .i64 ((rd_T38 t101 (ji28)).f1))) (ds := []) #[n_,n_,n_,n_,n_,n_,n_,n_,n_,n_,n_,n_,n_] (by kernel_rfl) rfl rfl ⟨hx116_0, hx116_1, hx117_0, hx117_1⟩ (fun hHeld => ?_); refine with_tabW laws_FnStay.tab13 laws_FnStay.bits13 (fun HT_ HW_ => ?_); generalize wr.drew = w41 at HO_3 HO_6 HB hx116_0 hx116_1 hx117_0 hx117_1 hHeld ⊢; refine pure_ (i := 0) (N := some 60) (v := ?_) (a' := ?_) #[y_,n_,n_,n_,n_,n_,n_,n_,n_,n_,n_,n_,n_] rfl rfl (any_of HT_.out (by kernel_rfl)) (fun _ _ _ h => h) (Or.inl ⟨by rfl, ?_⟩) ?_ ?_
              rotate_left
              ·intro w'; go_simp; with_reducible rfl
              rotate_left
              ·simp only [Act.put, List.setIfInBounds_toArray, List.set_cons_zero, List.set_cons_succ, i64_w, i32_w]; rfl
              refine pure_ (i := 1) (N := some 61) (v := ?_) (a' := ?_) #[y_,y_,n_,n_,n_,n_,n_,n_,n_,n_,n_,n_,n_] rfl rfl (any_of HT_.out (by kernel_rfl)) (fun _ _ _ h => h) (Or.inl ⟨by rfl, ?_⟩) ?_ ?_
              rotate_left
              ·intro w'; go_simp; with_reducible rfl
              rotate_left
              ·simp only [Act.put, List.setIfInBounds_toArray, List.set_cons_zero, List.set_cons_succ, i64_w, i32_w]; rfl
              refine pure_ (i := 2) (N := some 62) (v := ?_) (a' := ?_) #[y_,y_,y_,n_,n_,n_,n_,n_,n_,n_,n_,n_,n_] rfl rfl (any_of HT_.out (by kernel_rfl)) (fun _ _ _ h => h) (Or.inl ⟨by rfl, ?_⟩) ?_ ?_
              rotate_left
              ·intro w'; go_simp; with_reducible rfl
              rotate_left
              ·simp only [Act.put, List.setIfInBounds_toArray, List.set_cons_zero, List.set_cons_succ, i64_w, i32_w]; rfl
              refine pure_ (i := 3) (N := some 63) (v := ?_) (a' := ?_) #[y_,y_,y_,y_,n_,n_,n_,n_,n_,n_,n_,n_,n_] rfl rfl (any_of HT_.out (by kernel_rfl)) (fun _ _ _ h => h) (Or.inl ⟨by rfl, ?_⟩) ?_ ?_
              rotate_left
              ·intro w'; go_simp; with_reducible rfl
              rotate_left
              ·simp only [Act.put, List.setIfInBounds_toArray, List.set_cons_zero, List.set_cons_succ, i64_w, i32_w]; rfl
              refine pure_ (i := 5) (N := some 65) (v := ?_) (a' := ?_) #[y_,y_,y_,y_,n_,y_,n_,n_,n_,n_,n_,n_,n_] rfl rfl (any_of HT_.out (by kernel_rfl)) (fun _ _ _ h => h) (Or.inl ⟨by rfl, ?_⟩) ?_ ?_
              rotate_left
              ·intro w'; go_simp; with_reducible rfl
              rotate_left
              ·simp only [Act.put, List.setIfInBounds_toArray, List.set_cons_zero, List.set_cons_succ, i64_w, i32_w]; rfl
              refine pure_ (i := 6) (N := some 66) (v := ?_) (a' := ?_) #[y_,y_,y_,y_,n_,y_,y_,n_,n_,n_,n_,n_,n_] rfl rfl (any_of HT_.out (by kernel_rfl)) (fun _ _ _ h => h) (Or.inl ⟨by rfl, ?_⟩) ?_ ?_
              rotate_left
              ·intro w'; go_simp; with_reducible rfl
              rotate_left
              ·simp only [Act.put, List.setIfInBounds_toArray, List.set_cons_zero, List.set_cons_succ, i64_w, i32_w]; rfl
              refine pure_ (i := 7) (N := some 67) (v := ?_) (a' := ?_) #[y_,y_,y_,y_,n_,y_,y_,y_,n_,n_,n_,n_,n_] rfl rfl (any_of HT_.out (by kernel_rfl)) (fun _ _ _ h => h) (Or.inl ⟨by rfl, ?_⟩) ?_ ?_
              rotate_left
              ·intro w'; go_simp; with_reducible rfl
              rotate_left
              ·simp only [Act.put, List.setIfInBounds_toArray, List.set_cons_zero, List.set_cons_succ, i64_w, i32_w]; rfl
              refine pure_ (i := 8) (N := some 68) (v := ?_) (a' := ?_) #[y_,y_,y_,y_,n_,y_,y_,y_,y_,n_,n_,n_,n_] rfl rfl (any_of HT_.out (by kernel_rfl)) (fun _ _ _ h => h) (Or.inl ⟨by rfl, ?_⟩) ?_ ?_
              rotate_left
              ·intro w'; go_simp; with_reducible rfl
              rotate_left
              ·simp only [Act.put, List.setIfInBounds_toArray, List.set_cons_zero, List.set_cons_succ, i64_w, i32_w]; rfl
              refine pure_ (i := 9) (N := some 69) (v := ?_) (a' := ?_) #[y_,y_,y_,y_,n_,y_,y_,y_,y_,y_,n_,n_,n_] rfl rfl (any_of HT_.out (by kernel_rfl)) (fun _ _ _ h => h) (Or.inl ⟨by rfl, ?_⟩) ?_ ?_
              rotate_left
              ·intro w'; go_simp; with_reducible rfl
              rotate_left
              ·simp only [Act.put, List.setIfInBounds_toArray, List.set_cons_zero, List.set_cons_succ, i64_w, i32_w]; rfl
              refine take_ (i := 4) (N := some 64) (v := ?_) (a' := ?_) #[y_,y_,y_,y_,y_,y_,y_,y_,y_,y_,n_,n_,n_] rfl rfl (take_ofW HT_.out HW_.out (by kernel_rfl)) (fun _ _ _ h => h) (Or.inl ⟨by rfl, ?_⟩) hHeld ?_ ?_
              rotate_left
              ·rintro w' ⟨s0, s1, s2, s3⟩; go_simp; with_reducible rfl
              rotate_left
              ·simp only [Act.put, List.setIfInBounds_toArray, List.set_cons_zero, List.set_cons_succ, i64_w, i32_w]; rfl
              refine take_ (i := 10) (N := some 70) (v := ?_) (a' := ?_) #[y_,y_,y_,y_,y_,y_,y_,y_,y_,y_,y_,n_,n_] rfl rfl (take_ofW HT_.out HW_.out (by kernel_rfl)) (fun _ _ _ h => h) (Or.inl ⟨by rfl, ?_⟩) hHeld ?_ ?_
              rotate_left
              ·rintro w' ⟨s0, s1, s2, s3⟩; go_simp; with_reducible rfl
              rotate_left
              ·simp only [Act.put, List.setIfInBounds_toArray, List.set_cons_zero, List.set_cons_succ, i64_w, i32_w]; rfl
              refine pure_ (i := 11) (N := some 71) (v := ?_) (a' := ?_) #[y_,y_,y_,y_,y_,y_,y_,y_,y_,y_,y_,y_,n_] rfl rfl (any_of HT_.out (by kernel_rfl)) (fun _ _ _ h => h) (Or.inl ⟨by rfl, ?_⟩) ?_ ?_
              rotate_left
              ·intro w'; go_simp; with_reducible rfl
              rotate_left
              ·simp only [Act.put, List.setIfInBounds_toArray, List.set_cons_zero, List.set_cons_succ, i64_w, i32_w]; rfl
              refine pure_ (i := 12) (N := some 11) (v := ?_) (a' := ?_) #[y_,y_,y_,y_,y_,y_,y_,y_,y_,y_,y_,y_,y_] rfl rfl (any_of HT_.out (by kernel_rfl)) (fun _ _ _ h => h) (Or.inl ⟨by rfl, ?_⟩) ?_ ?_
              rotate_left
              ·intro w'; go_simp; with_reducible rfl
              rotate_left
              ·simp only [Act.put, List.setIfInBounds_toArray, List.set_cons_zero, List.set_cons_succ, i64_w, i32_w]; rfl
              refine done_ (done_of HT_.out (by kernel_rfl)) ?_
              try go_wp2
              have n0_ := Aside0.mk (Kd.R_drew HO_3.out); have n1_ := Aside0.mk (Kd.R_drew HO_6.out); have n2_ := Aside0.mk (below_drew1 HB.out); clear HO_3; clear HO_6; clear HB; have HO_3 := n0_; have HO_6 := n1_; have HB := n2_; clear n0_ n1_ n2_; have p118 : 0 ≤ (x10_2 : Int) := of_decide_eq_true (by first | (with_reducible assumption) | assumption); have q118 : x10_2 < (t101.length : Int) := of_decide_eq_true (by first | (with_reducible assumption) | assumption); obtain ⟨ad118, e118, hx118_0, hx118_1⟩ := at_T38 (Kd.R_reads' HO_3.out).2.2 x10_2 p118 q118; obtain rfl : ad114 = ad118 := (by injection e118); replace p118 := eq_true p118; replace q118 := eq_true q118; have p119 : 0 ≤ ((ji28) : Int) := of_decide_eq_true (by first | (with_reducible assumption) | assumption); have q119 : (ji28) < (t101.length : Int) := of_decide_eq_true (by first | (with_reducible assumption) | assumption); obtain ⟨ad119, e119, hx119_0, hx119_1⟩ := at_T38 (Kd.R_reads' HO_3.out).2.2 (ji28) p119 q119; obtain rfl : ad114 = ad119 := (by injection e119); replace p119 := eq_true p119; replace q119 := eq_true q119; refine start_ (n := 13) (S := fun w' => w'.cell? (ad114.add ((x10_2).toNat * 2)) = some (.int .i64 ((rd_T38 t101 x10_2).f0)) ∧ w'.cell? ⟨(ad114.add ((x10_2).toNat * 2)).block, (ad114.add ((x10_2).toNat * 2)).off + 1, none⟩ = some (.int .i64 ((rd_T38 t101 x10_2).f1)) ∧ w'.cell? (ad114.add (((ji28)).toNat * 2)) = some (.int .i64 ((rd_T38 t101 (ji28)).f0)) ∧ w'.cell? ⟨(ad114.add (((ji28)).toNat * 2)).block, (ad114.add (((ji28)).toNat * 2)).off + 1, none⟩ = some (.int .i64 ((rd_T38 t101 (ji28)).f1))) (ds := []) #[n_,n_,n_,n_,n_,n_,n_,n_,n_,n_,n_,n_,n_] (by kernel_rfl) rfl rfl ⟨hx118_0, hx118_1, hx119_0, hx119_1⟩ (fun hHeld => ?_); refine with_tabW laws_FnStay.tab14 laws_FnStay.bits14 (fun HT_ HW_ => ?_); generalize w41.drew = w42 at HO_3 HO_6 HB hx118_0 hx118_1 hx119_0 hx119_1 hHeld ⊢; refine pure_ (i := 0) (N := some 72) (v := ?_) (a' := ?_) #[y_,n_,n_,n_,n_,n_,n_,n_,n_,n_,n_,n_,n_] rfl rfl (any_of HT_.out (by kernel_rfl)) (fun _ _ _ h => h) (Or.inl ⟨by rfl, ?_⟩) ?_ ?_
              rotate_left
              ·intro w'; go_simp; with_reducible rfl
              rotate_left
              ·simp only [Act.put, List.setIfInBounds_toArray, List.set_cons_zero, List.set_cons_succ, i64_w, i32_w]; rfl
              refine pure_ (i := 1) (N := some 73) (v := ?_) (a' := ?_) #[y_,y_,n_,n_,n_,n_,n_,n_,n_,n_,n_,n_,n_] rfl rfl (any_of HT_.out (by kernel_rfl)) (fun _ _ _ h => h) (Or.inl ⟨by rfl, ?_⟩) ?_ ?_
              rotate_left
              ·intro w'; go_simp; with_reducible rfl
              rotate_left
              ·simp only [Act.put, List.setIfInBounds_toArray, List.set_cons_zero, List.set_cons_succ, i64_w, i32_w]; rfl
              refine pure_ (i := 2) (N := some 74) (v := ?_) (a' := ?_) #[y_,y_,y_,n_,n_,n_,n_,n_,n_,n_,n_,n_,n_] rfl rfl (any_of HT_.out (by kernel_rfl)) (fun _ _ _ h => h) (Or.inl ⟨by rfl, ?_⟩) ?_ ?_
              rotate_left
              ·intro w'; go_simp; with_reducible rfl
              rotate_left
              ·simp only [Act.put, List.setIfInBounds_toArray, List.set_cons_zero, List.set_cons_succ, i64_w, i32_w]; rfl
              refine pure_ (i := 3) (N := some 75) (v := ?_) (a' := ?_) #[y_,y_,y_,y_,n_,n_,n_,n_,n_,n_,n_,n_,n_] rfl rfl (any_of HT_.out (by kernel_rfl)) (fun _ _ _ h => h) (Or.inl ⟨by rfl, ?_⟩) ?_ ?_
              rotate_left
              ·intro w'; go_simp; with_reducible rfl
              rotate_left
              ·simp only [Act.put, List.setIfInBounds_toArray, List.set_cons_zero, List.set_cons_succ, i64_w, i32_w]; rfl
              refine pure_ (i := 5) (N := some 77) (v := ?_) (a' := ?_) #[y_,y_,y_,y_,n_,y_,n_,n_,n_,n_,n_,n_,n_] rfl rfl (any_of HT_.out (by kernel_rfl)) (fun _ _ _ h => h) (Or.inl ⟨by rfl, ?_⟩) ?_ ?_
              rotate_left
              ·intro w'; go_simp; with_reducible rfl
              rotate_left
              ·simp only [Act.put, List.setIfInBounds_toArray, List.set_cons_zero, List.set_cons_succ, i64_w, i32_w]; rfl
              refine pure_ (i := 6) (N := some 78) (v := ?_) (a' := ?_) #[y_,y_,y_,y_,n_,y_,y_,n_,n_,n_,n_,n_,n_] rfl rfl (any_of HT_.out (by kernel_rfl)) (fun _ _ _ h => h) (Or.inl ⟨by rfl, ?_⟩) ?_ ?_
              rotate_left
              ·intro w'; go_simp; with_reducible rfl
              rotate_left
              ·simp only [Act.put, List.setIfInBounds_toArray, List.set_cons_zero, List.set_cons_succ, i64_w, i32_w]; rfl
              refine pure_ (i := 7) (N := some 79) (v := ?_) (a' := ?_) #[y_,y_,y_,y_,n_,y_,y_,y_,n_,n_,n_,n_,n_] rfl rfl (any_of HT_.out (by kernel_rfl)) (fun _ _ _ h => h) (Or.inl ⟨by rfl, ?_⟩) ?_ ?_
              rotate_left
              ·intro w'; go_simp; with_reducible rfl
              rotate_left
              ·simp only [Act.put, List.setIfInBounds_toArray, List.set_cons_zero, List.set_cons_succ, i64_w, i32_w]; rfl
              refine pure_ (i := 8) (N := some 80) (v := ?_) (a' := ?_) #[y_,y_,y_,y_,n_,y_,y_,y_,y_,n_,n_,n_,n_] rfl rfl (any_of HT_.out (by kernel_rfl)) (fun _ _ _ h => h) (Or.inl ⟨by rfl, ?_⟩) ?_ ?_
              rotate_left
              ·intro w'; go_simp; with_reducible rfl
              rotate_left
              ·simp only [Act.put, List.setIfInBounds_toArray, List.set_cons_zero, List.set_cons_succ, i64_w, i32_w]; rfl
              refine pure_ (i := 9) (N := some 81) (v := ?_) (a' := ?_) #[y_,y_,y_,y_,n_,y_,y_,y_,y_,y_,n_,n_,n_] rfl rfl (any_of HT_.out (by kernel_rfl)) (fun _ _ _ h => h) (Or.inl ⟨by rfl, ?_⟩) ?_ ?_
              rotate_left
              ·intro w'; go_simp; with_reducible rfl
              rotate_left
              ·simp only [Act.put, List.setIfInBounds_toArray, List.set_cons_zero, List.set_cons_succ, i64_w, i32_w]; rfl
              refine take_ (i := 4) (N := some 76) (v := ?_) (a' := ?_) #[y_,y_,y_,y_,y_,y_,y_,y_,y_,y_,n_,n_,n_] rfl rfl (take_ofW HT_.out HW_.out (by kernel_rfl)) (fun _ _ _ h => h) (Or.inl ⟨by rfl, ?_⟩) hHeld ?_ ?_
              rotate_left
              ·rintro w' ⟨s0, s1, s2, s3⟩; go_simp; with_reducible rfl
              rotate_left
              ·simp only [Act.put, List.setIfInBounds_toArray, List.set_cons_zero, List.set_cons_succ, i64_w, i32_w]; rfl
              refine take_ (i := 10) (N := some 82) (v := ?_) (a' := ?_) #[y_,y_,y_,y_,y_,y_,y_,y_,y_,y_,y_,n_,n_] rfl rfl (take_ofW HT_.out HW_.out (by kernel_rfl)) (fun _ _ _ h => h) (Or.inl ⟨by rfl, ?_⟩) hHeld ?_ ?_
              rotate_left
              ·rintro w' ⟨s0, s1, s2, s3⟩; go_simp; with_reducible rfl
              rotate_left
              ·simp only [Act.put, List.setIfInBounds_toArray, List.set_cons_zero, List.set_cons_succ, i64_w, i32_w]; rfl
              refine pure_ (i := 11) (N := some 83) (v := ?_) (a' := ?_) #[y_,y_,y_,y_,y_,y_,y_,y_,y_,y_,y_,y_,n_] rfl rfl (any_of HT_.out (by kernel_rfl)) (fun _ _ _ h => h) (Or.inl ⟨by rfl, ?_⟩) ?_ ?_
              rotate_left
              ·intro w'; go_simp; with_reducible rfl
              rotate_left
              ·simp only [Act.put, List.setIfInBounds_toArray, List.set_cons_zero, List.set_cons_succ, i64_w, i32_w]; rfl
              refine pure_ (i := 12) (N := some 12) (v := ?_) (a' := ?_) #[y_,y_,y_,y_,y_,y_,y_,y_,y_,y_,y_,y_,y_] rfl rfl (any_of HT_.out (by kernel_rfl)) (fun _ _ _ h => h) (Or.inl ⟨by rfl, ?_⟩) ?_ ?_
              rotate_left
              ·intro w'; go_simp; with_reducible rfl
              rotate_left
              ·simp only [Act.put, List.setIfInBounds_toArray, List.set_cons_zero, List.set_cons_succ, i64_w, i32_w]; rfl
              refine done_ (done_of HT_.out (by kernel_rfl)) ?_; have p120 : 0 ≤ (x10_2 : Int) := of_decide_eq_true (by first | (with_reducible assumption) | assumption); have q120 : x10_2 < (t101.length : Int) := of_decide_eq_true (by first | (with_reducible assumption) | assumption); obtain ⟨ad120, e120, hx120_0, hx120_1⟩ := at_T38 (Kd.R_reads' HO_3.out).2.2 x10_2 p120 q120; obtain rfl : ad114 = ad120 := (by injection e120); replace p120 := eq_true p120; replace q120 := eq_true q120
              try go_wp2_with (first | (go_at_call 23; (with_reducible refine (impl_PtOk.calls ((rd_T38 t101 x10_2).f0) ((rd_T38 t101 x10_2).f1) false _ A32.out).mono ?_); rintro e w43 ⟨rfl, hb⟩; have n0_ := Aside0.mk (Kd.R_below (by (with_reducible repeat (first | apply Kd.R_alloc | apply Kd.R_drewN | apply Kd.R_drew)); exact HO_3.out) hb); have n1_ := Aside0.mk (Kd.R_below (by (with_reducible repeat (first | apply Kd.R_alloc | apply Kd.R_drewN | apply Kd.R_drew)); exact HO_6.out) hb); have n2_ := Aside0.mk (below_step (by repeat (first | (with_reducible first | exact HB.out | apply below_alloc | apply pw_below_drewN | apply below_drew1) | exact HB.out)) hb); clear HO_3; clear HO_6; clear HB; have HO_3 := n0_; have HO_6 := n1_; have HB := n2_; clear n0_ n1_ n2_; (try clear hb); (try clear hb2); (try clear hk); (try clear hi)))
              go_roundg k2
              case measure => have := HJ5.out; have := HK2.out; omega
              case rel => exact ⟨(false), (wrap64 ((wrap64 (x9_2 + (ji39))) + (ji40))), (wrap64 (x10_2 + 1)), (by first | rfl | (simp; done) | (simp [*]; done)), (by first | rfl | (simp; done) | (simp only [← hji39, ← hji40] <;> (first | rfl | simp)) | (simp [*]; done)), (by first | rfl | (simp; done) | (simp [*]; done)), H', ⟨by have := HJ5.out; have := HK2.out; omega⟩, ⟨by (with_reducible repeat (first | apply Kd.R_alloc | apply Kd.R_drewN | apply Kd.R_drew)); exact HO_3.out⟩, ⟨by (with_reducible repeat (first | apply Kd.R_alloc | apply Kd.R_drewN | apply Kd.R_drew)); exact HO_6.out⟩, ⟨by repeat (first | (with_reducible first | exact HB.out | apply below_alloc | apply pw_below_drewN | apply below_drew1) | exact HB.out)⟩⟩
            ·replace c31 := Bool.eq_false_iff.mpr c31
             subst c31
             have H1 : (laws_FnStay.l0 k2 t101 t108 t109 false (wrap64 ((wrap64 (x9_2 + (mx (wrap64 (((rd_T38 t101 x10_2).f0) - ((rd_T38 t101 (ji28)).f0))) (wrap64 (-(wrap64 (((rd_T38 t101 x10_2).f0) - ((rd_T38 t101 (ji28)).f0)))))))) + (mx (wrap64 (((rd_T38 t101 x10_2).f1) - ((rd_T38 t101 (ji28)).f1))) (wrap64 (-(wrap64 (((rd_T38 t101 x10_2).f1) - ((rd_T38 t101 (ji28)).f1)))))))) (wrap64 (x10_2 + 1))) = some r := by rw [if_neg (show ¬ (false = true) by decide)] at H; exact H
             clear H; have H := H1; clear H1; obtain ⟨ji44, hji44⟩ : ∃ j_ : Int, (mx (wrap64 (((rd_T38 t101 x10_2).f0) - ((rd_T38 t101 (ji28)).f0))) (wrap64 (-(wrap64 (((rd_T38 t101 x10_2).f0) - ((rd_T38 t101 (ji28)).f0)))))) = j_ := ⟨_, rfl⟩
             replace H : (laws_FnStay.l0 k2 t101 t108 t109 false (wrap64 ((wrap64 (x9_2 + (ji44))) + (mx (wrap64 (((rd_T38 t101 x10_2).f1) - ((rd_T38 t101 (ji28)).f1))) (wrap64 (-(wrap64 (((rd_T38 t101 x10_2).f1) - ((rd_T38 t101 (ji28)).f1)))))))) (wrap64 (x10_2 + 1))) = some r := by first | (rw [hji44] at H; exact H) | (simp only [hji44] at H ⊢; exact H)
             have hji44_ : (if (wrap64 (((rd_T38 t101 x10_2).f0) - ((rd_T38 t101 (ji28)).f0))) < (wrap64 (-(wrap64 (((rd_T38 t101 x10_2).f0) - ((rd_T38 t101 (ji28)).f0))))) then (wrap64 (-(wrap64 (((rd_T38 t101 x10_2).f0) - ((rd_T38 t101 (ji28)).f0))))) else (wrap64 (((rd_T38 t101 x10_2).f0) - ((rd_T38 t101 (ji28)).f0)))) = ji44 := hji44; obtain ⟨ji45, hji45⟩ : ∃ j_ : Int, (mx (wrap64 (((rd_T38 t101 x10_2).f1) - ((rd_T38 t101 (ji28)).f1))) (wrap64 (-(wrap64 (((rd_T38 t101 x10_2).f1) - ((rd_T38 t101 (ji28)).f1)))))) = j_ := ⟨_, rfl⟩
             replace H : (laws_FnStay.l0 k2 t101 t108 t109 false (wrap64 ((wrap64 (x9_2 + (ji44))) + (ji45))) (wrap64 (x10_2 + 1))) = some r := by first | (rw [hji45] at H; exact H) | (simp only [hji45] at H ⊢; exact H)
             have hji45_ : (if (wrap64 (((rd_T38 t101 x10_2).f1) - ((rd_T38 t101 (ji28)).f1))) < (wrap64 (-(wrap64 (((rd_T38 t101 x10_2).f1) - ((rd_T38 t101 (ji28)).f1))))) then (wrap64 (-(wrap64 (((rd_T38 t101 x10_2).f1) - ((rd_T38 t101 (ji28)).f1))))) else (wrap64 (((rd_T38 t101 x10_2).f1) - ((rd_T38 t101 (ji28)).f1)))) = ji45 := hji45; have H' := Aside0.mk H; clear H
             try go_wp2
             have n0_ := Aside0.mk (Kd.R_drew HO_3.out); have n1_ := Aside0.mk (Kd.R_drew HO_6.out); have n2_ := Aside0.mk (below_drew1 HB.out); clear HO_3; clear HO_6; clear HB; have HO_3 := n0_; have HO_6 := n1_; have HB := n2_; clear n0_ n1_ n2_; have p116 : 0 ≤ (x10_2 : Int) := of_decide_eq_true (by first | (with_reducible assumption) | assumption); have q116 : x10_2 < (t101.length : Int) := of_decide_eq_true (by first | (with_reducible assumption) | assumption); obtain ⟨ad116, e116, hx116_0, hx116_1⟩ := at_T38 (Kd.R_reads' HO_3.out).2.2 x10_2 p116 q116; obtain rfl : ad114 = ad116 := (by injection e116); replace p116 := eq_true p116; replace q116 := eq_true q116; have p117 : 0 ≤ ((ji28) : Int) := of_decide_eq_true (by first | (with_reducible assumption) | assumption); have q117 : (ji28) < (t101.length : Int) := of_decide_eq_true (by first | (with_reducible assumption) | assumption); obtain ⟨ad117, e117, hx117_0, hx117_1⟩ := at_T38 (Kd.R_reads' HO_3.out).2.2 (ji28) p117 q117; obtain rfl : ad114 = ad117 := (by injection e117); replace p117 := eq_true p117; replace q117 := eq_true q117; refine start_ (n := 13) (S := fun w' => w'.cell? (ad114.add ((x10_2).toNat * 2)) = some (.int .i64 ((rd_T38 t101 x10_2).f0)) ∧ w'.cell? ⟨(ad114.add ((x10_2).toNat * 2)).block, (ad114.add ((x10_2).toNat * 2)).off + 1, none⟩ = some (.int .i64 ((rd_T38 t101 x10_2).f1)) ∧ w'.cell? (ad114.add (((ji28)).toNat * 2)) = some (.int .i64 ((rd_T38 t101 (ji28)).f0)) ∧ w'.cell? ⟨(ad114.add (((ji28)).toNat * 2)).block, (ad114.add (((ji28)).toNat * 2)).off + 1, none⟩ = some (.int .i64 ((rd_T38 t101 (ji28)).f1))) (ds := []) #[n_,n_,n_,n_,n_,n_,n_,n_,n_,n_,n_,n_,n_] (by kernel_rfl) rfl rfl ⟨hx116_0, hx116_1, hx117_0, hx117_1⟩ (fun hHeld => ?_); refine with_tabW laws_FnStay.tab13 laws_FnStay.bits13 (fun HT_ HW_ => ?_); generalize wr.drew = w46 at HO_3 HO_6 HB hx116_0 hx116_1 hx117_0 hx117_1 hHeld ⊢; refine pure_ (i := 0) (N := some 60) (v := ?_) (a' := ?_) #[y_,n_,n_,n_,n_,n_,n_,n_,n_,n_,n_,n_,n_] rfl rfl (any_of HT_.out (by kernel_rfl)) (fun _ _ _ h => h) (Or.inl ⟨by rfl, ?_⟩) ?_ ?_
             rotate_left
             ·intro w'; go_simp; with_reducible rfl
             rotate_left
             ·simp only [Act.put, List.setIfInBounds_toArray, List.set_cons_zero, List.set_cons_succ, i64_w, i32_w]; rfl
             refine pure_ (i := 1) (N := some 61) (v := ?_) (a' := ?_) #[y_,y_,n_,n_,n_,n_,n_,n_,n_,n_,n_,n_,n_] rfl rfl (any_of HT_.out (by kernel_rfl)) (fun _ _ _ h => h) (Or.inl ⟨by rfl, ?_⟩) ?_ ?_
             rotate_left
             ·intro w'; go_simp; with_reducible rfl
             rotate_left
             ·simp only [Act.put, List.setIfInBounds_toArray, List.set_cons_zero, List.set_cons_succ, i64_w, i32_w]; rfl
             refine pure_ (i := 2) (N := some 62) (v := ?_) (a' := ?_) #[y_,y_,y_,n_,n_,n_,n_,n_,n_,n_,n_,n_,n_] rfl rfl (any_of HT_.out (by kernel_rfl)) (fun _ _ _ h => h) (Or.inl ⟨by rfl, ?_⟩) ?_ ?_
             rotate_left
             ·intro w'; go_simp; with_reducible rfl
             rotate_left
             ·simp only [Act.put, List.setIfInBounds_toArray, List.set_cons_zero, List.set_cons_succ, i64_w, i32_w]; rfl
             refine pure_ (i := 3) (N := some 63) (v := ?_) (a' := ?_) #[y_,y_,y_,y_,n_,n_,n_,n_,n_,n_,n_,n_,n_] rfl rfl (any_of HT_.out (by kernel_rfl)) (fun _ _ _ h => h) (Or.inl ⟨by rfl, ?_⟩) ?_ ?_
             rotate_left
             ·intro w'; go_simp; with_reducible rfl
             rotate_left
             ·simp only [Act.put, List.setIfInBounds_toArray, List.set_cons_zero, List.set_cons_succ, i64_w, i32_w]; rfl
             refine pure_ (i := 5) (N := some 65) (v := ?_) (a' := ?_) #[y_,y_,y_,y_,n_,y_,n_,n_,n_,n_,n_,n_,n_] rfl rfl (any_of HT_.out (by kernel_rfl)) (fun _ _ _ h => h) (Or.inl ⟨by rfl, ?_⟩) ?_ ?_
             rotate_left
             ·intro w'; go_simp; with_reducible rfl
             rotate_left
             ·simp only [Act.put, List.setIfInBounds_toArray, List.set_cons_zero, List.set_cons_succ, i64_w, i32_w]; rfl
             refine pure_ (i := 6) (N := some 66) (v := ?_) (a' := ?_) #[y_,y_,y_,y_,n_,y_,y_,n_,n_,n_,n_,n_,n_] rfl rfl (any_of HT_.out (by kernel_rfl)) (fun _ _ _ h => h) (Or.inl ⟨by rfl, ?_⟩) ?_ ?_
             rotate_left
             ·intro w'; go_simp; with_reducible rfl
             rotate_left
             ·simp only [Act.put, List.setIfInBounds_toArray, List.set_cons_zero, List.set_cons_succ, i64_w, i32_w]; rfl
             refine pure_ (i := 7) (N := some 67) (v := ?_) (a' := ?_) #[y_,y_,y_,y_,n_,y_,y_,y_,n_,n_,n_,n_,n_] rfl rfl (any_of HT_.out (by kernel_rfl)) (fun _ _ _ h => h) (Or.inl ⟨by rfl, ?_⟩) ?_ ?_
             rotate_left
             ·intro w'; go_simp; with_reducible rfl
             rotate_left
             ·simp only [Act.put, List.setIfInBounds_toArray, List.set_cons_zero, List.set_cons_succ, i64_w, i32_w]; rfl
             refine pure_ (i := 8) (N := some 68) (v := ?_) (a' := ?_) #[y_,y_,y_,y_,n_,y_,y_,y_,y_,n_,n_,n_,n_] rfl rfl (any_of HT_.out (by kernel_rfl)) (fun _ _ _ h => h) (Or.inl ⟨by rfl, ?_⟩) ?_ ?_
             rotate_left
             ·intro w'; go_simp; with_reducible rfl
             rotate_left
             ·simp only [Act.put, List.setIfInBounds_toArray, List.set_cons_zero, List.set_cons_succ, i64_w, i32_w]; rfl
             refine pure_ (i := 9) (N := some 69) (v := ?_) (a' := ?_) #[y_,y_,y_,y_,n_,y_,y_,y_,y_,y_,n_,n_,n_] rfl rfl (any_of HT_.out (by kernel_rfl)) (fun _ _ _ h => h) (Or.inl ⟨by rfl, ?_⟩) ?_ ?_
             rotate_left
             ·intro w'; go_simp; with_reducible rfl
             rotate_left
             ·simp only [Act.put, List.setIfInBounds_toArray, List.set_cons_zero, List.set_cons_succ, i64_w, i32_w]; rfl
             refine take_ (i := 4) (N := some 64) (v := ?_) (a' := ?_) #[y_,y_,y_,y_,y_,y_,y_,y_,y_,y_,n_,n_,n_] rfl rfl (take_ofW HT_.out HW_.out (by kernel_rfl)) (fun _ _ _ h => h) (Or.inl ⟨by rfl, ?_⟩) hHeld ?_ ?_
             rotate_left
             ·rintro w' ⟨s0, s1, s2, s3⟩; go_simp; with_reducible rfl
             rotate_left
             ·simp only [Act.put, List.setIfInBounds_toArray, List.set_cons_zero, List.set_cons_succ, i64_w, i32_w]; rfl
             refine take_ (i := 10) (N := some 70) (v := ?_) (a' := ?_) #[y_,y_,y_,y_,y_,y_,y_,y_,y_,y_,y_,n_,n_] rfl rfl (take_ofW HT_.out HW_.out (by kernel_rfl)) (fun _ _ _ h => h) (Or.inl ⟨by rfl, ?_⟩) hHeld ?_ ?_
             rotate_left
             ·rintro w' ⟨s0, s1, s2, s3⟩; go_simp; with_reducible rfl
             rotate_left
             ·simp only [Act.put, List.setIfInBounds_toArray, List.set_cons_zero, List.set_cons_succ, i64_w, i32_w]; rfl
             refine pure_ (i := 11) (N := some 71) (v := ?_) (a' := ?_) #[y_,y_,y_,y_,y_,y_,y_,y_,y_,y_,y_,y_,n_] rfl rfl (any_of HT_.out (by kernel_rfl)) (fun _ _ _ h => h) (Or.inl ⟨by rfl, ?_⟩) ?_ ?_
             rotate_left
             ·intro w'; go_simp; with_reducible rfl
             rotate_left
             ·simp only [Act.put, List.setIfInBounds_toArray, List.set_cons_zero, List.set_cons_succ, i64_w, i32_w]; rfl
             refine pure_ (i := 12) (N := some 11) (v := ?_) (a' := ?_) #[y_,y_,y_,y_,y_,y_,y_,y_,y_,y_,y_,y_,y_] rfl rfl (any_of HT_.out (by kernel_rfl)) (fun _ _ _ h => h) (Or.inl ⟨by rfl, ?_⟩) ?_ ?_
             rotate_left
             ·intro w'; go_simp; with_reducible rfl
             rotate_left
             ·simp only [Act.put, List.setIfInBounds_toArray, List.set_cons_zero, List.set_cons_succ, i64_w, i32_w]; rfl
             refine done_ (done_of HT_.out (by kernel_rfl)) ?_
             try go_wp2
             have n0_ := Aside0.mk (Kd.R_drew HO_3.out); have n1_ := Aside0.mk (Kd.R_drew HO_6.out); have n2_ := Aside0.mk (below_drew1 HB.out); clear HO_3; clear HO_6; clear HB; have HO_3 := n0_; have HO_6 := n1_; have HB := n2_; clear n0_ n1_ n2_; have p118 : 0 ≤ (x10_2 : Int) := of_decide_eq_true (by first | (with_reducible assumption) | assumption); have q118 : x10_2 < (t101.length : Int) := of_decide_eq_true (by first | (with_reducible assumption) | assumption); obtain ⟨ad118, e118, hx118_0, hx118_1⟩ := at_T38 (Kd.R_reads' HO_3.out).2.2 x10_2 p118 q118; obtain rfl : ad114 = ad118 := (by injection e118); replace p118 := eq_true p118; replace q118 := eq_true q118; have p119 : 0 ≤ ((ji28) : Int) := of_decide_eq_true (by first | (with_reducible assumption) | assumption); have q119 : (ji28) < (t101.length : Int) := of_decide_eq_true (by first | (with_reducible assumption) | assumption); obtain ⟨ad119, e119, hx119_0, hx119_1⟩ := at_T38 (Kd.R_reads' HO_3.out).2.2 (ji28) p119 q119; obtain rfl : ad114 = ad119 := (by injection e119); replace p119 := eq_true p119; replace q119 := eq_true q119; refine start_ (n := 13) (S := fun w' => w'.cell? (ad114.add ((x10_2).toNat * 2)) = some (.int .i64 ((rd_T38 t101 x10_2).f0)) ∧ w'.cell? ⟨(ad114.add ((x10_2).toNat * 2)).block, (ad114.add ((x10_2).toNat * 2)).off + 1, none⟩ = some (.int .i64 ((rd_T38 t101 x10_2).f1)) ∧ w'.cell? (ad114.add (((ji28)).toNat * 2)) = some (.int .i64 ((rd_T38 t101 (ji28)).f0)) ∧ w'.cell? ⟨(ad114.add (((ji28)).toNat * 2)).block, (ad114.add (((ji28)).toNat * 2)).off + 1, none⟩ = some (.int .i64 ((rd_T38 t101 (ji28)).f1))) (ds := []) #[n_,n_,n_,n_,n_,n_,n_,n_,n_,n_,n_,n_,n_] (by kernel_rfl) rfl rfl ⟨hx118_0, hx118_1, hx119_0, hx119_1⟩ (fun hHeld => ?_); refine with_tabW laws_FnStay.tab14 laws_FnStay.bits14 (fun HT_ HW_ => ?_); generalize w46.drew = w47 at HO_3 HO_6 HB hx118_0 hx118_1 hx119_0 hx119_1 hHeld ⊢; refine pure_ (i := 0) (N := some 72) (v := ?_) (a' := ?_) #[y_,n_,n_,n_,n_,n_,n_,n_,n_,n_,n_,n_,n_] rfl rfl (any_of HT_.out (by kernel_rfl)) (fun _ _ _ h => h) (Or.inl ⟨by rfl, ?_⟩) ?_ ?_
             rotate_left
             ·intro w'; go_simp; with_reducible rfl
             rotate_left
             ·simp only [Act.put, List.setIfInBounds_toArray, List.set_cons_zero, List.set_cons_succ, i64_w, i32_w]; rfl
             refine pure_ (i := 1) (N := some 73) (v := ?_) (a' := ?_) #[y_,y_,n_,n_,n_,n_,n_,n_,n_,n_,n_,n_,n_] rfl rfl (any_of HT_.out (by kernel_rfl)) (fun _ _ _ h => h) (Or.inl ⟨by rfl, ?_⟩) ?_ ?_
             rotate_left
             ·intro w'; go_simp; with_reducible rfl
             rotate_left
             ·simp only [Act.put, List.setIfInBounds_toArray, List.set_cons_zero, List.set_cons_succ, i64_w, i32_w]; rfl
             refine pure_ (i := 2) (N := some 74) (v := ?_) (a' := ?_) #[y_,y_,y_,n_,n_,n_,n_,n_,n_,n_,n_,n_,n_] rfl rfl (any_of HT_.out (by kernel_rfl)) (fun _ _ _ h => h) (Or.inl ⟨by rfl, ?_⟩) ?_ ?_
             rotate_left
             ·intro w'; go_simp; with_reducible rfl
             rotate_left
             ·simp only [Act.put, List.setIfInBounds_toArray, List.set_cons_zero, List.set_cons_succ, i64_w, i32_w]; rfl
             refine pure_ (i := 3) (N := some 75) (v := ?_) (a' := ?_) #[y_,y_,y_,y_,n_,n_,n_,n_,n_,n_,n_,n_,n_] rfl rfl (any_of HT_.out (by kernel_rfl)) (fun _ _ _ h => h) (Or.inl ⟨by rfl, ?_⟩) ?_ ?_
             rotate_left
             ·intro w'; go_simp; with_reducible rfl
             rotate_left
             ·simp only [Act.put, List.setIfInBounds_toArray, List.set_cons_zero, List.set_cons_succ, i64_w, i32_w]; rfl
             refine pure_ (i := 5) (N := some 77) (v := ?_) (a' := ?_) #[y_,y_,y_,y_,n_,y_,n_,n_,n_,n_,n_,n_,n_] rfl rfl (any_of HT_.out (by kernel_rfl)) (fun _ _ _ h => h) (Or.inl ⟨by rfl, ?_⟩) ?_ ?_
             rotate_left
             ·intro w'; go_simp; with_reducible rfl
             rotate_left
             ·simp only [Act.put, List.setIfInBounds_toArray, List.set_cons_zero, List.set_cons_succ, i64_w, i32_w]; rfl
             refine pure_ (i := 6) (N := some 78) (v := ?_) (a' := ?_) #[y_,y_,y_,y_,n_,y_,y_,n_,n_,n_,n_,n_,n_] rfl rfl (any_of HT_.out (by kernel_rfl)) (fun _ _ _ h => h) (Or.inl ⟨by rfl, ?_⟩) ?_ ?_
             rotate_left
             ·intro w'; go_simp; with_reducible rfl
             rotate_left
             ·simp only [Act.put, List.setIfInBounds_toArray, List.set_cons_zero, List.set_cons_succ, i64_w, i32_w]; rfl
             refine pure_ (i := 7) (N := some 79) (v := ?_) (a' := ?_) #[y_,y_,y_,y_,n_,y_,y_,y_,n_,n_,n_,n_,n_] rfl rfl (any_of HT_.out (by kernel_rfl)) (fun _ _ _ h => h) (Or.inl ⟨by rfl, ?_⟩) ?_ ?_
             rotate_left
             ·intro w'; go_simp; with_reducible rfl
             rotate_left
             ·simp only [Act.put, List.setIfInBounds_toArray, List.set_cons_zero, List.set_cons_succ, i64_w, i32_w]; rfl
             refine pure_ (i := 8) (N := some 80) (v := ?_) (a' := ?_) #[y_,y_,y_,y_,n_,y_,y_,y_,y_,n_,n_,n_,n_] rfl rfl (any_of HT_.out (by kernel_rfl)) (fun _ _ _ h => h) (Or.inl ⟨by rfl, ?_⟩) ?_ ?_
             rotate_left
             ·intro w'; go_simp; with_reducible rfl
             rotate_left
             ·simp only [Act.put, List.setIfInBounds_toArray, List.set_cons_zero, List.set_cons_succ, i64_w, i32_w]; rfl
             refine pure_ (i := 9) (N := some 81) (v := ?_) (a' := ?_) #[y_,y_,y_,y_,n_,y_,y_,y_,y_,y_,n_,n_,n_] rfl rfl (any_of HT_.out (by kernel_rfl)) (fun _ _ _ h => h) (Or.inl ⟨by rfl, ?_⟩) ?_ ?_
             rotate_left
             ·intro w'; go_simp; with_reducible rfl
             rotate_left
             ·simp only [Act.put, List.setIfInBounds_toArray, List.set_cons_zero, List.set_cons_succ, i64_w, i32_w]; rfl
             refine take_ (i := 4) (N := some 76) (v := ?_) (a' := ?_) #[y_,y_,y_,y_,y_,y_,y_,y_,y_,y_,n_,n_,n_] rfl rfl (take_ofW HT_.out HW_.out (by kernel_rfl)) (fun _ _ _ h => h) (Or.inl ⟨by rfl, ?_⟩) hHeld ?_ ?_
             rotate_left
             ·rintro w' ⟨s0, s1, s2, s3⟩; go_simp; with_reducible rfl
             rotate_left
             ·simp only [Act.put, List.setIfInBounds_toArray, List.set_cons_zero, List.set_cons_succ, i64_w, i32_w]; rfl
             refine take_ (i := 10) (N := some 82) (v := ?_) (a' := ?_) #[y_,y_,y_,y_,y_,y_,y_,y_,y_,y_,y_,n_,n_] rfl rfl (take_ofW HT_.out HW_.out (by kernel_rfl)) (fun _ _ _ h => h) (Or.inl ⟨by rfl, ?_⟩) hHeld ?_ ?_
             rotate_left
             ·rintro w' ⟨s0, s1, s2, s3⟩; go_simp; with_reducible rfl
             rotate_left
             ·simp only [Act.put, List.setIfInBounds_toArray, List.set_cons_zero, List.set_cons_succ, i64_w, i32_w]; rfl
             refine pure_ (i := 11) (N := some 83) (v := ?_) (a' := ?_) #[y_,y_,y_,y_,y_,y_,y_,y_,y_,y_,y_,y_,n_] rfl rfl (any_of HT_.out (by kernel_rfl)) (fun _ _ _ h => h) (Or.inl ⟨by rfl, ?_⟩) ?_ ?_
             rotate_left
             ·intro w'; go_simp; with_reducible rfl
             rotate_left
             ·simp only [Act.put, List.setIfInBounds_toArray, List.set_cons_zero, List.set_cons_succ, i64_w, i32_w]; rfl
             refine pure_ (i := 12) (N := some 12) (v := ?_) (a' := ?_) #[y_,y_,y_,y_,y_,y_,y_,y_,y_,y_,y_,y_,y_] rfl rfl (any_of HT_.out (by kernel_rfl)) (fun _ _ _ h => h) (Or.inl ⟨by rfl, ?_⟩) ?_ ?_
             rotate_left
             ·intro w'; go_simp; with_reducible rfl
             rotate_left
             ·simp only [Act.put, List.setIfInBounds_toArray, List.set_cons_zero, List.set_cons_succ, i64_w, i32_w]; rfl
             refine done_ (done_of HT_.out (by kernel_rfl)) ?_
             try go_wp2
             go_roundg k2
             case measure => have := HJ5.out; have := HK2.out; omega
             case rel => exact ⟨(false), (wrap64 ((wrap64 (x9_2 + (ji44))) + (ji45))), (wrap64 (x10_2 + 1)), (by first | rfl | (simp; done) | (simp [*]; done)), (by first | rfl | (simp; done) | (simp only [← hji44, ← hji45] <;> (first | rfl | simp)) | (simp [*]; done)), (by first | rfl | (simp; done) | (simp [*]; done)), H', ⟨by have := HJ5.out; have := HK2.out; omega⟩, ⟨by (with_reducible repeat (first | apply Kd.R_alloc | apply Kd.R_drewN | apply Kd.R_drew)); exact HO_3.out⟩, ⟨by (with_reducible repeat (first | apply Kd.R_alloc | apply Kd.R_drewN | apply Kd.R_drew)); exact HO_6.out⟩, ⟨by repeat (first | (with_reducible first | exact HB.out | apply below_alloc | apply pw_below_drewN | apply below_drew1) | exact HB.out)⟩⟩
           ·rw [if_neg c30] at H; exact absurd H (by simp)
          ·rw [if_neg c29] at H; exact absurd H (by simp)
         ·rw [if_neg c27] at H; exact absurd H (by simp)
        ·rw [if_neg c26] at H
         have c26b0 : decide (x10_2 < (t101.length : Int)) = false := decide_eq_false c26; clear c26; have HC48 := Aside0.mk H; clear H; go_upto_region 17 with (fail); go_cut [115] (fun v115 wc => ∃ (kq : Nat) (x115_47 : Bool), v115 = .bool x115_47 ∧ Aside0 (laws_FnStay.j2 kq t101 t108 t109 x8_2 x9_2 x115_47 = some r) ∧ Aside0 (kq ≤ k2) ∧ Aside0 (Kd.R k38 38 wc w.heap.size (fun k_ => some k_ ≠ (v110 : Value).ownBlock) (.slice (some ad114) t101.length co8) t101) ∧ Aside0 (Kd.R k38 38 wc w.heap.size (fun k_ => some k_ ≠ ((.slice (some ad114) t101.length co8) : Value).ownBlock) v110 t108) ∧ Aside0 (Below w.heap.size w wc))
         case first =>
          have H := HC48.out; clear HC48
          by_cases c49 : t109 = true
          ·subst c49
           have H1 : (laws_FnStay.j2 k2 t101 t108 true x8_2 x9_2 (!x8_2)) = some r := by rw [if_pos rfl] at H; exact H
           clear H; have H := H1; clear H1; have H' := Aside0.mk H; clear H; go_wp2; go_meet
           case rel => exact ⟨_, (!x8_2), (by first | rfl | (simp; done) | (simp [*]; done)), H', ⟨by have := HJ5.out; have := HK2.out; first | omega | exact Nat.le_refl _⟩, ⟨by (with_reducible repeat (first | apply Kd.R_alloc | apply Kd.R_drewN | apply Kd.R_drew)); exact HO_3.out⟩, ⟨by (with_reducible repeat (first | apply Kd.R_alloc | apply Kd.R_drewN | apply Kd.R_drew)); exact HO_6.out⟩, ⟨by repeat (first | (with_reducible first | exact HB.out | apply below_alloc | apply pw_below_drewN | apply below_drew1) | exact HB.out)⟩⟩
          ·replace c49 := Bool.eq_false_iff.mpr c49
           subst c49
           have H1 : (laws_FnStay.j2 k2 t101 t108 false x8_2 x9_2 true) = some r := by rw [if_neg (show ¬ (false = true) by decide)] at H; exact H
           clear H; have H := H1; clear H1; have H' := Aside0.mk H; clear H; go_wp2; go_meet
           case rel => exact ⟨_, (true), (by first | rfl | (simp; done) | (simp [*]; done)), H', ⟨by have := HJ5.out; have := HK2.out; first | omega | exact Nat.le_refl _⟩, ⟨by (with_reducible repeat (first | apply Kd.R_alloc | apply Kd.R_drewN | apply Kd.R_drew)); exact HO_3.out⟩, ⟨by (with_reducible repeat (first | apply Kd.R_alloc | apply Kd.R_drewN | apply Kd.R_drew)); exact HO_6.out⟩, ⟨by repeat (first | (with_reducible first | exact HB.out | apply below_alloc | apply pw_below_drewN | apply below_drew1) | exact HB.out)⟩⟩
         case rest =>
          clear HC48
          try clear p1
          try clear q1
          try clear hx1
          try clear c2
          try clear p2
          try clear c3
          try clear c4
          try clear p6
          try clear p11
          try clear q11
          try clear hx11
          try clear p12
          try clear q12
          try clear hx12
          try clear c26
          try clear c26b0
          try clear c27
          try clear c29
          try clear c30
          try clear c31
          try clear c49
          try clear hx116_0
          try clear hx116_1
          try clear hx117_0
          try clear hx117_1
          try clear hx118_0
          try clear hx118_1
          try clear hx119_0
          try clear hx119_1
          try clear hx120_0
          try clear hx120_1
          try clear p116
          try clear p117
          try clear p118
          try clear p119
          try clear p120
          try clear q116
          try clear q117
          try clear q118
          try clear q119
          try clear q120
          obtain ⟨kq, x115_47, rfl, HA, HJ47, HO_3, HO_6, HB⟩ := hcut
          cases kq with
          | zero => exact absurd HA.out (by simp [laws_FnStay.j2])
          | succ kj47 =>
           have H := HA.out; clear HA; simp only [laws_FnStay.j2] at H
           by_cases c50 : x115_47 = true
           ·subst c50
            have H1 : (some (t109 == x8_2)) = some r := by rw [if_pos rfl] at H; exact H
            clear H; have H := H1; clear H1; obtain rfl := Option.some.inj H; go_wp2; go_ret
            exact ⟨by first | rfl | (simp [errW_none, errW_some] <;> rfl) | (simp [*, errW_none, errW_some] <;> rfl), by repeat (first | (with_reducible first | exact HB.out | apply below_alloc | apply pw_below_drewN | apply below_drew1) | exact HB.out)⟩
           ·replace c50 := Bool.eq_false_iff.mpr c50
            subst c50
            have H1 : ((laws_luPath.f kj47 t108).bind fun t122 => (if t122 = true then (if (t108.length : Int) = x9_2 then (if 0 < (t108.length : Int) then (if 0 < (t101.length : Int) then (if (((rd_T38 t108 0).f0) == ((rd_T38 t101 0).f0) && (((rd_T38 t108 0).f1) == ((rd_T38 t101 0).f1))) = true then (if 0 ≤ (wrap64 (x9_2 - 1)) then (if (wrap64 (x9_2 - 1)) < (t108.length : Int) then (if 0 ≤ (wrap64 ((t101.length : Int) - 1)) then (if (wrap64 ((t101.length : Int) - 1)) < (t101.length : Int) then (if (((rd_T38 t108 (wrap64 (x9_2 - 1))).f0) == ((rd_T38 t101 (wrap64 ((t101.length : Int) - 1))).f0) && (((rd_T38 t108 (wrap64 (x9_2 - 1))).f1) == ((rd_T38 t101 (wrap64 ((t101.length : Int) - 1))).f1))) = true then ((laws_luPart.f kj47 t101 t108).bind fun t127 => (some t127)) else (some false)) else (none)) else (none)) else (none)) else (none)) else (some false)) else (none)) else (none)) else (some false)) else (some false))) = some r := by rw [if_neg (show ¬ (false = true) by decide)] at H; exact H
            clear H; have H := H1; clear H1; replace H := Option.bind_eq_some_iff.mp H; obtain ⟨t122, A510, H⟩ := H; replace H : (if t122 = true then (if (t108.length : Int) = x9_2 then (if 0 < (t108.length : Int) then (if 0 < (t101.length : Int) then (if (((rd_T38 t108 0).f0) == ((rd_T38 t101 0).f0) && (((rd_T38 t108 0).f1) == ((rd_T38 t101 0).f1))) = true then (if 0 ≤ (wrap64 (x9_2 - 1)) then (if (wrap64 (x9_2 - 1)) < (t108.length : Int) then (if 0 ≤ (wrap64 ((t101.length : Int) - 1)) then (if (wrap64 ((t101.length : Int) - 1)) < (t101.length : Int) then (if (((rd_T38 t108 (wrap64 (x9_2 - 1))).f0) == ((rd_T38 t101 (wrap64 ((t101.length : Int) - 1))).f0) && (((rd_T38 t108 (wrap64 (x9_2 - 1))).f1) == ((rd_T38 t101 (wrap64 ((t101.length : Int) - 1))).f1))) = true then ((laws_luPart.f kj47 t101 t108).bind fun t127 => (some t127)) else (some false)) else (none)) else (none)) else (none)) else (none)) else (some false)) else (none)) else (none)) else (some false)) else (some false)) = some r := H; have A51 := Aside0.mk A510; clear A510
            by_cases c52 : t122 = true
            ·subst c52
             have H1 : (if (t108.length : Int) = x9_2 then (if 0 < (t108.length : Int) then (if 0 < (t101.length : Int) then (if (((rd_T38 t108 0).f0) == ((rd_T38 t101 0).f0) && (((rd_T38 t108 0).f1) == ((rd_T38 t101 0).f1))) = true then (if 0 ≤ (wrap64 (x9_2 - 1)) then (if (wrap64 (x9_2 - 1)) < (t108.length : Int) then (if 0 ≤ (wrap64 ((t101.length : Int) - 1)) then (if (wrap64 ((t101.length : Int) - 1)) < (t101.length : Int) then (if (((rd_T38 t108 (wrap64 (x9_2 - 1))).f0) == ((rd_T38 t101 (wrap64 ((t101.length : Int) - 1))).f0) && (((rd_T38 t108 (wrap64 (x9_2 - 1))).f1) == ((rd_T38 t101 (wrap64 ((t101.length : Int) - 1))).f1))) = true then ((laws_luPart.f kj47 t101 t108).bind fun t127 => (some t127)) else (some false)) else (none)) else (none)) else (none)) else (none)) else (some false)) else (none)) else (none)) else (some false)) = some r := by rw [if_pos rfl] at H; exact H
             clear H; have H := H1; clear H1
             by_cases c53 : (t108.length : Int) = x9_2
             ·rw [if_pos c53] at H
              have c53b0 : ((t108.length : Int) == x9_2) = true := beq_iff_eq.mpr c53; have c53b1 : ((t108.length : Int) != x9_2) = false := bne_eq_false_iff_eq.mpr c53; clear c53
              by_cases c54 : 0 < (t108.length : Int)
              ·rw [if_pos c54] at H
               have c54b0 : decide (0 < (t108.length : Int)) = true := decide_eq_true c54; have c54b1 : decide (0 < t108.length) = true := decide_eq_true (by omega); clear c54
               by_cases c55 : 0 < (t101.length : Int)
               ·rw [if_pos c55] at H
                have c55b0 : decide (0 < (t101.length : Int)) = true := decide_eq_true c55; have c55b1 : decide (0 < t101.length) = true := decide_eq_true (by omega); clear c55
                by_cases c56 : (((rd_T38 t108 0).f0) == ((rd_T38 t101 0).f0) && (((rd_T38 t108 0).f1) == ((rd_T38 t101 0).f1))) = true
                ·rw [if_pos c56] at H
                 have c56b0 : (((rd_T38 t108 0).f0) == ((rd_T38 t101 0).f0) && (((rd_T38 t108 0).f1) == ((rd_T38 t101 0).f1))) = true := c56; (try (have c56b1 : decide (((rd_T38 t108 0).f0) = ((rd_T38 t101 0).f0) && (((rd_T38 t108 0).f1) == ((rd_T38 t101 0).f1))) = true := by simpa using c56)); (try (have c56b2 : (((rd_T38 t108 0).f0) == ((rd_T38 t101 0).f0) && (((rd_T38 t108 0).f1) == ((rd_T38 t101 0).f1))) = true := by simpa using c56)); clear c56; obtain ⟨ji57, hji57⟩ : ∃ j_ : Int, (wrap64 (x9_2 - 1)) = j_ := ⟨_, rfl⟩
                 replace H : (if 0 ≤ (ji57) then (if (ji57) < (t108.length : Int) then (if 0 ≤ (wrap64 ((t101.length : Int) - 1)) then (if (wrap64 ((t101.length : Int) - 1)) < (t101.length : Int) then (if (((rd_T38 t108 (ji57)).f0) == ((rd_T38 t101 (wrap64 ((t101.length : Int) - 1))).f0) && (((rd_T38 t108 (ji57)).f1) == ((rd_T38 t101 (wrap64 ((t101.length : Int) - 1))).f1))) = true then ((laws_luPart.f kj47 t101 t108).bind fun t127 => (some t127)) else (some false)) else (none)) else (none)) else (none)) else (none)) = some r := by first | (rw [hji57] at H; exact H) | (simp only [hji57] at H ⊢; exact H)
                 (try rw [hji57] at A51); have hji57w : (IntKind.i64.wrap (x9_2 - 1)) = ji57 := (i64_w _).trans hji57
                 by_cases c58 : 0 ≤ (ji57)
                 ·rw [if_pos c58] at H
                  have c58b0 : decide (0 ≤ (ji57)) = true := decide_eq_true c58; clear c58
                  by_cases c59 : (ji57) < (t108.length : Int)
                  ·rw [if_pos c59] at H
                   have c59b0 : decide ((ji57) < (t108.length : Int)) = true := decide_eq_true c59; clear c59; obtain ⟨ji60, hji60⟩ : ∃ j_ : Int, (wrap64 ((t101.length : Int) - 1)) = j_ := ⟨_, rfl⟩
                   replace H : (if 0 ≤ (ji60) then (if (ji60) < (t101.length : Int) then (if (((rd_T38 t108 (ji57)).f0) == ((rd_T38 t101 (ji60)).f0) && (((rd_T38 t108 (ji57)).f1) == ((rd_T38 t101 (ji60)).f1))) = true then ((laws_luPart.f kj47 t101 t108).bind fun t127 => (some t127)) else (some false)) else (none)) else (none)) = some r := by first | (rw [hji60] at H; exact H) | (simp only [hji60] at H ⊢; exact H)
                   (try rw [hji60] at A51); have hji60w : (IntKind.i64.wrap ((t101.length : Int) - 1)) = ji60 := (i64_w _).trans hji60
                   by_cases c61 : 0 ≤ (ji60)
                   ·rw [if_pos c61] at H
                    have c61b0 : decide (0 ≤ (ji60)) = true := decide_eq_true c61; clear c61
                    by_cases c62 : (ji60) < (t101.length : Int)
                    ·rw [if_pos c62] at H
                     have c62b0 : decide ((ji60) < (t101.length : Int)) = true := decide_eq_true c62; clear c62
                     by_cases c63 : (((rd_T38 t108 (ji57)).f0) == ((rd_T38 t101 (ji60)).f0) && (((rd_T38 t108 (ji57)).f1) == ((rd_T38 t101 (ji60)).f1))) = true
                     ·rw [if_pos c63] at H
                      have c63b0 : (((rd_T38 t108 (ji57)).f0) == ((rd_T38 t101 (ji60)).f0) && (((rd_T38 t108 (ji57)).f1) == ((rd_T38 t101 (ji60)).f1))) = true := c63; (try (have c63b1 : decide (((rd_T38 t108 (ji57)).f0) = ((rd_T38 t101 (ji60)).f0) && (((rd_T38 t108 (ji57)).f1) == ((rd_T38 t101 (ji60)).f1))) = true := by simpa using c63)); (try (have c63b2 : (((rd_T38 t108 (ji57)).f0) == ((rd_T38 t101 (ji60)).f0) && (((rd_T38 t108 (ji57)).f1) == ((rd_T38 t101 (ji60)).f1))) = true := by simpa using c63)); clear c63; replace H := Option.bind_eq_some_iff.mp H; obtain ⟨t127, A640, H⟩ := H; replace H : (some t127) = some r := H; have A64 := Aside0.mk A640; clear A640; obtain rfl := Option.some.inj H
                      try go_wp2
                      have n0_ := Aside0.mk (Kd.R_drew HO_3.out); have n1_ := Aside0.mk (Kd.R_drew HO_6.out); have n2_ := Aside0.mk (below_drew1 HB.out); clear HO_3; clear HO_6; clear HB; have HO_3 := n0_; have HO_6 := n1_; have HB := n2_; clear n0_ n1_ n2_; obtain ⟨Ao66, co66, eo66⟩ := Kd.R_slice HO_6.out; (first | subst eo66 | (injection eo66 with f1_ f2_ f3_; have f4_ := f1_.symm; have f5_ := f3_.symm; clear f1_ f2_ f3_; subst f4_; subst f5_)); have p123 : 0 ≤ (0 : Int) := (by omega); have q123 : 0 < (t108.length : Int) := of_decide_eq_true (by first | (with_reducible assumption) | assumption); obtain ⟨ad123, e123, hx123_0, hx123_1⟩ := at_T38 (Kd.R_reads' HO_6.out).2.2 0 p123 q123
                      cases e123
                      have qi123 : (0 < t108.length) = True := eq_true (by omega); (try rw [show ((0 : Int)).toNat = 0 from rfl] at hx123_0); (try rw [show 0 * 2 = 0 from rfl] at hx123_0); (try rw [Addr.add_zero'] at hx123_0); (try rw [show ((0 : Int)).toNat = 0 from rfl] at hx123_1); (try rw [show 0 * 2 = 0 from rfl] at hx123_1); (try rw [Addr.add_zero'] at hx123_1); replace p123 := eq_true p123; replace q123 := eq_true q123; have p124 : 0 ≤ (0 : Int) := (by omega); have q124 : 0 < (t101.length : Int) := of_decide_eq_true (by first | (with_reducible assumption) | assumption); obtain ⟨ad124, e124, hx124_0, hx124_1⟩ := at_T38 (Kd.R_reads' HO_3.out).2.2 0 p124 q124; obtain rfl : ad114 = ad124 := (by injection e124); have qi124 : (0 < t101.length) = True := eq_true (by omega); (try rw [show ((0 : Int)).toNat = 0 from rfl] at hx124_0); (try rw [show 0 * 2 = 0 from rfl] at hx124_0); (try rw [Addr.add_zero'] at hx124_0); (try rw [show ((0 : Int)).toNat = 0 from rfl] at hx124_1); (try rw [show 0 * 2 = 0 from rfl] at hx124_1); (try rw [Addr.add_zero'] at hx124_1); replace p124 := eq_true p124; replace q124 := eq_true q124; have p125 : 0 ≤ ((ji57) : Int) := of_decide_eq_true (by first | (with_reducible assumption) | assumption); have q125 : (ji57) < (t108.length : Int) := of_decide_eq_true (by first | (with_reducible assumption) | assumption); obtain ⟨ad125, e125, hx125_0, hx125_1⟩ := at_T38 (Kd.R_reads' HO_6.out).2.2 (ji57) p125 q125; obtain rfl : ad123 = ad125 := (by injection e125); replace p125 := eq_true p125; replace q125 := eq_true q125; have p126 : 0 ≤ ((ji60) : Int) := of_decide_eq_true (by first | (with_reducible assumption) | assumption); have q126 : (ji60) < (t101.length : Int) := of_decide_eq_true (by first | (with_reducible assumption) | assumption); obtain ⟨ad126, e126, hx126_0, hx126_1⟩ := at_T38 (Kd.R_reads' HO_3.out).2.2 (ji60) p126 q126; obtain rfl : ad114 = ad126 := (by injection e126); replace p126 := eq_true p126; replace q126 := eq_true q126; refine start_ (n := 37) (S := fun w' => w'.cell? ad123 = some (.int .i64 ((rd_T38 t108 0).f0)) ∧ w'.cell? ⟨ad123.block, ad123.off + 1, none⟩ = some (.int .i64 ((rd_T38 t108 0).f1)) ∧ w'.cell? ad114 = some (.int .i64 ((rd_T38 t101 0).f0)) ∧ w'.cell? ⟨ad114.block, ad114.off + 1, none⟩ = some (.int .i64 ((rd_T38 t101 0).f1)) ∧ w'.cell? (ad123.add (((ji57)).toNat * 2)) = some (.int .i64 ((rd_T38 t108 (ji57)).f0)) ∧ w'.cell? ⟨(ad123.add (((ji57)).toNat * 2)).block, (ad123.add (((ji57)).toNat * 2)).off + 1, none⟩ = some (.int .i64 ((rd_T38 t108 (ji57)).f1)) ∧ w'.cell? (ad114.add (((ji60)).toNat * 2)) = some (.int .i64 ((rd_T38 t101 (ji60)).f0)) ∧ w'.cell? ⟨(ad114.add (((ji60)).toNat * 2)).block, (ad114.add (((ji60)).toNat * 2)).off + 1, none⟩ = some (.int .i64 ((rd_T38 t101 (ji60)).f1))) (ds := []) #[n_,n_,n_,n_,n_,n_,n_,n_,n_,n_,n_,n_,n_,n_,n_,n_,n_,n_,n_,n_,n_,n_,n_,n_,n_,n_,n_,n_,n_,n_,n_,n_,n_,n_,n_,n_,n_] (by kernel_rfl) rfl rfl ⟨hx123_0, hx123_1, hx124_0, hx124_1, hx125_0, hx125_1, hx126_0, hx126_1⟩ (fun hHeld => ?_); refine with_tabW laws_FnStay.tab19 laws_FnStay.bits19 (fun HT_ HW_ => ?_); generalize wc.drew = w65 at HO_3 HO_6 HB hx123_0 hx123_1 hx124_0 hx124_1 hx125_0 hx125_1 hx126_0 hx126_1 hHeld ⊢; refine pure_ (i := 0) (N := some 119) (v := ?_) (a' := ?_) #[y_,n_,n_,n_,n_,n_,n_,n_,n_,n_,n_,n_,n_,n_,n_,n_,n_,n_,n_,n_,n_,n_,n_,n_,n_,n_,n_,n_,n_,n_,n_,n_,n_,n_,n_,n_,n_] rfl rfl (any_of HT_.out (by kernel_rfl)) (fun _ _ _ h => h) (Or.inl ⟨by rfl, ?_⟩) ?_ ?_
                      rotate_left
                      ·intro w'; go_simp; with_reducible rfl
                      rotate_left
                      ·simp only [Act.put, List.setIfInBounds_toArray, List.set_cons_zero, List.set_cons_succ, i64_w, i32_w]; rfl
                      refine one_ (i := 1) (N := some 120) #[y_,y_,n_,n_,n_,n_,n_,n_,n_,n_,n_,n_,n_,n_,n_,n_,n_,n_,n_,n_,n_,n_,n_,n_,n_,n_,n_,n_,n_,n_,n_,n_,n_,n_,n_,n_,n_] rfl rfl (one_of HT_.out (by kernel_rfl)) (by decide) (fun K hK => ?_); refine goes_ Try.func24 (by kernel_rfl) rfl #[.slice (some ad123) t108.length co66] (by rfl) rfl rfl (by (try simp only [List.map_toArray, List.map_cons, List.map_nil]); first | done | rfl | (simp only [List.length_drop, List.length_take]; rfl)) ?_
                      with_reducible refine (laws_luPath.calls kj47 _ _ t108 true _ ?side1 ?side2 A51.out).mono ?_
                      (case side1 => repeat (first | exact (Kd.R_reads' HO_6.out).2.2 | (with_reducible refine Kd.C_alloc ?_ _) | (with_reducible refine Kd.C_drewN ?_ _) | (with_reducible refine Kd.C_drew ?_))); (case side2 => exact (Kd.R_reads' HO_6.out).2.1); rintro e w67 ⟨rfl, hb⟩; have HS0_ := (hb.cell (World.block_lt_of_cell? _ _ (hHeld.1))).trans (hHeld.1); have HS1_ := (hb.cell (World.block_lt_of_cell? _ _ (hHeld.2.1))).trans (hHeld.2.1); have HS2_ := (hb.cell (World.block_lt_of_cell? _ _ (hHeld.2.2.1))).trans (hHeld.2.2.1); have HS3_ := (hb.cell (World.block_lt_of_cell? _ _ (hHeld.2.2.2.1))).trans (hHeld.2.2.2.1); have HS4_ := (hb.cell (World.block_lt_of_cell? _ _ (hHeld.2.2.2.2.1))).trans (hHeld.2.2.2.2.1); have HS5_ := (hb.cell (World.block_lt_of_cell? _ _ (hHeld.2.2.2.2.2.1))).trans (hHeld.2.2.2.2.2.1); have HS6_ := (hb.cell (World.block_lt_of_cell? _ _ (hHeld.2.2.2.2.2.2.1))).trans (hHeld.2.2.2.2.2.2.1); have HS7_ := (hb.cell (World.block_lt_of_cell? _ _ (hHeld.2.2.2.2.2.2.2))).trans (hHeld.2.2.2.2.2.2.2); refine ⟨_, rfl, ?_⟩; have n0_ := Aside0.mk (Kd.R_below (by (with_reducible repeat (first | apply Kd.R_alloc | apply Kd.R_drewN | apply Kd.R_drew)); exact HO_3.out) hb); have n1_ := Aside0.mk (Kd.R_below (by (with_reducible repeat (first | apply Kd.R_alloc | apply Kd.R_drewN | apply Kd.R_drew)); exact HO_6.out) hb); have n2_ := Aside0.mk (below_step (by repeat (first | (with_reducible first | exact HB.out | apply below_alloc | apply pw_below_drewN | apply below_drew1) | exact HB.out)) hb); clear HO_3; clear HO_6; clear HB; have HO_3 := n0_; have HO_6 := n1_; have HB := n2_; clear n0_ n1_ n2_; (try clear hb); (try clear hb2); (try clear hk); (try clear hi); refine hK.out _ _ ⟨HS0_, HS1_, HS2_, HS3_, HS4_, HS5_, HS6_, HS7_⟩ (fun hHeld => ?_); clear hK K; refine norm_ (a' := ?_) ?_ ?_
                      rotate_left
                      ·show Act.put _ (some 120) _ = _
                       simp only [Act.put, List.setIfInBounds_toArray, List.set_cons_zero, List.set_cons_succ, i64_w, i32_w]; rfl
                      refine pure_ (i := 2) (N := some 121) (v := ?_) (a' := ?_) #[y_,y_,y_,n_,n_,n_,n_,n_,n_,n_,n_,n_,n_,n_,n_,n_,n_,n_,n_,n_,n_,n_,n_,n_,n_,n_,n_,n_,n_,n_,n_,n_,n_,n_,n_,n_,n_] rfl rfl (any_of HT_.out (by kernel_rfl)) (fun _ _ _ h => h) (Or.inl ⟨by rfl, ?_⟩) ?_ ?_
                      rotate_left
                      ·intro w'; go_simp; with_reducible rfl
                      rotate_left
                      ·simp only [Act.put, List.setIfInBounds_toArray, List.set_cons_zero, List.set_cons_succ, i64_w, i32_w]; rfl
                      refine pure_ (i := 3) (N := some 122) (v := ?_) (a' := ?_) #[y_,y_,y_,y_,n_,n_,n_,n_,n_,n_,n_,n_,n_,n_,n_,n_,n_,n_,n_,n_,n_,n_,n_,n_,n_,n_,n_,n_,n_,n_,n_,n_,n_,n_,n_,n_,n_] rfl rfl (any_of HT_.out (by kernel_rfl)) (fun _ _ _ h => h) (Or.inl ⟨by rfl, ?_⟩) ?_ ?_
                      rotate_left
                      ·intro w'; go_simp; with_reducible rfl
                      rotate_left
                      ·simp only [Act.put, List.setIfInBounds_toArray, List.set_cons_zero, List.set_cons_succ, i64_w, i32_w]; rfl
                      refine pure_ (i := 4) (N := some 123) (v := ?_) (a' := ?_) #[y_,y_,y_,y_,y_,n_,n_,n_,n_,n_,n_,n_,n_,n_,n_,n_,n_,n_,n_,n_,n_,n_,n_,n_,n_,n_,n_,n_,n_,n_,n_,n_,n_,n_,n_,n_,n_] rfl rfl (any_of HT_.out (by kernel_rfl)) (fun _ _ _ h => h) (Or.inl ⟨by rfl, ?_⟩) ?_ ?_
                      rotate_left
                      ·intro w'; go_simp; with_reducible rfl
                      rotate_left
                      ·simp only [Act.put, List.setIfInBounds_toArray, List.set_cons_zero, List.set_cons_succ, i64_w, i32_w]; rfl
                      refine pure_ (i := 5) (N := some 124) (v := ?_) (a' := ?_) #[y_,y_,y_,y_,y_,y_,n_,n_,n_,n_,n_,n_,n_,n_,n_,n_,n_,n_,n_,n_,n_,n_,n_,n_,n_,n_,n_,n_,n_,n_,n_,n_,n_,n_,n_,n_,n_] rfl rfl (any_of HT_.out (by kernel_rfl)) (fun _ _ _ h => h) (Or.inl ⟨by rfl, ?_⟩) ?_ ?_
                      rotate_left
                      ·intro w'; go_simp; with_reducible rfl
                      rotate_left
                      ·simp only [Act.put, List.setIfInBounds_toArray, List.set_cons_zero, List.set_cons_succ, i64_w, i32_w]; rfl
                      refine pure_ (i := 6) (N := some 125) (v := ?_) (a' := ?_) #[y_,y_,y_,y_,y_,y_,y_,n_,n_,n_,n_,n_,n_,n_,n_,n_,n_,n_,n_,n_,n_,n_,n_,n_,n_,n_,n_,n_,n_,n_,n_,n_,n_,n_,n_,n_,n_] rfl rfl (any_of HT_.out (by kernel_rfl)) (fun _ _ _ h => h) (Or.inl ⟨by rfl, ?_⟩) ?_ ?_
                      rotate_left
                      ·intro w'; go_simp; with_reducible rfl
                      rotate_left
                      ·simp only [Act.put, List.setIfInBounds_toArray, List.set_cons_zero, List.set_cons_succ, i64_w, i32_w]; rfl
                      refine pure_ (i := 7) (N := some 126) (v := ?_) (a' := ?_) #[y_,y_,y_,y_,y_,y_,y_,y_,n_,n_,n_,n_,n_,n_,n_,n_,n_,n_,n_,n_,n_,n_,n_,n_,n_,n_,n_,n_,n_,n_,n_,n_,n_,n_,n_,n_,n_] rfl rfl (any_of HT_.out (by kernel_rfl)) (fun _ _ _ h => h) (Or.inl ⟨by rfl, ?_⟩) ?_ ?_
                      rotate_left
                      ·intro w'; go_simp; with_reducible rfl
                      rotate_left
                      ·simp only [Act.put, List.setIfInBounds_toArray, List.set_cons_zero, List.set_cons_succ, i64_w, i32_w]; rfl
                      refine pure_ (i := 8) (N := some 127) (v := ?_) (a' := ?_) #[y_,y_,y_,y_,y_,y_,y_,y_,y_,n_,n_,n_,n_,n_,n_,n_,n_,n_,n_,n_,n_,n_,n_,n_,n_,n_,n_,n_,n_,n_,n_,n_,n_,n_,n_,n_,n_] rfl rfl (any_of HT_.out (by kernel_rfl)) (fun _ _ _ h => h) (Or.inl ⟨by rfl, ?_⟩) ?_ ?_
                      rotate_left
                      ·intro w'; go_simp; with_reducible rfl
                      rotate_left
                      ·simp only [Act.put, List.setIfInBounds_toArray, List.set_cons_zero, List.set_cons_succ, i64_w, i32_w]; rfl
                      refine pure_ (i := 9) (N := some 128) (v := ?_) (a' := ?_) #[y_,y_,y_,y_,y_,y_,y_,y_,y_,y_,n_,n_,n_,n_,n_,n_,n_,n_,n_,n_,n_,n_,n_,n_,n_,n_,n_,n_,n_,n_,n_,n_,n_,n_,n_,n_,n_] rfl rfl (any_of HT_.out (by kernel_rfl)) (fun _ _ _ h => h) (Or.inl ⟨by rfl, ?_⟩) ?_ ?_
                      rotate_left
                      ·intro w'; go_simp; with_reducible rfl
                      rotate_left
                      ·simp only [Act.put, List.setIfInBounds_toArray, List.set_cons_zero, List.set_cons_succ, i64_w, i32_w]; rfl
                      refine pure_ (i := 10) (N := some 129) (v := ?_) (a' := ?_) #[y_,y_,y_,y_,y_,y_,y_,y_,y_,y_,y_,n_,n_,n_,n_,n_,n_,n_,n_,n_,n_,n_,n_,n_,n_,n_,n_,n_,n_,n_,n_,n_,n_,n_,n_,n_,n_] rfl rfl (any_of HT_.out (by kernel_rfl)) (fun _ _ _ h => h) (Or.inl ⟨by rfl, ?_⟩) ?_ ?_
                      rotate_left
                      ·intro w'; go_simp; with_reducible rfl
                      rotate_left
                      ·simp only [Act.put, List.setIfInBounds_toArray, List.set_cons_zero, List.set_cons_succ, i64_w, i32_w]; rfl
                      refine pure_ (i := 12) (N := some 131) (v := ?_) (a' := ?_) #[y_,y_,y_,y_,y_,y_,y_,y_,y_,y_,y_,n_,y_,n_,n_,n_,n_,n_,n_,n_,n_,n_,n_,n_,n_,n_,n_,n_,n_,n_,n_,n_,n_,n_,n_,n_,n_] rfl rfl (any_of HT_.out (by kernel_rfl)) (fun _ _ _ h => h) (Or.inl ⟨by rfl, ?_⟩) ?_ ?_
                      rotate_left
                      ·intro w'; go_simp; with_reducible rfl
                      rotate_left
                      ·simp only [Act.put, List.setIfInBounds_toArray, List.set_cons_zero, List.set_cons_succ, i64_w, i32_w]; rfl
                      refine pure_ (i := 13) (N := some 132) (v := ?_) (a' := ?_) #[y_,y_,y_,y_,y_,y_,y_,y_,y_,y_,y_,n_,y_,y_,n_,n_,n_,n_,n_,n_,n_,n_,n_,n_,n_,n_,n_,n_,n_,n_,n_,n_,n_,n_,n_,n_,n_] rfl rfl (any_of HT_.out (by kernel_rfl)) (fun _ _ _ h => h) (Or.inl ⟨by rfl, ?_⟩) ?_ ?_
                      rotate_left
                      ·intro w'; go_simp; with_reducible rfl
                      rotate_left
                      ·simp only [Act.put, List.setIfInBounds_toArray, List.set_cons_zero, List.set_cons_succ, i64_w, i32_w]; rfl
                      refine take_ (i := 11) (N := some 130) (v := ?_) (a' := ?_) #[y_,y_,y_,y_,y_,y_,y_,y_,y_,y_,y_,y_,y_,y_,n_,n_,n_,n_,n_,n_,n_,n_,n_,n_,n_,n_,n_,n_,n_,n_,n_,n_,n_,n_,n_,n_,n_] rfl rfl (take_ofW HT_.out HW_.out (by kernel_rfl)) (fun _ _ _ h => h) (Or.inl ⟨by rfl, ?_⟩) hHeld ?_ ?_
                      rotate_left
                      ·rintro w' ⟨s0, s1, s2, s3, s4, s5, s6, s7⟩; go_simp; with_reducible rfl
                      rotate_left
                      ·simp only [Act.put, List.setIfInBounds_toArray, List.set_cons_zero, List.set_cons_succ, i64_w, i32_w]; rfl
                      refine take_ (i := 14) (N := some 133) (v := ?_) (a' := ?_) #[y_,y_,y_,y_,y_,y_,y_,y_,y_,y_,y_,y_,y_,y_,y_,n_,n_,n_,n_,n_,n_,n_,n_,n_,n_,n_,n_,n_,n_,n_,n_,n_,n_,n_,n_,n_,n_] rfl rfl (take_ofW HT_.out HW_.out (by kernel_rfl)) (fun _ _ _ h => h) (Or.inl ⟨by rfl, ?_⟩) hHeld ?_ ?_
                      rotate_left
                      ·rintro w' ⟨s0, s1, s2, s3, s4, s5, s6, s7⟩; go_simp; with_reducible rfl
                      rotate_left
                      ·simp only [Act.put, List.setIfInBounds_toArray, List.set_cons_zero, List.set_cons_succ, i64_w, i32_w]; rfl
                      refine pure_ (i := 15) (N := some 134) (v := ?_) (a' := ?_) #[y_,y_,y_,y_,y_,y_,y_,y_,y_,y_,y_,y_,y_,y_,y_,y_,n_,n_,n_,n_,n_,n_,n_,n_,n_,n_,n_,n_,n_,n_,n_,n_,n_,n_,n_,n_,n_] rfl rfl (any_of HT_.out (by kernel_rfl)) (fun _ _ _ h => h) (Or.inl ⟨by rfl, ?_⟩) ?_ ?_
                      rotate_left
                      ·intro w'; go_simp; with_reducible rfl
                      rotate_left
                      ·simp only [Act.put, List.setIfInBounds_toArray, List.set_cons_zero, List.set_cons_succ, i64_w, i32_w]; rfl
                      refine pure_ (i := 16) (N := some 135) (v := ?_) (a' := ?_) #[y_,y_,y_,y_,y_,y_,y_,y_,y_,y_,y_,y_,y_,y_,y_,y_,y_,n_,n_,n_,n_,n_,n_,n_,n_,n_,n_,n_,n_,n_,n_,n_,n_,n_,n_,n_,n_] rfl rfl (any_of HT_.out (by kernel_rfl)) (fun _ _ _ h => h) (Or.inl ⟨by rfl, ?_⟩) ?_ ?_
                      rotate_left
                      ·intro w'; go_simp; with_reducible rfl
                      rotate_left
                      ·simp only [Act.put, List.setIfInBounds_toArray, List.set_cons_zero, List.set_cons_succ, i64_w, i32_w]; rfl
                      refine pure_ (i := 17) (N := some 136) (v := ?_) (a' := ?_) #[y_,y_,y_,y_,y_,y_,y_,y_,y_,y_,y_,y_,y_,y_,y_,y_,y_,y_,n_,n_,n_,n_,n_,n_,n_,n_,n_,n_,n_,n_,n_,n_,n_,n_,n_,n_,n_] rfl rfl (any_of HT_.out (by kernel_rfl)) (fun _ _ _ h => h) (Or.inl ⟨by rfl, ?_⟩) ?_ ?_
                      rotate_left
                      ·intro w'; go_simp; with_reducible rfl
                      rotate_left
                      ·simp only [Act.put, List.setIfInBounds_toArray, List.set_cons_zero, List.set_cons_succ, i64_w, i32_w]; rfl
                      refine pure_ (i := 18) (N := some 137) (v := ?_) (a' := ?_) #[y_,y_,y_,y_,y_,y_,y_,y_,y_,y_,y_,y_,y_,y_,y_,y_,y_,y_,y_,n_,n_,n_,n_,n_,n_,n_,n_,n_,n_,n_,n_,n_,n_,n_,n_,n_,n_] rfl rfl (any_of HT_.out (by kernel_rfl)) (fun _ _ _ h => h) (Or.inl ⟨by rfl, ?_⟩) ?_ ?_
                      rotate_left
                      ·intro w'; go_simp; with_reducible rfl
                      rotate_left
                      ·simp only [Act.put, List.setIfInBounds_toArray, List.set_cons_zero, List.set_cons_succ, i64_w, i32_w]; rfl
                      refine pure_ (i := 19) (N := some 138) (v := ?_) (a' := ?_) #[y_,y_,y_,y_,y_,y_,y_,y_,y_,y_,y_,y_,y_,y_,y_,y_,y_,y_,y_,y_,n_,n_,n_,n_,n_,n_,n_,n_,n_,n_,n_,n_,n_,n_,n_,n_,n_] rfl rfl (any_of HT_.out (by kernel_rfl)) (fun _ _ _ h => h) (Or.inl ⟨by rfl, ?_⟩) ?_ ?_
                      rotate_left
                      ·intro w'; go_simp; with_reducible rfl
                      rotate_left
                      ·simp only [Act.put, List.setIfInBounds_toArray, List.set_cons_zero, List.set_cons_succ, i64_w, i32_w]; rfl
                      refine pure_ (i := 20) (N := some 139) (v := ?_) (a' := ?_) #[y_,y_,y_,y_,y_,y_,y_,y_,y_,y_,y_,y_,y_,y_,y_,y_,y_,y_,y_,y_,y_,n_,n_,n_,n_,n_,n_,n_,n_,n_,n_,n_,n_,n_,n_,n_,n_] rfl rfl (any_of HT_.out (by kernel_rfl)) (fun _ _ _ h => h) (Or.inl ⟨by rfl, ?_⟩) ?_ ?_
                      rotate_left
                      ·intro w'; go_simp; with_reducible rfl
                      rotate_left
                      ·simp only [Act.put, List.setIfInBounds_toArray, List.set_cons_zero, List.set_cons_succ, i64_w, i32_w]; rfl
                      refine pure_ (i := 21) (N := some 140) (v := ?_) (a' := ?_) #[y_,y_,y_,y_,y_,y_,y_,y_,y_,y_,y_,y_,y_,y_,y_,y_,y_,y_,y_,y_,y_,y_,n_,n_,n_,n_,n_,n_,n_,n_,n_,n_,n_,n_,n_,n_,n_] rfl rfl (any_of HT_.out (by kernel_rfl)) (fun _ _ _ h => h) (Or.inl ⟨by rfl, ?_⟩) ?_ ?_
                      rotate_left
                      ·intro w'; go_simp; with_reducible rfl
                      rotate_left
                      ·simp only [Act.put, List.setIfInBounds_toArray, List.set_cons_zero, List.set_cons_succ, i64_w, i32_w]; rfl
                      refine pure_ (i := 23) (N := some 142) (v := ?_) (a' := ?_) #[y_,y_,y_,y_,y_,y_,y_,y_,y_,y_,y_,y_,y_,y_,y_,y_,y_,y_,y_,y_,y_,y_,n_,y_,n_,n_,n_,n_,n_,n_,n_,n_,n_,n_,n_,n_,n_] rfl rfl (any_of HT_.out (by kernel_rfl)) (fun _ _ _ h => h) (Or.inl ⟨by rfl, ?_⟩) ?_ ?_
                      rotate_left
                      ·intro w'; go_simp; with_reducible rfl
                      rotate_left
                      ·simp only [Act.put, List.setIfInBounds_toArray, List.set_cons_zero, List.set_cons_succ, i64_w, i32_w]; rfl
                      refine pure_ (i := 24) (N := some 143) (v := ?_) (a' := ?_) #[y_,y_,y_,y_,y_,y_,y_,y_,y_,y_,y_,y_,y_,y_,y_,y_,y_,y_,y_,y_,y_,y_,n_,y_,y_,n_,n_,n_,n_,n_,n_,n_,n_,n_,n_,n_,n_] rfl rfl (any_of HT_.out (by kernel_rfl)) (fun _ _ _ h => h) (Or.inl ⟨by rfl, ?_⟩) ?_ ?_
                      rotate_left
                      ·intro w'; go_simp; with_reducible rfl
                      rotate_left
                      ·simp only [Act.put, List.setIfInBounds_toArray, List.set_cons_zero, List.set_cons_succ, i64_w, i32_w]; rfl
                      refine pure_ (i := 25) (N := some 144) (v := ?_) (a' := ?_) #[y_,y_,y_,y_,y_,y_,y_,y_,y_,y_,y_,y_,y_,y_,y_,y_,y_,y_,y_,y_,y_,y_,n_,y_,y_,y_,n_,n_,n_,n_,n_,n_,n_,n_,n_,n_,n_] rfl rfl (any_of HT_.out (by kernel_rfl)) (fun _ _ _ h => h) (Or.inl ⟨by rfl, ?_⟩) ?_ ?_
                      rotate_left
                      ·intro w'; go_simp; with_reducible rfl
                      rotate_left
                      ·simp only [Act.put, List.setIfInBounds_toArray, List.set_cons_zero, List.set_cons_succ, i64_w, i32_w]; rfl
                      refine pure_ (i := 26) (N := some 145) (v := ?_) (a' := ?_) #[y_,y_,y_,y_,y_,y_,y_,y_,y_,y_,y_,y_,y_,y_,y_,y_,y_,y_,y_,y_,y_,y_,n_,y_,y_,y_,y_,n_,n_,n_,n_,n_,n_,n_,n_,n_,n_] rfl rfl (any_of HT_.out (by kernel_rfl)) (fun _ _ _ h => h) (Or.inl ⟨by rfl, ?_⟩) ?_ ?_
                      rotate_left
                      ·intro w'; go_simp; with_reducible rfl
                      rotate_left
                      ·simp only [Act.put, List.setIfInBounds_toArray, List.set_cons_zero, List.set_cons_succ, i64_w, i32_w]; rfl
                      refine pure_ (i := 27) (N := some 146) (v := ?_) (a' := ?_) #[y_,y_,y_,y_,y_,y_,y_,y_,y_,y_,y_,y_,y_,y_,y_,y_,y_,y_,y_,y_,y_,y_,n_,y_,y_,y_,y_,y_,n_,n_,n_,n_,n_,n_,n_,n_,n_] rfl rfl (any_of HT_.out (by kernel_rfl)) (fun _ _ _ h => h) (Or.inl ⟨by rfl, ?_⟩) ?_ ?_
                      rotate_left
                      ·intro w'; go_simp; with_reducible rfl
                      rotate_left
                      ·simp only [Act.put, List.setIfInBounds_toArray, List.set_cons_zero, List.set_cons_succ, i64_w, i32_w]; rfl
                      refine take_ (i := 22) (N := some 141) (v := ?_) (a' := ?_) #[y_,y_,y_,y_,y_,y_,y_,y_,y_,y_,y_,y_,y_,y_,y_,y_,y_,y_,y_,y_,y_,y_,y_,y_,y_,y_,y_,y_,n_,n_,n_,n_,n_,n_,n_,n_,n_] rfl rfl (take_ofW HT_.out HW_.out (by kernel_rfl)) (fun _ _ _ h => h) (Or.inl ⟨by rfl, ?_⟩) hHeld ?_ ?_
                      rotate_left
                      ·rintro w' ⟨s0, s1, s2, s3, s4, s5, s6, s7⟩; go_simp; with_reducible rfl
                      rotate_left
                      ·simp only [Act.put, List.setIfInBounds_toArray, List.set_cons_zero, List.set_cons_succ, i64_w, i32_w]; rfl
                      refine take_ (i := 28) (N := some 147) (v := ?_) (a' := ?_) #[y_,y_,y_,y_,y_,y_,y_,y_,y_,y_,y_,y_,y_,y_,y_,y_,y_,y_,y_,y_,y_,y_,y_,y_,y_,y_,y_,y_,y_,n_,n_,n_,n_,n_,n_,n_,n_] rfl rfl (take_ofW HT_.out HW_.out (by kernel_rfl)) (fun _ _ _ h => h) (Or.inl ⟨by rfl, ?_⟩) hHeld ?_ ?_
                      rotate_left
                      ·rintro w' ⟨s0, s1, s2, s3, s4, s5, s6, s7⟩; go_simp; with_reducible rfl
                      rotate_left
                      ·simp only [Act.put, List.setIfInBounds_toArray, List.set_cons_zero, List.set_cons_succ, i64_w, i32_w]; rfl
                      refine pure_ (i := 29) (N := some 148) (v := ?_) (a' := ?_) #[y_,y_,y_,y_,y_,y_,y_,y_,y_,y_,y_,y_,y_,y_,y_,y_,y_,y_,y_,y_,y_,y_,y_,y_,y_,y_,y_,y_,y_,y_,n_,n_,n_,n_,n_,n_,n_] rfl rfl (any_of HT_.out (by kernel_rfl)) (fun _ _ _ h => h) (Or.inl ⟨by rfl, ?_⟩) ?_ ?_
                      rotate_left
                      ·intro w'; go_simp; with_reducible rfl
                      rotate_left
                      ·simp only [Act.put, List.setIfInBounds_toArray, List.set_cons_zero, List.set_cons_succ, i64_w, i32_w]; rfl
                      refine pure_ (i := 30) (N := some 149) (v := ?_) (a' := ?_) #[y_,y_,y_,y_,y_,y_,y_,y_,y_,y_,y_,y_,y_,y_,y_,y_,y_,y_,y_,y_,y_,y_,y_,y_,y_,y_,y_,y_,y_,y_,y_,n_,n_,n_,n_,n_,n_] rfl rfl (any_of HT_.out (by kernel_rfl)) (fun _ _ _ h => h) (Or.inl ⟨by rfl, ?_⟩) ?_ ?_
                      rotate_left
                      ·intro w'; go_simp; with_reducible rfl
                      rotate_left
                      ·simp only [Act.put, List.setIfInBounds_toArray, List.set_cons_zero, List.set_cons_succ, i64_w, i32_w]; rfl
                      refine pure_ (i := 31) (N := some 150) (v := ?_) (a' := ?_) #[y_,y_,y_,y_,y_,y_,y_,y_,y_,y_,y_,y_,y_,y_,y_,y_,y_,y_,y_,y_,y_,y_,y_,y_,y_,y_,y_,y_,y_,y_,y_,y_,n_,n_,n_,n_,n_] rfl rfl (any_of HT_.out (by kernel_rfl)) (fun _ _ _ h => h) (Or.inl ⟨by rfl, ?_⟩) ?_ ?_
                      rotate_left
                      ·intro w'; go_simp; with_reducible rfl
                      rotate_left
                      ·simp only [Act.put, List.setIfInBounds_toArray, List.set_cons_zero, List.set_cons_succ, i64_w, i32_w]; rfl
                      refine pure_ (i := 32) (N := some 151) (v := ?_) (a' := ?_) #[y_,y_,y_,y_,y_,y_,y_,y_,y_,y_,y_,y_,y_,y_,y_,y_,y_,y_,y_,y_,y_,y_,y_,y_,y_,y_,y_,y_,y_,y_,y_,y_,y_,n_,n_,n_,n_] rfl rfl (any_of HT_.out (by kernel_rfl)) (fun _ _ _ h => h) (Or.inl ⟨by rfl, ?_⟩) ?_ ?_
                      rotate_left
                      ·intro w'; go_simp; with_reducible rfl
                      rotate_left
                      ·simp only [Act.put, List.setIfInBounds_toArray, List.set_cons_zero, List.set_cons_succ, i64_w, i32_w]; rfl
                      refine pure_ (i := 33) (N := some 152) (v := ?_) (a' := ?_) #[y_,y_,y_,y_,y_,y_,y_,y_,y_,y_,y_,y_,y_,y_,y_,y_,y_,y_,y_,y_,y_,y_,y_,y_,y_,y_,y_,y_,y_,y_,y_,y_,y_,y_,n_,n_,n_] rfl rfl (any_of HT_.out (by kernel_rfl)) (fun _ _ _ h => h) (Or.inl ⟨by rfl, ?_⟩) ?_ ?_
                      rotate_left
                      ·intro w'; go_simp; with_reducible rfl
                      rotate_left
                      ·simp only [Act.put, List.setIfInBounds_toArray, List.set_cons_zero, List.set_cons_succ, i64_w, i32_w]; rfl
                      refine one_ (i := 34) (N := some 153) #[y_,y_,y_,y_,y_,y_,y_,y_,y_,y_,y_,y_,y_,y_,y_,y_,y_,y_,y_,y_,y_,y_,y_,y_,y_,y_,y_,y_,y_,y_,y_,y_,y_,y_,y_,n_,n_] rfl rfl (one_of HT_.out (by kernel_rfl)) (by decide) (fun K hK => ?_); refine goes_ Try.func25 (by kernel_rfl) rfl #[.slice (some ad114) t101.length co8, .slice (some ad123) t108.length co66] (by rfl) rfl rfl (by (try simp only [List.map_toArray, List.map_cons, List.map_nil]); first | done | rfl | (simp only [List.length_drop, List.length_take]; rfl)) ?_
                      with_reducible refine (laws_luPart.calls kj47 _ _ t101 _ _ t108 t127 _ ?side1 ?side2 ?side3 ?side4 A64.out).mono ?_
                      (case side1 => repeat (first | exact (Kd.R_reads' HO_3.out).2.2 | (with_reducible refine Kd.C_alloc ?_ _) | (with_reducible refine Kd.C_drewN ?_ _) | (with_reducible refine Kd.C_drew ?_))); (case side2 => exact (Kd.R_reads' HO_3.out).2.1); (case side3 => repeat (first | exact (Kd.R_reads' HO_6.out).2.2 | (with_reducible refine Kd.C_alloc ?_ _) | (with_reducible refine Kd.C_drewN ?_ _) | (with_reducible refine Kd.C_drew ?_))); (case side4 => exact (Kd.R_reads' HO_6.out).2.1); rintro e w68 ⟨rfl, hb⟩; have HS0_ := (hb.cell (World.block_lt_of_cell? _ _ (hHeld.1))).trans (hHeld.1); have HS1_ := (hb.cell (World.block_lt_of_cell? _ _ (hHeld.2.1))).trans (hHeld.2.1); have HS2_ := (hb.cell (World.block_lt_of_cell? _ _ (hHeld.2.2.1))).trans (hHeld.2.2.1); have HS3_ := (hb.cell (World.block_lt_of_cell? _ _ (hHeld.2.2.2.1))).trans (hHeld.2.2.2.1); have HS4_ := (hb.cell (World.block_lt_of_cell? _ _ (hHeld.2.2.2.2.1))).trans (hHeld.2.2.2.2.1); have HS5_ := (hb.cell (World.block_lt_of_cell? _ _ (hHeld.2.2.2.2.2.1))).trans (hHeld.2.2.2.2.2.1); have HS6_ := (hb.cell (World.block_lt_of_cell? _ _ (hHeld.2.2.2.2.2.2.1))).trans (hHeld.2.2.2.2.2.2.1); have HS7_ := (hb.cell (World.block_lt_of_cell? _ _ (hHeld.2.2.2.2.2.2.2))).trans (hHeld.2.2.2.2.2.2.2); refine ⟨_, rfl, ?_⟩; have n0_ := Aside0.mk (Kd.R_below (by (with_reducible repeat (first | apply Kd.R_alloc | apply Kd.R_drewN | apply Kd.R_drew)); exact HO_3.out) hb); have n1_ := Aside0.mk (Kd.R_below (by (with_reducible repeat (first | apply Kd.R_alloc | apply Kd.R_drewN | apply Kd.R_drew)); exact HO_6.out) hb); have n2_ := Aside0.mk (below_step (by repeat (first | (with_reducible first | exact HB.out | apply below_alloc | apply pw_below_drewN | apply below_drew1) | exact HB.out)) hb); clear HO_3; clear HO_6; clear HB; have HO_3 := n0_; have HO_6 := n1_; have HB := n2_; clear n0_ n1_ n2_; (try clear hb); (try clear hb2); (try clear hk); (try clear hi); refine hK.out _ _ ⟨HS0_, HS1_, HS2_, HS3_, HS4_, HS5_, HS6_, HS7_⟩ (fun hHeld => ?_); clear hK K; refine norm_ (a' := ?_) ?_ ?_
                      rotate_left
                      ·show Act.put _ (some 153) _ = _
                       simp only [Act.put, List.setIfInBounds_toArray, List.set_cons_zero, List.set_cons_succ, i64_w, i32_w]; rfl
                      refine pure_ (i := 35) (N := some 154) (v := ?_) (a' := ?_) #[y_,y_,y_,y_,y_,y_,y_,y_,y_,y_,y_,y_,y_,y_,y_,y_,y_,y_,y_,y_,y_,y_,y_,y_,y_,y_,y_,y_,y_,y_,y_,y_,y_,y_,y_,y_,n_] rfl rfl (any_of HT_.out (by kernel_rfl)) (fun _ _ _ h => h) (Or.inl ⟨by rfl, ?_⟩) ?_ ?_
                      rotate_left
                      ·intro w'; go_simp; with_reducible rfl
                      rotate_left
                      ·simp only [Act.put, List.setIfInBounds_toArray, List.set_cons_zero, List.set_cons_succ, i64_w, i32_w]; rfl
                      refine pure_ (i := 36) (N := some 2) (v := ?_) (a' := ?_) #[y_,y_,y_,y_,y_,y_,y_,y_,y_,y_,y_,y_,y_,y_,y_,y_,y_,y_,y_,y_,y_,y_,y_,y_,y_,y_,y_,y_,y_,y_,y_,y_,y_,y_,y_,y_,y_] rfl rfl (any_of HT_.out (by kernel_rfl)) (fun _ _ _ h => h) (Or.inl ⟨by rfl, ?_⟩) ?_ ?_
                      rotate_left
                      ·intro w'; go_simp; with_reducible rfl
                      rotate_left
                      ·simp only [Act.put, List.setIfInBounds_toArray, List.set_cons_zero, List.set_cons_succ, i64_w, i32_w]; rfl
                      refine done_ (done_of HT_.out (by kernel_rfl)) ?_
                      try go_wp2
                      go_ret
                      exact ⟨by first | rfl | (simp [errW_none, errW_some] <;> rfl) | (simp only [← hji57, ← hji60]; first | rfl | (simp [errW_none, errW_some] <;> rfl)) | (simp [*, errW_none, errW_some] <;> rfl), by repeat (first | (with_reducible first | exact HB.out | apply below_alloc | apply pw_below_drewN | apply below_drew1) | exact HB.out)⟩
                     ·rw [if_neg c63] at H
                      have c63b0 : (((rd_T38 t108 (ji57)).f0) == ((rd_T38 t101 (ji60)).f0) && (((rd_T38 t108 (ji57)).f1) == ((rd_T38 t101 (ji60)).f1))) = false := by simpa using c63
                      (try (have c63b1 : decide (((rd_T38 t108 (ji57)).f0) = ((rd_T38 t101 (ji60)).f0) && (((rd_T38 t108 (ji57)).f1) == ((rd_T38 t101 (ji60)).f1))) = false := by simpa using c63)); (try (have c63b2 : (((rd_T38 t108 (ji57)).f0) == ((rd_T38 t101 (ji60)).f0) && (((rd_T38 t108 (ji57)).f1) == ((rd_T38 t101 (ji60)).f1))) = false := by simpa using c63)); (try (have c63b3 : ¬ (((rd_T38 t108 (ji57)).f0) = ((rd_T38 t101 (ji60)).f0) && (((rd_T38 t108 (ji57)).f1) == ((rd_T38 t101 (ji60)).f1))) := by simpa using c63)); clear c63; obtain rfl := Option.some.inj H
                      try go_wp2
                      have n0_ := Aside0.mk (Kd.R_drew HO_3.out); have n1_ := Aside0.mk (Kd.R_drew HO_6.out); have n2_ := Aside0.mk (below_drew1 HB.out); clear HO_3; clear HO_6; clear HB; have HO_3 := n0_; have HO_6 := n1_; have HB := n2_; clear n0_ n1_ n2_; obtain ⟨Ao70, co70, eo70⟩ := Kd.R_slice HO_6.out; (first | subst eo70 | (injection eo70 with f1_ f2_ f3_; have f4_ := f1_.symm; have f5_ := f3_.symm; clear f1_ f2_ f3_; subst f4_; subst f5_)); have p123 : 0 ≤ (0 : Int) := (by omega); have q123 : 0 < (t108.length : Int) := of_decide_eq_true (by first | (with_reducible assumption) | assumption); obtain ⟨ad123, e123, hx123_0, hx123_1⟩ := at_T38 (Kd.R_reads' HO_6.out).2.2 0 p123 q123
                      cases e123
                      have qi123 : (0 < t108.length) = True := eq_true (by omega); (try rw [show ((0 : Int)).toNat = 0 from rfl] at hx123_0); (try rw [show 0 * 2 = 0 from rfl] at hx123_0); (try rw [Addr.add_zero'] at hx123_0); (try rw [show ((0 : Int)).toNat = 0 from rfl] at hx123_1); (try rw [show 0 * 2 = 0 from rfl] at hx123_1); (try rw [Addr.add_zero'] at hx123_1); replace p123 := eq_true p123; replace q123 := eq_true q123; have p124 : 0 ≤ (0 : Int) := (by omega); have q124 : 0 < (t101.length : Int) := of_decide_eq_true (by first | (with_reducible assumption) | assumption); obtain ⟨ad124, e124, hx124_0, hx124_1⟩ := at_T38 (Kd.R_reads' HO_3.out).2.2 0 p124 q124; obtain rfl : ad114 = ad124 := (by injection e124); have qi124 : (0 < t101.length) = True := eq_true (by omega); (try rw [show ((0 : Int)).toNat = 0 from rfl] at hx124_0); (try rw [show 0 * 2 = 0 from rfl] at hx124_0); (try rw [Addr.add_zero'] at hx124_0); (try rw [show ((0 : Int)).toNat = 0 from rfl] at hx124_1); (try rw [show 0 * 2 = 0 from rfl] at hx124_1); (try rw [Addr.add_zero'] at hx124_1); replace p124 := eq_true p124; replace q124 := eq_true q124; have p125 : 0 ≤ ((ji57) : Int) := of_decide_eq_true (by first | (with_reducible assumption) | assumption); have q125 : (ji57) < (t108.length : Int) := of_decide_eq_true (by first | (with_reducible assumption) | assumption); obtain ⟨ad125, e125, hx125_0, hx125_1⟩ := at_T38 (Kd.R_reads' HO_6.out).2.2 (ji57) p125 q125; obtain rfl : ad123 = ad125 := (by injection e125); replace p125 := eq_true p125; replace q125 := eq_true q125; have p126 : 0 ≤ ((ji60) : Int) := of_decide_eq_true (by first | (with_reducible assumption) | assumption); have q126 : (ji60) < (t101.length : Int) := of_decide_eq_true (by first | (with_reducible assumption) | assumption); obtain ⟨ad126, e126, hx126_0, hx126_1⟩ := at_T38 (Kd.R_reads' HO_3.out).2.2 (ji60) p126 q126; obtain rfl : ad114 = ad126 := (by injection e126); replace p126 := eq_true p126; replace q126 := eq_true q126; refine start_ (n := 37) (S := fun w' => w'.cell? ad123 = some (.int .i64 ((rd_T38 t108 0).f0)) ∧ w'.cell? ⟨ad123.block, ad123.off + 1, none⟩ = some (.int .i64 ((rd_T38 t108 0).f1)) ∧ w'.cell? ad114 = some (.int .i64 ((rd_T38 t101 0).f0)) ∧ w'.cell? ⟨ad114.block, ad114.off + 1, none⟩ = some (.int .i64 ((rd_T38 t101 0).f1)) ∧ w'.cell? (ad123.add (((ji57)).toNat * 2)) = some (.int .i64 ((rd_T38 t108 (ji57)).f0)) ∧ w'.cell? ⟨(ad123.add (((ji57)).toNat * 2)).block, (ad123.add (((ji57)).toNat * 2)).off + 1, none⟩ = some (.int .i64 ((rd_T38 t108 (ji57)).f1)) ∧ w'.cell? (ad114.add (((ji60)).toNat * 2)) = some (.int .i64 ((rd_T38 t101 (ji60)).f0)) ∧ w'.cell? ⟨(ad114.add (((ji60)).toNat * 2)).block, (ad114.add (((ji60)).toNat * 2)).off + 1, none⟩ = some (.int .i64 ((rd_T38 t101 (ji60)).f1))) (ds := []) #[n_,n_,n_,n_,n_,n_,n_,n_,n_,n_,n_,n_,n_,n_,n_,n_,n_,n_,n_,n_,n_,n_,n_,n_,n_,n_,n_,n_,n_,n_,n_,n_,n_,n_,n_,n_,n_] (by kernel_rfl) rfl rfl ⟨hx123_0, hx123_1, hx124_0, hx124_1, hx125_0, hx125_1, hx126_0, hx126_1⟩ (fun hHeld => ?_); refine with_tabW laws_FnStay.tab19 laws_FnStay.bits19 (fun HT_ HW_ => ?_); generalize wc.drew = w69 at HO_3 HO_6 HB hx123_0 hx123_1 hx124_0 hx124_1 hx125_0 hx125_1 hx126_0 hx126_1 hHeld ⊢; refine pure_ (i := 0) (N := some 119) (v := ?_) (a' := ?_) #[y_,n_,n_,n_,n_,n_,n_,n_,n_,n_,n_,n_,n_,n_,n_,n_,n_,n_,n_,n_,n_,n_,n_,n_,n_,n_,n_,n_,n_,n_,n_,n_,n_,n_,n_,n_,n_] rfl rfl (any_of HT_.out (by kernel_rfl)) (fun _ _ _ h => h) (Or.inl ⟨by rfl, ?_⟩) ?_ ?_
                      rotate_left
                      ·intro w'; go_simp; with_reducible rfl
                      rotate_left
                      ·simp only [Act.put, List.setIfInBounds_toArray, List.set_cons_zero, List.set_cons_succ, i64_w, i32_w]; rfl
                      refine one_ (i := 1) (N := some 120) #[y_,y_,n_,n_,n_,n_,n_,n_,n_,n_,n_,n_,n_,n_,n_,n_,n_,n_,n_,n_,n_,n_,n_,n_,n_,n_,n_,n_,n_,n_,n_,n_,n_,n_,n_,n_,n_] rfl rfl (one_of HT_.out (by kernel_rfl)) (by decide) (fun K hK => ?_); refine goes_ Try.func24 (by kernel_rfl) rfl #[.slice (some ad123) t108.length co70] (by rfl) rfl rfl (by (try simp only [List.map_toArray, List.map_cons, List.map_nil]); first | done | rfl | (simp only [List.length_drop, List.length_take]; rfl)) ?_
                      with_reducible refine (laws_luPath.calls kj47 _ _ t108 true _ ?side1 ?side2 A51.out).mono ?_
                      (case side1 => repeat (first | exact (Kd.R_reads' HO_6.out).2.2 | (with_reducible refine Kd.C_alloc ?_ _) | (with_reducible refine Kd.C_drewN ?_ _) | (with_reducible refine Kd.C_drew ?_))); (case side2 => exact (Kd.R_reads' HO_6.out).2.1); rintro e w71 ⟨rfl, hb⟩; have HS0_ := (hb.cell (World.block_lt_of_cell? _ _ (hHeld.1))).trans (hHeld.1); have HS1_ := (hb.cell (World.block_lt_of_cell? _ _ (hHeld.2.1))).trans (hHeld.2.1); have HS2_ := (hb.cell (World.block_lt_of_cell? _ _ (hHeld.2.2.1))).trans (hHeld.2.2.1); have HS3_ := (hb.cell (World.block_lt_of_cell? _ _ (hHeld.2.2.2.1))).trans (hHeld.2.2.2.1); have HS4_ := (hb.cell (World.block_lt_of_cell? _ _ (hHeld.2.2.2.2.1))).trans (hHeld.2.2.2.2.1); have HS5_ := (hb.cell (World.block_lt_of_cell? _ _ (hHeld.2.2.2.2.2.1))).trans (hHeld.2.2.2.2.2.1); have HS6_ := (hb.cell (World.block_lt_of_cell? _ _ (hHeld.2.2.2.2.2.2.1))).trans (hHeld.2.2.2.2.2.2.1); have HS7_ := (hb.cell (World.block_lt_of_cell? _ _ (hHeld.2.2.2.2.2.2.2))).trans (hHeld.2.2.2.2.2.2.2); refine ⟨_, rfl, ?_⟩; have n0_ := Aside0.mk (Kd.R_below (by (with_reducible repeat (first | apply Kd.R_alloc | apply Kd.R_drewN | apply Kd.R_drew)); exact HO_3.out) hb); have n1_ := Aside0.mk (Kd.R_below (by (with_reducible repeat (first | apply Kd.R_alloc | apply Kd.R_drewN | apply Kd.R_drew)); exact HO_6.out) hb); have n2_ := Aside0.mk (below_step (by repeat (first | (with_reducible first | exact HB.out | apply below_alloc | apply pw_below_drewN | apply below_drew1) | exact HB.out)) hb); clear HO_3; clear HO_6; clear HB; have HO_3 := n0_; have HO_6 := n1_; have HB := n2_; clear n0_ n1_ n2_; (try clear hb); (try clear hb2); (try clear hk); (try clear hi); refine hK.out _ _ ⟨HS0_, HS1_, HS2_, HS3_, HS4_, HS5_, HS6_, HS7_⟩ (fun hHeld => ?_); clear hK K; refine norm_ (a' := ?_) ?_ ?_
                      rotate_left
                      ·show Act.put _ (some 120) _ = _
                       simp only [Act.put, List.setIfInBounds_toArray, List.set_cons_zero, List.set_cons_succ, i64_w, i32_w]; rfl
                      refine pure_ (i := 2) (N := some 121) (v := ?_) (a' := ?_) #[y_,y_,y_,n_,n_,n_,n_,n_,n_,n_,n_,n_,n_,n_,n_,n_,n_,n_,n_,n_,n_,n_,n_,n_,n_,n_,n_,n_,n_,n_,n_,n_,n_,n_,n_,n_,n_] rfl rfl (any_of HT_.out (by kernel_rfl)) (fun _ _ _ h => h) (Or.inl ⟨by rfl, ?_⟩) ?_ ?_
                      rotate_left
                      ·intro w'; go_simp; with_reducible rfl
                      rotate_left
                      ·simp only [Act.put, List.setIfInBounds_toArray, List.set_cons_zero, List.set_cons_succ, i64_w, i32_w]; rfl
                      refine pure_ (i := 3) (N := some 122) (v := ?_) (a' := ?_) #[y_,y_,y_,y_,n_,n_,n_,n_,n_,n_,n_,n_,n_,n_,n_,n_,n_,n_,n_,n_,n_,n_,n_,n_,n_,n_,n_,n_,n_,n_,n_,n_,n_,n_,n_,n_,n_] rfl rfl (any_of HT_.out (by kernel_rfl)) (fun _ _ _ h => h) (Or.inl ⟨by rfl, ?_⟩) ?_ ?_
                      rotate_left
                      ·intro w'; go_simp; with_reducible rfl
                      rotate_left
                      ·simp only [Act.put, List.setIfInBounds_toArray, List.set_cons_zero, List.set_cons_succ, i64_w, i32_w]; rfl
                      refine pure_ (i := 4) (N := some 123) (v := ?_) (a' := ?_) #[y_,y_,y_,y_,y_,n_,n_,n_,n_,n_,n_,n_,n_,n_,n_,n_,n_,n_,n_,n_,n_,n_,n_,n_,n_,n_,n_,n_,n_,n_,n_,n_,n_,n_,n_,n_,n_] rfl rfl (any_of HT_.out (by kernel_rfl)) (fun _ _ _ h => h) (Or.inl ⟨by rfl, ?_⟩) ?_ ?_
                      rotate_left
                      ·intro w'; go_simp; with_reducible rfl
                      rotate_left
                      ·simp only [Act.put, List.setIfInBounds_toArray, List.set_cons_zero, List.set_cons_succ, i64_w, i32_w]; rfl
                      refine pure_ (i := 5) (N := some 124) (v := ?_) (a' := ?_) #[y_,y_,y_,y_,y_,y_,n_,n_,n_,n_,n_,n_,n_,n_,n_,n_,n_,n_,n_,n_,n_,n_,n_,n_,n_,n_,n_,n_,n_,n_,n_,n_,n_,n_,n_,n_,n_] rfl rfl (any_of HT_.out (by kernel_rfl)) (fun _ _ _ h => h) (Or.inl ⟨by rfl, ?_⟩) ?_ ?_
                      rotate_left
                      ·intro w'; go_simp; with_reducible rfl
                      rotate_left
                      ·simp only [Act.put, List.setIfInBounds_toArray, List.set_cons_zero, List.set_cons_succ, i64_w, i32_w]; rfl
                      refine pure_ (i := 6) (N := some 125) (v := ?_) (a' := ?_) #[y_,y_,y_,y_,y_,y_,y_,n_,n_,n_,n_,n_,n_,n_,n_,n_,n_,n_,n_,n_,n_,n_,n_,n_,n_,n_,n_,n_,n_,n_,n_,n_,n_,n_,n_,n_,n_] rfl rfl (any_of HT_.out (by kernel_rfl)) (fun _ _ _ h => h) (Or.inl ⟨by rfl, ?_⟩) ?_ ?_
                      rotate_left
                      ·intro w'; go_simp; with_reducible rfl
                      rotate_left
                      ·simp only [Act.put, List.setIfInBounds_toArray, List.set_cons_zero, List.set_cons_succ, i64_w, i32_w]; rfl
                      refine pure_ (i := 7) (N := some 126) (v := ?_) (a' := ?_) #[y_,y_,y_,y_,y_,y_,y_,y_,n_,n_,n_,n_,n_,n_,n_,n_,n_,n_,n_,n_,n_,n_,n_,n_,n_,n_,n_,n_,n_,n_,n_,n_,n_,n_,n_,n_,n_] rfl rfl (any_of HT_.out (by kernel_rfl)) (fun _ _ _ h => h) (Or.inl ⟨by rfl, ?_⟩) ?_ ?_
                      rotate_left
                      ·intro w'; go_simp; with_reducible rfl
                      rotate_left
                      ·simp only [Act.put, List.setIfInBounds_toArray, List.set_cons_zero, List.set_cons_succ, i64_w, i32_w]; rfl
                      refine pure_ (i := 8) (N := some 127) (v := ?_) (a' := ?_) #[y_,y_,y_,y_,y_,y_,y_,y_,y_,n_,n_,n_,n_,n_,n_,n_,n_,n_,n_,n_,n_,n_,n_,n_,n_,n_,n_,n_,n_,n_,n_,n_,n_,n_,n_,n_,n_] rfl rfl (any_of HT_.out (by kernel_rfl)) (fun _ _ _ h => h) (Or.inl ⟨by rfl, ?_⟩) ?_ ?_
                      rotate_left
                      ·intro w'; go_simp; with_reducible rfl
                      rotate_left
                      ·simp only [Act.put, List.setIfInBounds_toArray, List.set_cons_zero, List.set_cons_succ, i64_w, i32_w]; rfl
                      refine pure_ (i := 9) (N := some 128) (v := ?_) (a' := ?_) #[y_,y_,y_,y_,y_,y_,y_,y_,y_,y_,n_,n_,n_,n_,n_,n_,n_,n_,n_,n_,n_,n_,n_,n_,n_,n_,n_,n_,n_,n_,n_,n_,n_,n_,n_,n_,n_] rfl rfl (any_of HT_.out (by kernel_rfl)) (fun _ _ _ h => h) (Or.inl ⟨by rfl, ?_⟩) ?_ ?_
                      rotate_left
                      ·intro w'; go_simp; with_reducible rfl
                      rotate_left
                      ·simp only [Act.put, List.setIfInBounds_toArray, List.set_cons_zero, List.set_cons_succ, i64_w, i32_w]; rfl
                      refine pure_ (i := 10) (N := some 129) (v := ?_) (a' := ?_) #[y_,y_,y_,y_,y_,y_,y_,y_,y_,y_,y_,n_,n_,n_,n_,n_,n_,n_,n_,n_,n_,n_,n_,n_,n_,n_,n_,n_,n_,n_,n_,n_,n_,n_,n_,n_,n_] rfl rfl (any_of HT_.out (by kernel_rfl)) (fun _ _ _ h => h) (Or.inl ⟨by rfl, ?_⟩) ?_ ?_
                      rotate_left
                      ·intro w'; go_simp; with_reducible rfl
                      rotate_left
                      ·simp only [Act.put, List.setIfInBounds_toArray, List.set_cons_zero, List.set_cons_succ, i64_w, i32_w]; rfl
                      refine pure_ (i := 12) (N := some 131) (v := ?_) (a' := ?_) #[y_,y_,y_,y_,y_,y_,y_,y_,y_,y_,y_,n_,y_,n_,n_,n_,n_,n_,n_,n_,n_,n_,n_,n_,n_,n_,n_,n_,n_,n_,n_,n_,n_,n_,n_,n_,n_] rfl rfl (any_of HT_.out (by kernel_rfl)) (fun _ _ _ h => h) (Or.inl ⟨by rfl, ?_⟩) ?_ ?_
                      rotate_left
                      ·intro w'; go_simp; with_reducible rfl
                      rotate_left
                      ·simp only [Act.put, List.setIfInBounds_toArray, List.set_cons_zero, List.set_cons_succ, i64_w, i32_w]; rfl
                      refine pure_ (i := 13) (N := some 132) (v := ?_) (a' := ?_) #[y_,y_,y_,y_,y_,y_,y_,y_,y_,y_,y_,n_,y_,y_,n_,n_,n_,n_,n_,n_,n_,n_,n_,n_,n_,n_,n_,n_,n_,n_,n_,n_,n_,n_,n_,n_,n_] rfl rfl (any_of HT_.out (by kernel_rfl)) (fun _ _ _ h => h) (Or.inl ⟨by rfl, ?_⟩) ?_ ?_
                      rotate_left
                      ·intro w'; go_simp; with_reducible rfl
                      rotate_left
                      ·simp only [Act.put, List.setIfInBounds_toArray, List.set_cons_zero, List.set_cons_succ, i64_w, i32_w]; rfl
                      refine take_ (i := 11) (N := some 130) (v := ?_) (a' := ?_) #[y_,y_,y_,y_,y_,y_,y_,y_,y_,y_,y_,y_,y_,y_,n_,n_,n_,n_,n_,n_,n_,n_,n_,n_,n_,n_,n_,n_,n_,n_,n_,n_,n_,n_,n_,n_,n_] rfl rfl (take_ofW HT_.out HW_.out (by kernel_rfl)) (fun _ _ _ h => h) (Or.inl ⟨by rfl, ?_⟩) hHeld ?_ ?_
                      rotate_left
                      ·rintro w' ⟨s0, s1, s2, s3, s4, s5, s6, s7⟩; go_simp; with_reducible rfl
                      rotate_left
                      ·simp only [Act.put, List.setIfInBounds_toArray, List.set_cons_zero, List.set_cons_succ, i64_w, i32_w]; rfl
                      refine take_ (i := 14) (N := some 133) (v := ?_) (a' := ?_) #[y_,y_,y_,y_,y_,y_,y_,y_,y_,y_,y_,y_,y_,y_,y_,n_,n_,n_,n_,n_,n_,n_,n_,n_,n_,n_,n_,n_,n_,n_,n_,n_,n_,n_,n_,n_,n_] rfl rfl (take_ofW HT_.out HW_.out (by kernel_rfl)) (fun _ _ _ h => h) (Or.inl ⟨by rfl, ?_⟩) hHeld ?_ ?_
                      rotate_left
                      ·rintro w' ⟨s0, s1, s2, s3, s4, s5, s6, s7⟩; go_simp; with_reducible rfl
                      rotate_left
                      ·simp only [Act.put, List.setIfInBounds_toArray, List.set_cons_zero, List.set_cons_succ, i64_w, i32_w]; rfl
                      refine pure_ (i := 15) (N := some 134) (v := ?_) (a' := ?_) #[y_,y_,y_,y_,y_,y_,y_,y_,y_,y_,y_,y_,y_,y_,y_,y_,n_,n_,n_,n_,n_,n_,n_,n_,n_,n_,n_,n_,n_,n_,n_,n_,n_,n_,n_,n_,n_] rfl rfl (any_of HT_.out (by kernel_rfl)) (fun _ _ _ h => h) (Or.inl ⟨by rfl, ?_⟩) ?_ ?_
                      rotate_left
                      ·intro w'; go_simp; with_reducible rfl
                      rotate_left
                      ·simp only [Act.put, List.setIfInBounds_toArray, List.set_cons_zero, List.set_cons_succ, i64_w, i32_w]; rfl
                      refine pure_ (i := 16) (N := some 135) (v := ?_) (a' := ?_) #[y_,y_,y_,y_,y_,y_,y_,y_,y_,y_,y_,y_,y_,y_,y_,y_,y_,n_,n_,n_,n_,n_,n_,n_,n_,n_,n_,n_,n_,n_,n_,n_,n_,n_,n_,n_,n_] rfl rfl (any_of HT_.out (by kernel_rfl)) (fun _ _ _ h => h) (Or.inl ⟨by rfl, ?_⟩) ?_ ?_
                      rotate_left
                      ·intro w'; go_simp; with_reducible rfl
                      rotate_left
                      ·simp only [Act.put, List.setIfInBounds_toArray, List.set_cons_zero, List.set_cons_succ, i64_w, i32_w]; rfl
                      refine pure_ (i := 17) (N := some 136) (v := ?_) (a' := ?_) #[y_,y_,y_,y_,y_,y_,y_,y_,y_,y_,y_,y_,y_,y_,y_,y_,y_,y_,n_,n_,n_,n_,n_,n_,n_,n_,n_,n_,n_,n_,n_,n_,n_,n_,n_,n_,n_] rfl rfl (any_of HT_.out (by kernel_rfl)) (fun _ _ _ h => h) (Or.inl ⟨by rfl, ?_⟩) ?_ ?_
                      rotate_left
                      ·intro w'; go_simp; with_reducible rfl
                      rotate_left
                      ·simp only [Act.put, List.setIfInBounds_toArray, List.set_cons_zero, List.set_cons_succ, i64_w, i32_w]; rfl
                      refine pure_ (i := 18) (N := some 137) (v := ?_) (a' := ?_) #[y_,y_,y_,y_,y_,y_,y_,y_,y_,y_,y_,y_,y_,y_,y_,y_,y_,y_,y_,n_,n_,n_,n_,n_,n_,n_,n_,n_,n_,n_,n_,n_,n_,n_,n_,n_,n_] rfl rfl (any_of HT_.out (by kernel_rfl)) (fun _ _ _ h => h) (Or.inl ⟨by rfl, ?_⟩) ?_ ?_
                      rotate_left
                      ·intro w'; go_simp; with_reducible rfl
                      rotate_left
                      ·simp only [Act.put, List.setIfInBounds_toArray, List.set_cons_zero, List.set_cons_succ, i64_w, i32_w]; rfl
                      refine pure_ (i := 19) (N := some 138) (v := ?_) (a' := ?_) #[y_,y_,y_,y_,y_,y_,y_,y_,y_,y_,y_,y_,y_,y_,y_,y_,y_,y_,y_,y_,n_,n_,n_,n_,n_,n_,n_,n_,n_,n_,n_,n_,n_,n_,n_,n_,n_] rfl rfl (any_of HT_.out (by kernel_rfl)) (fun _ _ _ h => h) (Or.inl ⟨by rfl, ?_⟩) ?_ ?_
                      rotate_left
                      ·intro w'; go_simp; with_reducible rfl
                      rotate_left
                      ·simp only [Act.put, List.setIfInBounds_toArray, List.set_cons_zero, List.set_cons_succ, i64_w, i32_w]; rfl
                      refine pure_ (i := 20) (N := some 139) (v := ?_) (a' := ?_) #[y_,y_,y_,y_,y_,y_,y_,y_,y_,y_,y_,y_,y_,y_,y_,y_,y_,y_,y_,y_,y_,n_,n_,n_,n_,n_,n_,n_,n_,n_,n_,n_,n_,n_,n_,n_,n_] rfl rfl (any_of HT_.out (by kernel_rfl)) (fun _ _ _ h => h) (Or.inl ⟨by rfl, ?_⟩) ?_ ?_
                      rotate_left
                      ·intro w'; go_simp; with_reducible rfl
                      rotate_left
                      ·simp only [Act.put, List.setIfInBounds_toArray, List.set_cons_zero, List.set_cons_succ, i64_w, i32_w]; rfl
                      refine pure_ (i := 21) (N := some 140) (v := ?_) (a' := ?_) #[y_,y_,y_,y_,y_,y_,y_,y_,y_,y_,y_,y_,y_,y_,y_,y_,y_,y_,y_,y_,y_,y_,n_,n_,n_,n_,n_,n_,n_,n_,n_,n_,n_,n_,n_,n_,n_] rfl rfl (any_of HT_.out (by kernel_rfl)) (fun _ _ _ h => h) (Or.inl ⟨by rfl, ?_⟩) ?_ ?_
                      rotate_left
                      ·intro w'; go_simp; with_reducible rfl
                      rotate_left
                      ·simp only [Act.put, List.setIfInBounds_toArray, List.set_cons_zero, List.set_cons_succ, i64_w, i32_w]; rfl
                      refine pure_ (i := 23) (N := some 142) (v := ?_) (a' := ?_) #[y_,y_,y_,y_,y_,y_,y_,y_,y_,y_,y_,y_,y_,y_,y_,y_,y_,y_,y_,y_,y_,y_,n_,y_,n_,n_,n_,n_,n_,n_,n_,n_,n_,n_,n_,n_,n_] rfl rfl (any_of HT_.out (by kernel_rfl)) (fun _ _ _ h => h) (Or.inl ⟨by rfl, ?_⟩) ?_ ?_
                      rotate_left
                      ·intro w'; go_simp; with_reducible rfl
                      rotate_left
                      ·simp only [Act.put, List.setIfInBounds_toArray, List.set_cons_zero, List.set_cons_succ, i64_w, i32_w]; rfl
                      refine pure_ (i := 24) (N := some 143) (v := ?_) (a' := ?_) #[y_,y_,y_,y_,y_,y_,y_,y_,y_,y_,y_,y_,y_,y_,y_,y_,y_,y_,y_,y_,y_,y_,n_,y_,y_,n_,n_,n_,n_,n_,n_,n_,n_,n_,n_,n_,n_] rfl rfl (any_of HT_.out (by kernel_rfl)) (fun _ _ _ h => h) (Or.inl ⟨by rfl, ?_⟩) ?_ ?_
                      rotate_left
                      ·intro w'; go_simp; with_reducible rfl
                      rotate_left
                      ·simp only [Act.put, List.setIfInBounds_toArray, List.set_cons_zero, List.set_cons_succ, i64_w, i32_w]; rfl
                      refine pure_ (i := 25) (N := some 144) (v := ?_) (a' := ?_) #[y_,y_,y_,y_,y_,y_,y_,y_,y_,y_,y_,y_,y_,y_,y_,y_,y_,y_,y_,y_,y_,y_,n_,y_,y_,y_,n_,n_,n_,n_,n_,n_,n_,n_,n_,n_,n_] rfl rfl (any_of HT_.out (by kernel_rfl)) (fun _ _ _ h => h) (Or.inl ⟨by rfl, ?_⟩) ?_ ?_
                      rotate_left
                      ·intro w'; go_simp; with_reducible rfl
                      rotate_left
                      ·simp only [Act.put, List.setIfInBounds_toArray, List.set_cons_zero, List.set_cons_succ, i64_w, i32_w]; rfl
                      refine pure_ (i := 26) (N := some 145) (v := ?_) (a' := ?_) #[y_,y_,y_,y_,y_,y_,y_,y_,y_,y_,y_,y_,y_,y_,y_,y_,y_,y_,y_,y_,y_,y_,n_,y_,y_,y_,y_,n_,n_,n_,n_,n_,n_,n_,n_,n_,n_] rfl rfl (any_of HT_.out (by kernel_rfl)) (fun _ _ _ h => h) (Or.inl ⟨by rfl, ?_⟩) ?_ ?_
                      rotate_left
                      ·intro w'; go_simp; with_reducible rfl
                      rotate_left
                      ·simp only [Act.put, List.setIfInBounds_toArray, List.set_cons_zero, List.set_cons_succ, i64_w, i32_w]; rfl
                      refine pure_ (i := 27) (N := some 146) (v := ?_) (a' := ?_) #[y_,y_,y_,y_,y_,y_,y_,y_,y_,y_,y_,y_,y_,y_,y_,y_,y_,y_,y_,y_,y_,y_,n_,y_,y_,y_,y_,y_,n_,n_,n_,n_,n_,n_,n_,n_,n_] rfl rfl (any_of HT_.out (by kernel_rfl)) (fun _ _ _ h => h) (Or.inl ⟨by rfl, ?_⟩) ?_ ?_
                      rotate_left
                      ·intro w'; go_simp; with_reducible rfl
                      rotate_left
                      ·simp only [Act.put, List.setIfInBounds_toArray, List.set_cons_zero, List.set_cons_succ, i64_w, i32_w]; rfl
                      refine take_ (i := 22) (N := some 141) (v := ?_) (a' := ?_) #[y_,y_,y_,y_,y_,y_,y_,y_,y_,y_,y_,y_,y_,y_,y_,y_,y_,y_,y_,y_,y_,y_,y_,y_,y_,y_,y_,y_,n_,n_,n_,n_,n_,n_,n_,n_,n_] rfl rfl (take_ofW HT_.out HW_.out (by kernel_rfl)) (fun _ _ _ h => h) (Or.inl ⟨by rfl, ?_⟩) hHeld ?_ ?_
                      rotate_left
                      ·rintro w' ⟨s0, s1, s2, s3, s4, s5, s6, s7⟩; go_simp; with_reducible rfl
                      rotate_left
                      ·simp only [Act.put, List.setIfInBounds_toArray, List.set_cons_zero, List.set_cons_succ, i64_w, i32_w]; rfl
                      refine take_ (i := 28) (N := some 147) (v := ?_) (a' := ?_) #[y_,y_,y_,y_,y_,y_,y_,y_,y_,y_,y_,y_,y_,y_,y_,y_,y_,y_,y_,y_,y_,y_,y_,y_,y_,y_,y_,y_,y_,n_,n_,n_,n_,n_,n_,n_,n_] rfl rfl (take_ofW HT_.out HW_.out (by kernel_rfl)) (fun _ _ _ h => h) (Or.inl ⟨by rfl, ?_⟩) hHeld ?_ ?_
                      rotate_left
                      ·rintro w' ⟨s0, s1, s2, s3, s4, s5, s6, s7⟩; go_simp; with_reducible rfl
                      rotate_left
                      ·simp only [Act.put, List.setIfInBounds_toArray, List.set_cons_zero, List.set_cons_succ, i64_w, i32_w]; rfl
                      refine pure_ (i := 29) (N := some 148) (v := ?_) (a' := ?_) #[y_,y_,y_,y_,y_,y_,y_,y_,y_,y_,y_,y_,y_,y_,y_,y_,y_,y_,y_,y_,y_,y_,y_,y_,y_,y_,y_,y_,y_,y_,n_,n_,n_,n_,n_,n_,n_] rfl rfl (any_of HT_.out (by kernel_rfl)) (fun _ _ _ h => h) (Or.inl ⟨by rfl, ?_⟩) ?_ ?_
                      rotate_left
                      ·intro w'; go_simp; with_reducible rfl
                      rotate_left
                      ·simp only [Act.put, List.setIfInBounds_toArray, List.set_cons_zero, List.set_cons_succ, i64_w, i32_w]; rfl
                      refine pure_ (i := 30) (N := some 149) (v := ?_) (a' := ?_) #[y_,y_,y_,y_,y_,y_,y_,y_,y_,y_,y_,y_,y_,y_,y_,y_,y_,y_,y_,y_,y_,y_,y_,y_,y_,y_,y_,y_,y_,y_,y_,n_,n_,n_,n_,n_,n_] rfl rfl (any_of HT_.out (by kernel_rfl)) (fun _ _ _ h => h) (Or.inl ⟨by rfl, ?_⟩) ?_ ?_
                      rotate_left
                      ·intro w'; go_simp; with_reducible rfl
                      rotate_left
                      ·simp only [Act.put, List.setIfInBounds_toArray, List.set_cons_zero, List.set_cons_succ, i64_w, i32_w]; rfl
                      refine pure_ (i := 31) (N := some 150) (v := ?_) (a' := ?_) #[y_,y_,y_,y_,y_,y_,y_,y_,y_,y_,y_,y_,y_,y_,y_,y_,y_,y_,y_,y_,y_,y_,y_,y_,y_,y_,y_,y_,y_,y_,y_,y_,n_,n_,n_,n_,n_] rfl rfl (any_of HT_.out (by kernel_rfl)) (fun _ _ _ h => h) (Or.inl ⟨by rfl, ?_⟩) ?_ ?_
                      rotate_left
                      ·intro w'; go_simp; with_reducible rfl
                      rotate_left
                      ·simp only [Act.put, List.setIfInBounds_toArray, List.set_cons_zero, List.set_cons_succ, i64_w, i32_w]; rfl
                      refine pure_ (i := 32) (N := some 151) (v := undef) (a' := ?_) #[y_,y_,y_,y_,y_,y_,y_,y_,y_,y_,y_,y_,y_,y_,y_,y_,y_,y_,y_,y_,y_,y_,y_,y_,y_,y_,y_,y_,y_,y_,y_,y_,y_,n_,n_,n_,n_] rfl rfl (any_of HT_.out (by kernel_rfl)) (fun _ _ _ h => h) (Or.inr ⟨by rfl, rfl⟩) ?_ ?_
                      rotate_left
                      ·simp only [Act.put, List.setIfInBounds_toArray, List.set_cons_zero, List.set_cons_succ, i64_w, i32_w]; rfl
                      refine pure_ (i := 33) (N := some 152) (v := undef) (a' := ?_) #[y_,y_,y_,y_,y_,y_,y_,y_,y_,y_,y_,y_,y_,y_,y_,y_,y_,y_,y_,y_,y_,y_,y_,y_,y_,y_,y_,y_,y_,y_,y_,y_,y_,y_,n_,n_,n_] rfl rfl (any_of HT_.out (by kernel_rfl)) (fun _ _ _ h => h) (Or.inr ⟨by rfl, rfl⟩) ?_ ?_
                      rotate_left
                      ·simp only [Act.put, List.setIfInBounds_toArray, List.set_cons_zero, List.set_cons_succ, i64_w, i32_w]; rfl
                      refine pure_ (i := 34) (N := some 153) (v := undef) (a' := ?_) #[y_,y_,y_,y_,y_,y_,y_,y_,y_,y_,y_,y_,y_,y_,y_,y_,y_,y_,y_,y_,y_,y_,y_,y_,y_,y_,y_,y_,y_,y_,y_,y_,y_,y_,y_,n_,n_] rfl rfl (any_of HT_.out (by kernel_rfl)) (fun _ _ _ h => h) (Or.inr ⟨by rfl, rfl⟩) ?_ ?_
                      rotate_left
                      ·simp only [Act.put, List.setIfInBounds_toArray, List.set_cons_zero, List.set_cons_succ, i64_w, i32_w]; rfl
                      refine pure_ (i := 35) (N := some 154) (v := ?_) (a' := ?_) #[y_,y_,y_,y_,y_,y_,y_,y_,y_,y_,y_,y_,y_,y_,y_,y_,y_,y_,y_,y_,y_,y_,y_,y_,y_,y_,y_,y_,y_,y_,y_,y_,y_,y_,y_,y_,n_] rfl rfl (any_of HT_.out (by kernel_rfl)) (fun _ _ _ h => h) (Or.inl ⟨by rfl, ?_⟩) ?_ ?_
                      rotate_left
                      ·intro w'; go_simp; with_reducible rfl
                      rotate_left
                      ·simp only [Act.put, List.setIfInBounds_toArray, List.set_cons_zero, List.set_cons_succ, i64_w, i32_w]; rfl
                      refine pure_ (i := 36) (N := some 2) (v := ?_) (a' := ?_) #[y_,y_,y_,y_,y_,y_,y_,y_,y_,y_,y_,y_,y_,y_,y_,y_,y_,y_,y_,y_,y_,y_,y_,y_,y_,y_,y_,y_,y_,y_,y_,y_,y_,y_,y_,y_,y_] rfl rfl (any_of HT_.out (by kernel_rfl)) (fun _ _ _ h => h) (Or.inl ⟨by rfl, ?_⟩) ?_ ?_
                      rotate_left
                      ·intro w'; go_simp; with_reducible rfl
                      rotate_left
                      ·simp only [Act.put, List.setIfInBounds_toArray, List.set_cons_zero, List.set_cons_succ, i64_w, i32_w]; rfl
                      refine done_ (done_of HT_.out (by kernel_rfl)) ?_
                      try go_wp2
                      go_ret
                      exact ⟨by first | rfl | (simp [errW_none, errW_some] <;> rfl) | (simp only [← hji57, ← hji60]; first | rfl | (simp [errW_none, errW_some] <;> rfl)) | (simp [*, errW_none, errW_some] <;> rfl), by repeat (first | (with_reducible first | exact HB.out | apply below_alloc | apply pw_below_drewN | apply below_drew1) | exact HB.out)⟩
                    ·rw [if_neg c62] at H; exact absurd H (by simp)
                   ·rw [if_neg c61] at H; exact absurd H (by simp)
                  ·rw [if_neg c59] at H; exact absurd H (by simp)
                 ·rw [if_neg c58] at H; exact absurd H (by simp)
                ·rw [if_neg c56] at H
                 have c56b0 : (((rd_T38 t108 0).f0) == ((rd_T38 t101 0).f0) && (((rd_T38 t108 0).f1) == ((rd_T38 t101 0).f1))) = false := by simpa using c56
                 (try (have c56b1 : decide (((rd_T38 t108 0).f0) = ((rd_T38 t101 0).f0) && (((rd_T38 t108 0).f1) == ((rd_T38 t101 0).f1))) = false := by simpa using c56)); (try (have c56b2 : (((rd_T38 t108 0).f0) == ((rd_T38 t101 0).f0) && (((rd_T38 t108 0).f1) == ((rd_T38 t101 0).f1))) = false := by simpa using c56)); (try (have c56b3 : ¬ (((rd_T38 t108 0).f0) = ((rd_T38 t101 0).f0) && (((rd_T38 t108 0).f1) == ((rd_T38 t101 0).f1))) := by simpa using c56)); clear c56; obtain rfl := Option.some.inj H
                 try go_wp2
                 have n0_ := Aside0.mk (Kd.R_drew HO_3.out); have n1_ := Aside0.mk (Kd.R_drew HO_6.out); have n2_ := Aside0.mk (below_drew1 HB.out); clear HO_3; clear HO_6; clear HB; have HO_3 := n0_; have HO_6 := n1_; have HB := n2_; clear n0_ n1_ n2_; obtain ⟨Ao73, co73, eo73⟩ := Kd.R_slice HO_6.out; (first | subst eo73 | (injection eo73 with f1_ f2_ f3_; have f4_ := f1_.symm; have f5_ := f3_.symm; clear f1_ f2_ f3_; subst f4_; subst f5_)); have p123 : 0 ≤ (0 : Int) := (by omega); have q123 : 0 < (t108.length : Int) := of_decide_eq_true (by first | (with_reducible assumption) | assumption); obtain ⟨ad123, e123, hx123_0, hx123_1⟩ := at_T38 (Kd.R_reads' HO_6.out).2.2 0 p123 q123
                 cases e123
                 have qi123 : (0 < t108.length) = True := eq_true (by omega); (try rw [show ((0 : Int)).toNat = 0 from rfl] at hx123_0); (try rw [show 0 * 2 = 0 from rfl] at hx123_0); (try rw [Addr.add_zero'] at hx123_0); (try rw [show ((0 : Int)).toNat = 0 from rfl] at hx123_1); (try rw [show 0 * 2 = 0 from rfl] at hx123_1); (try rw [Addr.add_zero'] at hx123_1); replace p123 := eq_true p123; replace q123 := eq_true q123; have p124 : 0 ≤ (0 : Int) := (by omega); have q124 : 0 < (t101.length : Int) := of_decide_eq_true (by first | (with_reducible assumption) | assumption); obtain ⟨ad124, e124, hx124_0, hx124_1⟩ := at_T38 (Kd.R_reads' HO_3.out).2.2 0 p124 q124; obtain rfl : ad114 = ad124 := (by injection e124); have qi124 : (0 < t101.length) = True := eq_true (by omega); (try rw [show ((0 : Int)).toNat = 0 from rfl] at hx124_0); (try rw [show 0 * 2 = 0 from rfl] at hx124_0); (try rw [Addr.add_zero'] at hx124_0); (try rw [show ((0 : Int)).toNat = 0 from rfl] at hx124_1); (try rw [show 0 * 2 = 0 from rfl] at hx124_1); (try rw [Addr.add_zero'] at hx124_1); replace p124 := eq_true p124; replace q124 := eq_true q124; refine start_ (n := 37) (S := fun w' => w'.cell? ad123 = some (.int .i64 ((rd_T38 t108 0).f0)) ∧ w'.cell? ⟨ad123.block, ad123.off + 1, none⟩ = some (.int .i64 ((rd_T38 t108 0).f1)) ∧ w'.cell? ad114 = some (.int .i64 ((rd_T38 t101 0).f0)) ∧ w'.cell? ⟨ad114.block, ad114.off + 1, none⟩ = some (.int .i64 ((rd_T38 t101 0).f1))) (ds := []) #[n_,n_,n_,n_,n_,n_,n_,n_,n_,n_,n_,n_,n_,n_,n_,n_,n_,n_,n_,n_,n_,n_,n_,n_,n_,n_,n_,n_,n_,n_,n_,n_,n_,n_,n_,n_,n_] (by kernel_rfl) rfl rfl ⟨hx123_0, hx123_1, hx124_0, hx124_1⟩ (fun hHeld => ?_); refine with_tabW laws_FnStay.tab19 laws_FnStay.bits19 (fun HT_ HW_ => ?_); generalize wc.drew = w72 at HO_3 HO_6 HB hx123_0 hx123_1 hx124_0 hx124_1 hHeld ⊢; refine pure_ (i := 0) (N := some 119) (v := ?_) (a' := ?_) #[y_,n_,n_,n_,n_,n_,n_,n_,n_,n_,n_,n_,n_,n_,n_,n_,n_,n_,n_,n_,n_,n_,n_,n_,n_,n_,n_,n_,n_,n_,n_,n_,n_,n_,n_,n_,n_] rfl rfl (any_of HT_.out (by kernel_rfl)) (fun _ _ _ h => h) (Or.inl ⟨by rfl, ?_⟩) ?_ ?_
                 rotate_left
                 ·intro w'; go_simp; with_reducible rfl
                 rotate_left
                 ·simp only [Act.put, List.setIfInBounds_toArray, List.set_cons_zero, List.set_cons_succ, i64_w, i32_w]; rfl
                 refine one_ (i := 1) (N := some 120) #[y_,y_,n_,n_,n_,n_,n_,n_,n_,n_,n_,n_,n_,n_,n_,n_,n_,n_,n_,n_,n_,n_,n_,n_,n_,n_,n_,n_,n_,n_,n_,n_,n_,n_,n_,n_,n_] rfl rfl (one_of HT_.out (by kernel_rfl)) (by decide) (fun K hK => ?_); refine goes_ Try.func24 (by kernel_rfl) rfl #[.slice (some ad123) t108.length co73] (by rfl) rfl rfl (by (try simp only [List.map_toArray, List.map_cons, List.map_nil]); first | done | rfl | (simp only [List.length_drop, List.length_take]; rfl)) ?_
                 with_reducible refine (laws_luPath.calls kj47 _ _ t108 true _ ?side1 ?side2 A51.out).mono ?_
                 (case side1 => repeat (first | exact (Kd.R_reads' HO_6.out).2.2 | (with_reducible refine Kd.C_alloc ?_ _) | (with_reducible refine Kd.C_drewN ?_ _) | (with_reducible refine Kd.C_drew ?_))); (case side2 => exact (Kd.R_reads' HO_6.out).2.1); rintro e w74 ⟨rfl, hb⟩; have HS0_ := (hb.cell (World.block_lt_of_cell? _ _ (hHeld.1))).trans (hHeld.1); have HS1_ := (hb.cell (World.block_lt_of_cell? _ _ (hHeld.2.1))).trans (hHeld.2.1); have HS2_ := (hb.cell (World.block_lt_of_cell? _ _ (hHeld.2.2.1))).trans (hHeld.2.2.1); have HS3_ := (hb.cell (World.block_lt_of_cell? _ _ (hHeld.2.2.2))).trans (hHeld.2.2.2); refine ⟨_, rfl, ?_⟩; have n0_ := Aside0.mk (Kd.R_below (by (with_reducible repeat (first | apply Kd.R_alloc | apply Kd.R_drewN | apply Kd.R_drew)); exact HO_3.out) hb); have n1_ := Aside0.mk (Kd.R_below (by (with_reducible repeat (first | apply Kd.R_alloc | apply Kd.R_drewN | apply Kd.R_drew)); exact HO_6.out) hb); have n2_ := Aside0.mk (below_step (by repeat (first | (with_reducible first | exact HB.out | apply below_alloc | apply pw_below_drewN | apply below_drew1) | exact HB.out)) hb); clear HO_3; clear HO_6; clear HB; have HO_3 := n0_; have HO_6 := n1_; have HB := n2_; clear n0_ n1_ n2_; (try clear hb); (try clear hb2); (try clear hk); (try clear hi); refine hK.out _ _ ⟨HS0_, HS1_, HS2_, HS3_⟩ (fun hHeld => ?_); clear hK K; refine norm_ (a' := ?_) ?_ ?_
                 rotate_left
                 ·show Act.put _ (some 120) _ = _
                  simp only [Act.put, List.setIfInBounds_toArray, List.set_cons_zero, List.set_cons_succ, i64_w, i32_w]; rfl
                 refine pure_ (i := 2) (N := some 121) (v := ?_) (a' := ?_) #[y_,y_,y_,n_,n_,n_,n_,n_,n_,n_,n_,n_,n_,n_,n_,n_,n_,n_,n_,n_,n_,n_,n_,n_,n_,n_,n_,n_,n_,n_,n_,n_,n_,n_,n_,n_,n_] rfl rfl (any_of HT_.out (by kernel_rfl)) (fun _ _ _ h => h) (Or.inl ⟨by rfl, ?_⟩) ?_ ?_
                 rotate_left
                 ·intro w'; go_simp; with_reducible rfl
                 rotate_left
                 ·simp only [Act.put, List.setIfInBounds_toArray, List.set_cons_zero, List.set_cons_succ, i64_w, i32_w]; rfl
                 refine pure_ (i := 3) (N := some 122) (v := ?_) (a' := ?_) #[y_,y_,y_,y_,n_,n_,n_,n_,n_,n_,n_,n_,n_,n_,n_,n_,n_,n_,n_,n_,n_,n_,n_,n_,n_,n_,n_,n_,n_,n_,n_,n_,n_,n_,n_,n_,n_] rfl rfl (any_of HT_.out (by kernel_rfl)) (fun _ _ _ h => h) (Or.inl ⟨by rfl, ?_⟩) ?_ ?_
                 rotate_left
                 ·intro w'; go_simp; with_reducible rfl
                 rotate_left
                 ·simp only [Act.put, List.setIfInBounds_toArray, List.set_cons_zero, List.set_cons_succ, i64_w, i32_w]; rfl
                 refine pure_ (i := 4) (N := some 123) (v := ?_) (a' := ?_) #[y_,y_,y_,y_,y_,n_,n_,n_,n_,n_,n_,n_,n_,n_,n_,n_,n_,n_,n_,n_,n_,n_,n_,n_,n_,n_,n_,n_,n_,n_,n_,n_,n_,n_,n_,n_,n_] rfl rfl (any_of HT_.out (by kernel_rfl)) (fun _ _ _ h => h) (Or.inl ⟨by rfl, ?_⟩) ?_ ?_
                 rotate_left
                 ·intro w'; go_simp; with_reducible rfl
                 rotate_left
                 ·simp only [Act.put, List.setIfInBounds_toArray, List.set_cons_zero, List.set_cons_succ, i64_w, i32_w]; rfl
                 refine pure_ (i := 5) (N := some 124) (v := ?_) (a' := ?_) #[y_,y_,y_,y_,y_,y_,n_,n_,n_,n_,n_,n_,n_,n_,n_,n_,n_,n_,n_,n_,n_,n_,n_,n_,n_,n_,n_,n_,n_,n_,n_,n_,n_,n_,n_,n_,n_] rfl rfl (any_of HT_.out (by kernel_rfl)) (fun _ _ _ h => h) (Or.inl ⟨by rfl, ?_⟩) ?_ ?_
                 rotate_left
                 ·intro w'; go_simp; with_reducible rfl
                 rotate_left
                 ·simp only [Act.put, List.setIfInBounds_toArray, List.set_cons_zero, List.set_cons_succ, i64_w, i32_w]; rfl
                 refine pure_ (i := 6) (N := some 125) (v := ?_) (a' := ?_) #[y_,y_,y_,y_,y_,y_,y_,n_,n_,n_,n_,n_,n_,n_,n_,n_,n_,n_,n_,n_,n_,n_,n_,n_,n_,n_,n_,n_,n_,n_,n_,n_,n_,n_,n_,n_,n_] rfl rfl (any_of HT_.out (by kernel_rfl)) (fun _ _ _ h => h) (Or.inl ⟨by rfl, ?_⟩) ?_ ?_
                 rotate_left
                 ·intro w'; go_simp; with_reducible rfl
                 rotate_left
                 ·simp only [Act.put, List.setIfInBounds_toArray, List.set_cons_zero, List.set_cons_succ, i64_w, i32_w]; rfl
                 refine pure_ (i := 7) (N := some 126) (v := ?_) (a' := ?_) #[y_,y_,y_,y_,y_,y_,y_,y_,n_,n_,n_,n_,n_,n_,n_,n_,n_,n_,n_,n_,n_,n_,n_,n_,n_,n_,n_,n_,n_,n_,n_,n_,n_,n_,n_,n_,n_] rfl rfl (any_of HT_.out (by kernel_rfl)) (fun _ _ _ h => h) (Or.inl ⟨by rfl, ?_⟩) ?_ ?_
                 rotate_left
                 ·intro w'; go_simp; with_reducible rfl
                 rotate_left
                 ·simp only [Act.put, List.setIfInBounds_toArray, List.set_cons_zero, List.set_cons_succ, i64_w, i32_w]; rfl
                 refine pure_ (i := 8) (N := some 127) (v := ?_) (a' := ?_) #[y_,y_,y_,y_,y_,y_,y_,y_,y_,n_,n_,n_,n_,n_,n_,n_,n_,n_,n_,n_,n_,n_,n_,n_,n_,n_,n_,n_,n_,n_,n_,n_,n_,n_,n_,n_,n_] rfl rfl (any_of HT_.out (by kernel_rfl)) (fun _ _ _ h => h) (Or.inl ⟨by rfl, ?_⟩) ?_ ?_
                 rotate_left
                 ·intro w'; go_simp; with_reducible rfl
                 rotate_left
                 ·simp only [Act.put, List.setIfInBounds_toArray, List.set_cons_zero, List.set_cons_succ, i64_w, i32_w]; rfl
                 refine pure_ (i := 9) (N := some 128) (v := ?_) (a' := ?_) #[y_,y_,y_,y_,y_,y_,y_,y_,y_,y_,n_,n_,n_,n_,n_,n_,n_,n_,n_,n_,n_,n_,n_,n_,n_,n_,n_,n_,n_,n_,n_,n_,n_,n_,n_,n_,n_] rfl rfl (any_of HT_.out (by kernel_rfl)) (fun _ _ _ h => h) (Or.inl ⟨by rfl, ?_⟩) ?_ ?_
                 rotate_left
                 ·intro w'; go_simp; with_reducible rfl
                 rotate_left
                 ·simp only [Act.put, List.setIfInBounds_toArray, List.set_cons_zero, List.set_cons_succ, i64_w, i32_w]; rfl
                 refine pure_ (i := 10) (N := some 129) (v := ?_) (a' := ?_) #[y_,y_,y_,y_,y_,y_,y_,y_,y_,y_,y_,n_,n_,n_,n_,n_,n_,n_,n_,n_,n_,n_,n_,n_,n_,n_,n_,n_,n_,n_,n_,n_,n_,n_,n_,n_,n_] rfl rfl (any_of HT_.out (by kernel_rfl)) (fun _ _ _ h => h) (Or.inl ⟨by rfl, ?_⟩) ?_ ?_
                 rotate_left
                 ·intro w'; go_simp; with_reducible rfl
                 rotate_left
                 ·simp only [Act.put, List.setIfInBounds_toArray, List.set_cons_zero, List.set_cons_succ, i64_w, i32_w]; rfl
                 refine pure_ (i := 12) (N := some 131) (v := ?_) (a' := ?_) #[y_,y_,y_,y_,y_,y_,y_,y_,y_,y_,y_,n_,y_,n_,n_,n_,n_,n_,n_,n_,n_,n_,n_,n_,n_,n_,n_,n_,n_,n_,n_,n_,n_,n_,n_,n_,n_] rfl rfl (any_of HT_.out (by kernel_rfl)) (fun _ _ _ h => h) (Or.inl ⟨by rfl, ?_⟩) ?_ ?_
                 rotate_left
                 ·intro w'; go_simp; with_reducible rfl
                 rotate_left
                 ·simp only [Act.put, List.setIfInBounds_toArray, List.set_cons_zero, List.set_cons_succ, i64_w, i32_w]; rfl
                 refine pure_ (i := 13) (N := some 132) (v := ?_) (a' := ?_) #[y_,y_,y_,y_,y_,y_,y_,y_,y_,y_,y_,n_,y_,y_,n_,n_,n_,n_,n_,n_,n_,n_,n_,n_,n_,n_,n_,n_,n_,n_,n_,n_,n_,n_,n_,n_,n_] rfl rfl (any_of HT_.out (by kernel_rfl)) (fun _ _ _ h => h) (Or.inl ⟨by rfl, ?_⟩) ?_ ?_
                 rotate_left
                 ·intro w'; go_simp; with_reducible rfl
                 rotate_left
                 ·simp only [Act.put, List.setIfInBounds_toArray, List.set_cons_zero, List.set_cons_succ, i64_w, i32_w]; rfl
                 refine take_ (i := 11) (N := some 130) (v := ?_) (a' := ?_) #[y_,y_,y_,y_,y_,y_,y_,y_,y_,y_,y_,y_,y_,y_,n_,n_,n_,n_,n_,n_,n_,n_,n_,n_,n_,n_,n_,n_,n_,n_,n_,n_,n_,n_,n_,n_,n_] rfl rfl (take_ofW HT_.out HW_.out (by kernel_rfl)) (fun _ _ _ h => h) (Or.inl ⟨by rfl, ?_⟩) hHeld ?_ ?_
                 rotate_left
                 ·rintro w' ⟨s0, s1, s2, s3⟩; go_simp; with_reducible rfl
                 rotate_left
                 ·simp only [Act.put, List.setIfInBounds_toArray, List.set_cons_zero, List.set_cons_succ, i64_w, i32_w]; rfl
                 refine take_ (i := 14) (N := some 133) (v := ?_) (a' := ?_) #[y_,y_,y_,y_,y_,y_,y_,y_,y_,y_,y_,y_,y_,y_,y_,n_,n_,n_,n_,n_,n_,n_,n_,n_,n_,n_,n_,n_,n_,n_,n_,n_,n_,n_,n_,n_,n_] rfl rfl (take_ofW HT_.out HW_.out (by kernel_rfl)) (fun _ _ _ h => h) (Or.inl ⟨by rfl, ?_⟩) hHeld ?_ ?_
                 rotate_left
                 ·rintro w' ⟨s0, s1, s2, s3⟩; go_simp; with_reducible rfl
                 rotate_left
                 ·simp only [Act.put, List.setIfInBounds_toArray, List.set_cons_zero, List.set_cons_succ, i64_w, i32_w]; rfl
                 refine pure_ (i := 15) (N := some 134) (v := ?_) (a' := ?_) #[y_,y_,y_,y_,y_,y_,y_,y_,y_,y_,y_,y_,y_,y_,y_,y_,n_,n_,n_,n_,n_,n_,n_,n_,n_,n_,n_,n_,n_,n_,n_,n_,n_,n_,n_,n_,n_] rfl rfl (any_of HT_.out (by kernel_rfl)) (fun _ _ _ h => h) (Or.inl ⟨by rfl, ?_⟩) ?_ ?_
                 rotate_left
                 ·intro w'; go_simp; with_reducible rfl
                 rotate_left
                 ·simp only [Act.put, List.setIfInBounds_toArray, List.set_cons_zero, List.set_cons_succ, i64_w, i32_w]; rfl
                 refine pure_ (i := 16) (N := some 135) (v := ?_) (a' := ?_) #[y_,y_,y_,y_,y_,y_,y_,y_,y_,y_,y_,y_,y_,y_,y_,y_,y_,n_,n_,n_,n_,n_,n_,n_,n_,n_,n_,n_,n_,n_,n_,n_,n_,n_,n_,n_,n_] rfl rfl (any_of HT_.out (by kernel_rfl)) (fun _ _ _ h => h) (Or.inl ⟨by rfl, ?_⟩) ?_ ?_
                 rotate_left
                 ·intro w'; go_simp; with_reducible rfl
                 rotate_left
                 ·simp only [Act.put, List.setIfInBounds_toArray, List.set_cons_zero, List.set_cons_succ, i64_w, i32_w]; rfl
                 refine pure_ (i := 17) (N := some 136) (v := ?_) (a' := ?_) #[y_,y_,y_,y_,y_,y_,y_,y_,y_,y_,y_,y_,y_,y_,y_,y_,y_,y_,n_,n_,n_,n_,n_,n_,n_,n_,n_,n_,n_,n_,n_,n_,n_,n_,n_,n_,n_] rfl rfl (any_of HT_.out (by kernel_rfl)) (fun _ _ _ h => h) (Or.inl ⟨by rfl, ?_⟩) ?_ ?_
                 rotate_left
                 ·intro w'; go_simp; with_reducible rfl
                 rotate_left
                 ·simp only [Act.put, List.setIfInBounds_toArray, List.set_cons_zero, List.set_cons_succ, i64_w, i32_w]; rfl
                 refine pure_ (i := 18) (N := some 137) (v := undef) (a' := ?_) #[y_,y_,y_,y_,y_,y_,y_,y_,y_,y_,y_,y_,y_,y_,y_,y_,y_,y_,y_,n_,n_,n_,n_,n_,n_,n_,n_,n_,n_,n_,n_,n_,n_,n_,n_,n_,n_] rfl rfl (any_of HT_.out (by kernel_rfl)) (fun _ _ _ h => h) (Or.inr ⟨by rfl, rfl⟩) ?_ ?_
                 rotate_left
                 ·simp only [Act.put, List.setIfInBounds_toArray, List.set_cons_zero, List.set_cons_succ, i64_w, i32_w]; rfl
                 refine pure_ (i := 19) (N := some 138) (v := undef) (a' := ?_) #[y_,y_,y_,y_,y_,y_,y_,y_,y_,y_,y_,y_,y_,y_,y_,y_,y_,y_,y_,y_,n_,n_,n_,n_,n_,n_,n_,n_,n_,n_,n_,n_,n_,n_,n_,n_,n_] rfl rfl (any_of HT_.out (by kernel_rfl)) (fun _ _ _ h => h) (Or.inr ⟨by rfl, rfl⟩) ?_ ?_
                 rotate_left
                 ·simp only [Act.put, List.setIfInBounds_toArray, List.set_cons_zero, List.set_cons_succ, i64_w, i32_w]; rfl
                 refine pure_ (i := 20) (N := some 139) (v := undef) (a' := ?_) #[y_,y_,y_,y_,y_,y_,y_,y_,y_,y_,y_,y_,y_,y_,y_,y_,y_,y_,y_,y_,y_,n_,n_,n_,n_,n_,n_,n_,n_,n_,n_,n_,n_,n_,n_,n_,n_] rfl rfl (any_of HT_.out (by kernel_rfl)) (fun _ _ _ h => h) (Or.inr ⟨by rfl, rfl⟩) ?_ ?_
                 rotate_left
                 ·simp only [Act.put, List.setIfInBounds_toArray, List.set_cons_zero, List.set_cons_succ, i64_w, i32_w]; rfl
                 refine pure_ (i := 21) (N := some 140) (v := undef) (a' := ?_) #[y_,y_,y_,y_,y_,y_,y_,y_,y_,y_,y_,y_,y_,y_,y_,y_,y_,y_,y_,y_,y_,y_,n_,n_,n_,n_,n_,n_,n_,n_,n_,n_,n_,n_,n_,n_,n_] rfl rfl (any_of HT_.out (by kernel_rfl)) (fun _ _ _ h => h) (Or.inr ⟨by rfl, rfl⟩) ?_ ?_
                 rotate_left
                 ·simp only [Act.put, List.setIfInBounds_toArray, List.set_cons_zero, List.set_cons_succ, i64_w, i32_w]; rfl
                 refine pure_ (i := 22) (N := some 141) (v := undef) (a' := ?_) #[y_,y_,y_,y_,y_,y_,y_,y_,y_,y_,y_,y_,y_,y_,y_,y_,y_,y_,y_,y_,y_,y_,y_,n_,n_,n_,n_,n_,n_,n_,n_,n_,n_,n_,n_,n_,n_] rfl rfl (any_of HT_.out (by kernel_rfl)) (fun _ _ _ h => h) (Or.inr ⟨by rfl, rfl⟩) ?_ ?_
                 rotate_left
                 ·simp only [Act.put, List.setIfInBounds_toArray, List.set_cons_zero, List.set_cons_succ, i64_w, i32_w]; rfl
                 refine pure_ (i := 23) (N := some 142) (v := undef) (a' := ?_) #[y_,y_,y_,y_,y_,y_,y_,y_,y_,y_,y_,y_,y_,y_,y_,y_,y_,y_,y_,y_,y_,y_,y_,y_,n_,n_,n_,n_,n_,n_,n_,n_,n_,n_,n_,n_,n_] rfl rfl (any_of HT_.out (by kernel_rfl)) (fun _ _ _ h => h) (Or.inr ⟨by rfl, rfl⟩) ?_ ?_
                 rotate_left
                 ·simp only [Act.put, List.setIfInBounds_toArray, List.set_cons_zero, List.set_cons_succ, i64_w, i32_w]; rfl
                 refine pure_ (i := 24) (N := some 143) (v := undef) (a' := ?_) #[y_,y_,y_,y_,y_,y_,y_,y_,y_,y_,y_,y_,y_,y_,y_,y_,y_,y_,y_,y_,y_,y_,y_,y_,y_,n_,n_,n_,n_,n_,n_,n_,n_,n_,n_,n_,n_] rfl rfl (any_of HT_.out (by kernel_rfl)) (fun _ _ _ h => h) (Or.inr ⟨by rfl, rfl⟩) ?_ ?_
                 rotate_left
                 ·simp only [Act.put, List.setIfInBounds_toArray, List.set_cons_zero, List.set_cons_succ, i64_w, i32_w]; rfl
                 refine pure_ (i := 25) (N := some 144) (v := undef) (a' := ?_) #[y_,y_,y_,y_,y_,y_,y_,y_,y_,y_,y_,y_,y_,y_,y_,y_,y_,y_,y_,y_,y_,y_,y_,y_,y_,y_,n_,n_,n_,n_,n_,n_,n_,n_,n_,n_,n_] rfl rfl (any_of HT_.out (by kernel_rfl)) (fun _ _ _ h => h) (Or.inr ⟨by rfl, rfl⟩) ?_ ?_
                 rotate_left
                 ·simp only [Act.put, List.setIfInBounds_toArray, List.set_cons_zero, List.set_cons_succ, i64_w, i32_w]; rfl
                 refine pure_ (i := 26) (N := some 145) (v := undef) (a' := ?_) #[y_,y_,y_,y_,y_,y_,y_,y_,y_,y_,y_,y_,y_,y_,y_,y_,y_,y_,y_,y_,y_,y_,y_,y_,y_,y_,y_,n_,n_,n_,n_,n_,n_,n_,n_,n_,n_] rfl rfl (any_of HT_.out (by kernel_rfl)) (fun _ _ _ h => h) (Or.inr ⟨by rfl, rfl⟩) ?_ ?_
                 rotate_left
                 ·simp only [Act.put, List.setIfInBounds_toArray, List.set_cons_zero, List.set_cons_succ, i64_w, i32_w]; rfl
                 refine pure_ (i := 27) (N := some 146) (v := undef) (a' := ?_) #[y_,y_,y_,y_,y_,y_,y_,y_,y_,y_,y_,y_,y_,y_,y_,y_,y_,y_,y_,y_,y_,y_,y_,y_,y_,y_,y_,y_,n_,n_,n_,n_,n_,n_,n_,n_,n_] rfl rfl (any_of HT_.out (by kernel_rfl)) (fun _ _ _ h => h) (Or.inr ⟨by rfl, rfl⟩) ?_ ?_
                 rotate_left
                 ·simp only [Act.put, List.setIfInBounds_toArray, List.set_cons_zero, List.set_cons_succ, i64_w, i32_w]; rfl
                 refine pure_ (i := 28) (N := some 147) (v := undef) (a' := ?_) #[y_,y_,y_,y_,y_,y_,y_,y_,y_,y_,y_,y_,y_,y_,y_,y_,y_,y_,y_,y_,y_,y_,y_,y_,y_,y_,y_,y_,y_,n_,n_,n_,n_,n_,n_,n_,n_] rfl rfl (any_of HT_.out (by kernel_rfl)) (fun _ _ _ h => h) (Or.inr ⟨by rfl, rfl⟩) ?_ ?_
                 rotate_left
                 ·simp only [Act.put, List.setIfInBounds_toArray, List.set_cons_zero, List.set_cons_succ, i64_w, i32_w]; rfl
                 refine pure_ (i := 29) (N := some 148) (v := undef) (a' := ?_) #[y_,y_,y_,y_,y_,y_,y_,y_,y_,y_,y_,y_,y_,y_,y_,y_,y_,y_,y_,y_,y_,y_,y_,y_,y_,y_,y_,y_,y_,y_,n_,n_,n_,n_,n_,n_,n_] rfl rfl (any_of HT_.out (by kernel_rfl)) (fun _ _ _ h => h) (Or.inr ⟨by rfl, rfl⟩) ?_ ?_
                 rotate_left
                 ·simp only [Act.put, List.setIfInBounds_toArray, List.set_cons_zero, List.set_cons_succ, i64_w, i32_w]; rfl
                 refine pure_ (i := 30) (N := some 149) (v := ?_) (a' := ?_) #[y_,y_,y_,y_,y_,y_,y_,y_,y_,y_,y_,y_,y_,y_,y_,y_,y_,y_,y_,y_,y_,y_,y_,y_,y_,y_,y_,y_,y_,y_,y_,n_,n_,n_,n_,n_,n_] rfl rfl (any_of HT_.out (by kernel_rfl)) (fun _ _ _ h => h) (Or.inl ⟨by rfl, ?_⟩) ?_ ?_
                 rotate_left
                 ·intro w'; go_simp; with_reducible rfl
                 rotate_left
                 ·simp only [Act.put, List.setIfInBounds_toArray, List.set_cons_zero, List.set_cons_succ, i64_w, i32_w]; rfl
                 refine pure_ (i := 31) (N := some 150) (v := ?_) (a' := ?_) #[y_,y_,y_,y_,y_,y_,y_,y_,y_,y_,y_,y_,y_,y_,y_,y_,y_,y_,y_,y_,y_,y_,y_,y_,y_,y_,y_,y_,y_,y_,y_,y_,n_,n_,n_,n_,n_] rfl rfl (any_of HT_.out (by kernel_rfl)) (fun _ _ _ h => h) (Or.inl ⟨by rfl, ?_⟩) ?_ ?_
                 rotate_left
                 ·intro w'; go_simp; with_reducible rfl
                 rotate_left
                 ·simp only [Act.put, List.setIfInBounds_toArray, List.set_cons_zero, List.set_cons_succ, i64_w, i32_w]; rfl
                 refine pure_ (i := 32) (N := some 151) (v := undef) (a' := ?_) #[y_,y_,y_,y_,y_,y_,y_,y_,y_,y_,y_,y_,y_,y_,y_,y_,y_,y_,y_,y_,y_,y_,y_,y_,y_,y_,y_,y_,y_,y_,y_,y_,y_,n_,n_,n_,n_] rfl rfl (any_of HT_.out (by kernel_rfl)) (fun _ _ _ h => h) (Or.inr ⟨by rfl, rfl⟩) ?_ ?_
                 rotate_left
                 ·simp only [Act.put, List.setIfInBounds_toArray, List.set_cons_zero, List.set_cons_succ, i64_w, i32_w]; rfl
                 refine pure_ (i := 33) (N := some 152) (v := undef) (a' := ?_) #[y_,y_,y_,y_,y_,y_,y_,y_,y_,y_,y_,y_,y_,y_,y_,y_,y_,y_,y_,y_,y_,y_,y_,y_,y_,y_,y_,y_,y_,y_,y_,y_,y_,y_,n_,n_,n_] rfl rfl (any_of HT_.out (by kernel_rfl)) (fun _ _ _ h => h) (Or.inr ⟨by rfl, rfl⟩) ?_ ?_
                 rotate_left
                 ·simp only [Act.put, List.setIfInBounds_toArray, List.set_cons_zero, List.set_cons_succ, i64_w, i32_w]; rfl
                 refine pure_ (i := 34) (N := some 153) (v := undef) (a' := ?_) #[y_,y_,y_,y_,y_,y_,y_,y_,y_,y_,y_,y_,y_,y_,y_,y_,y_,y_,y_,y_,y_,y_,y_,y_,y_,y_,y_,y_,y_,y_,y_,y_,y_,y_,y_,n_,n_] rfl rfl (any_of HT_.out (by kernel_rfl)) (fun _ _ _ h => h) (Or.inr ⟨by rfl, rfl⟩) ?_ ?_
                 rotate_left
                 ·simp only [Act.put, List.setIfInBounds_toArray, List.set_cons_zero, List.set_cons_succ, i64_w, i32_w]; rfl
                 refine pure_ (i := 35) (N := some 154) (v := ?_) (a' := ?_) #[y_,y_,y_,y_,y_,y_,y_,y_,y_,y_,y_,y_,y_,y_,y_,y_,y_,y_,y_,y_,y_,y_,y_,y_,y_,y_,y_,y_,y_,y_,y_,y_,y_,y_,y_,y_,n_] rfl rfl (any_of HT_.out (by kernel_rfl)) (fun _ _ _ h => h) (Or.inl ⟨by rfl, ?_⟩) ?_ ?_
                 rotate_left
                 ·intro w'; go_simp; with_reducible rfl
                 rotate_left
                 ·simp only [Act.put, List.setIfInBounds_toArray, List.set_cons_zero, List.set_cons_succ, i64_w, i32_w]; rfl
                 refine pure_ (i := 36) (N := some 2) (v := ?_) (a' := ?_) #[y_,y_,y_,y_,y_,y_,y_,y_,y_,y_,y_,y_,y_,y_,y_,y_,y_,y_,y_,y_,y_,y_,y_,y_,y_,y_,y_,y_,y_,y_,y_,y_,y_,y_,y_,y_,y_] rfl rfl (any_of HT_.out (by kernel_rfl)) (fun _ _ _ h => h) (Or.inl ⟨by rfl, ?_⟩) ?_ ?_
                 rotate_left
                 ·intro w'; go_simp; with_reducible rfl
                 rotate_left
                 ·simp only [Act.put, List.setIfInBounds_toArray, List.set_cons_zero, List.set_cons_succ, i64_w, i32_w]; rfl
                 refine done_ (done_of HT_.out (by kernel_rfl)) ?_
                 try go_wp2
                 go_ret
                 exact ⟨by first | rfl | (simp [errW_none, errW_some] <;> rfl) | (simp [*, errW_none, errW_some] <;> rfl), by repeat (first | (with_reducible first | exact HB.out | apply below_alloc | apply pw_below_drewN | apply below_drew1) | exact HB.out)⟩
               ·rw [if_neg c55] at H; exact absurd H (by simp)
              ·rw [if_neg c54] at H; exact absurd H (by simp)
             ·rw [if_neg c53] at H
              have c53b0 : ((t108.length : Int) == x9_2) = false := beq_eq_false_iff_ne.mpr c53; have c53b1 : ((t108.length : Int) != x9_2) = true := bne_iff_ne.mpr c53; obtain rfl := Option.some.inj H
              try go_wp2
              have n0_ := Aside0.mk (Kd.R_drew HO_3.out); have n1_ := Aside0.mk (Kd.R_drew HO_6.out); have n2_ := Aside0.mk (below_drew1 HB.out); clear HO_3; clear HO_6; clear HB; have HO_3 := n0_; have HO_6 := n1_; have HB := n2_; clear n0_ n1_ n2_; obtain ⟨Ao76, co76, eo76⟩ := Kd.R_slice HO_6.out; (first | subst eo76 | (injection eo76 with f1_ f2_ f3_; have f4_ := f1_.symm; have f5_ := f3_.symm; clear f1_ f2_ f3_; subst f4_; subst f5_)); refine start_ (n := 37) (S := fun w' => True) (ds := []) #[n_,n_,n_,n_,n_,n_,n_,n_,n_,n_,n_,n_,n_,n_,n_,n_,n_,n_,n_,n_,n_,n_,n_,n_,n_,n_,n_,n_,n_,n_,n_,n_,n_,n_,n_,n_,n_] (by kernel_rfl) rfl rfl trivial (fun hHeld => ?_); refine with_tabW laws_FnStay.tab19 laws_FnStay.bits19 (fun HT_ HW_ => ?_); generalize wc.drew = w75 at HO_3 HO_6 HB hHeld ⊢; refine pure_ (i := 0) (N := some 119) (v := ?_) (a' := ?_) #[y_,n_,n_,n_,n_,n_,n_,n_,n_,n_,n_,n_,n_,n_,n_,n_,n_,n_,n_,n_,n_,n_,n_,n_,n_,n_,n_,n_,n_,n_,n_,n_,n_,n_,n_,n_,n_] rfl rfl (any_of HT_.out (by kernel_rfl)) (fun _ _ _ h => h) (Or.inl ⟨by rfl, ?_⟩) ?_ ?_
              rotate_left
              ·intro w'; go_simp; with_reducible rfl
              rotate_left
              ·simp only [Act.put, List.setIfInBounds_toArray, List.set_cons_zero, List.set_cons_succ, i64_w, i32_w]; rfl
              refine one_ (i := 1) (N := some 120) #[y_,y_,n_,n_,n_,n_,n_,n_,n_,n_,n_,n_,n_,n_,n_,n_,n_,n_,n_,n_,n_,n_,n_,n_,n_,n_,n_,n_,n_,n_,n_,n_,n_,n_,n_,n_,n_] rfl rfl (one_of HT_.out (by kernel_rfl)) (by decide) (fun K hK => ?_); refine goes_ Try.func24 (by kernel_rfl) rfl #[.slice Ao76 t108.length co76] (by rfl) rfl rfl (by (try simp only [List.map_toArray, List.map_cons, List.map_nil]); first | done | rfl | (simp only [List.length_drop, List.length_take]; rfl)) ?_
              with_reducible refine (laws_luPath.calls kj47 _ _ t108 true _ ?side1 ?side2 A51.out).mono ?_
              (case side1 => repeat (first | exact (Kd.R_reads' HO_6.out).2.2 | (with_reducible refine Kd.C_alloc ?_ _) | (with_reducible refine Kd.C_drewN ?_ _) | (with_reducible refine Kd.C_drew ?_))); (case side2 => exact (Kd.R_reads' HO_6.out).2.1); rintro e w77 ⟨rfl, hb⟩; refine ⟨_, rfl, ?_⟩; have n0_ := Aside0.mk (Kd.R_below (by (with_reducible repeat (first | apply Kd.R_alloc | apply Kd.R_drewN | apply Kd.R_drew)); exact HO_3.out) hb); have n1_ := Aside0.mk (Kd.R_below (by (with_reducible repeat (first | apply Kd.R_alloc | apply Kd.R_drewN | apply Kd.R_drew)); exact HO_6.out) hb); have n2_ := Aside0.mk (below_step (by repeat (first | (with_reducible first | exact HB.out | apply below_alloc | apply pw_below_drewN | apply below_drew1) | exact HB.out)) hb); clear HO_3; clear HO_6; clear HB; have HO_3 := n0_; have HO_6 := n1_; have HB := n2_; clear n0_ n1_ n2_; (try clear hb); (try clear hb2); (try clear hk); (try clear hi); refine hK.out _ _ trivial (fun hHeld => ?_); clear hK K; refine norm_ (a' := ?_) ?_ ?_
              rotate_left
              ·show Act.put _ (some 120) _ = _
               simp only [Act.put, List.setIfInBounds_toArray, List.set_cons_zero, List.set_cons_succ, i64_w, i32_w]; rfl
              refine pure_ (i := 2) (N := some 121) (v := ?_) (a' := ?_) #[y_,y_,y_,n_,n_,n_,n_,n_,n_,n_,n_,n_,n_,n_,n_,n_,n_,n_,n_,n_,n_,n_,n_,n_,n_,n_,n_,n_,n_,n_,n_,n_,n_,n_,n_,n_,n_] rfl rfl (any_of HT_.out (by kernel_rfl)) (fun _ _ _ h => h) (Or.inl ⟨by rfl, ?_⟩) ?_ ?_
              rotate_left
              ·intro w'; go_simp; with_reducible rfl
              rotate_left
              ·simp only [Act.put, List.setIfInBounds_toArray, List.set_cons_zero, List.set_cons_succ, i64_w, i32_w]; rfl
              refine pure_ (i := 3) (N := some 122) (v := ?_) (a' := ?_) #[y_,y_,y_,y_,n_,n_,n_,n_,n_,n_,n_,n_,n_,n_,n_,n_,n_,n_,n_,n_,n_,n_,n_,n_,n_,n_,n_,n_,n_,n_,n_,n_,n_,n_,n_,n_,n_] rfl rfl (any_of HT_.out (by kernel_rfl)) (fun _ _ _ h => h) (Or.inl ⟨by rfl, ?_⟩) ?_ ?_
              rotate_left
              ·intro w'; go_simp; with_reducible rfl
              rotate_left
              ·simp only [Act.put, List.setIfInBounds_toArray, List.set_cons_zero, List.set_cons_succ, i64_w, i32_w]; rfl
              refine pure_ (i := 4) (N := some 123) (v := ?_) (a' := ?_) #[y_,y_,y_,y_,y_,n_,n_,n_,n_,n_,n_,n_,n_,n_,n_,n_,n_,n_,n_,n_,n_,n_,n_,n_,n_,n_,n_,n_,n_,n_,n_,n_,n_,n_,n_,n_,n_] rfl rfl (any_of HT_.out (by kernel_rfl)) (fun _ _ _ h => h) (Or.inl ⟨by rfl, ?_⟩) ?_ ?_
              rotate_left
              ·intro w'; go_simp; with_reducible rfl
              rotate_left
              ·simp only [Act.put, List.setIfInBounds_toArray, List.set_cons_zero, List.set_cons_succ, i64_w, i32_w]; rfl
              refine pure_ (i := 5) (N := some 124) (v := ?_) (a' := ?_) #[y_,y_,y_,y_,y_,y_,n_,n_,n_,n_,n_,n_,n_,n_,n_,n_,n_,n_,n_,n_,n_,n_,n_,n_,n_,n_,n_,n_,n_,n_,n_,n_,n_,n_,n_,n_,n_] rfl rfl (any_of HT_.out (by kernel_rfl)) (fun _ _ _ h => h) (Or.inl ⟨by rfl, ?_⟩) ?_ ?_
              rotate_left
              ·intro w'; go_simp; with_reducible rfl
              rotate_left
              ·simp only [Act.put, List.setIfInBounds_toArray, List.set_cons_zero, List.set_cons_succ, i64_w, i32_w]; rfl
              refine pure_ (i := 6) (N := some 125) (v := ?_) (a' := ?_) #[y_,y_,y_,y_,y_,y_,y_,n_,n_,n_,n_,n_,n_,n_,n_,n_,n_,n_,n_,n_,n_,n_,n_,n_,n_,n_,n_,n_,n_,n_,n_,n_,n_,n_,n_,n_,n_] rfl rfl (any_of HT_.out (by kernel_rfl)) (fun _ _ _ h => h) (Or.inl ⟨by rfl, ?_⟩) ?_ ?_
              rotate_left
              ·intro w'; go_simp; with_reducible rfl
              rotate_left
              ·simp only [Act.put, List.setIfInBounds_toArray, List.set_cons_zero, List.set_cons_succ, i64_w, i32_w]; rfl
              refine pure_ (i := 7) (N := some 126) (v := ?_) (a' := ?_) #[y_,y_,y_,y_,y_,y_,y_,y_,n_,n_,n_,n_,n_,n_,n_,n_,n_,n_,n_,n_,n_,n_,n_,n_,n_,n_,n_,n_,n_,n_,n_,n_,n_,n_,n_,n_,n_] rfl rfl (any_of HT_.out (by kernel_rfl)) (fun _ _ _ h => h) (Or.inl ⟨by rfl, ?_⟩) ?_ ?_
              rotate_left
              ·intro w'; go_simp; with_reducible rfl
              rotate_left
              ·simp only [Act.put, List.setIfInBounds_toArray, List.set_cons_zero, List.set_cons_succ, i64_w, i32_w]; rfl
              refine pure_ (i := 8) (N := some 127) (v := ?_) (a' := ?_) #[y_,y_,y_,y_,y_,y_,y_,y_,y_,n_,n_,n_,n_,n_,n_,n_,n_,n_,n_,n_,n_,n_,n_,n_,n_,n_,n_,n_,n_,n_,n_,n_,n_,n_,n_,n_,n_] rfl rfl (any_of HT_.out (by kernel_rfl)) (fun _ _ _ h => h) (Or.inl ⟨by rfl, ?_⟩) ?_ ?_
              rotate_left
              ·intro w'; go_simp; with_reducible rfl
              rotate_left
              ·simp only [Act.put, List.setIfInBounds_toArray, List.set_cons_zero, List.set_cons_succ, i64_w, i32_w]; rfl
              refine pure_ (i := 9) (N := some 128) (v := undef) (a' := ?_) #[y_,y_,y_,y_,y_,y_,y_,y_,y_,y_,n_,n_,n_,n_,n_,n_,n_,n_,n_,n_,n_,n_,n_,n_,n_,n_,n_,n_,n_,n_,n_,n_,n_,n_,n_,n_,n_] rfl rfl (any_of HT_.out (by kernel_rfl)) (fun _ _ _ h => h) (Or.inr ⟨by rfl, rfl⟩) ?_ ?_
              rotate_left
              ·simp only [Act.put, List.setIfInBounds_toArray, List.set_cons_zero, List.set_cons_succ, i64_w, i32_w]; rfl
              refine pure_ (i := 10) (N := some 129) (v := undef) (a' := ?_) #[y_,y_,y_,y_,y_,y_,y_,y_,y_,y_,y_,n_,n_,n_,n_,n_,n_,n_,n_,n_,n_,n_,n_,n_,n_,n_,n_,n_,n_,n_,n_,n_,n_,n_,n_,n_,n_] rfl rfl (any_of HT_.out (by kernel_rfl)) (fun _ _ _ h => h) (Or.inr ⟨by rfl, rfl⟩) ?_ ?_
              rotate_left
              ·simp only [Act.put, List.setIfInBounds_toArray, List.set_cons_zero, List.set_cons_succ, i64_w, i32_w]; rfl
              refine pure_ (i := 11) (N := some 130) (v := undef) (a' := ?_) #[y_,y_,y_,y_,y_,y_,y_,y_,y_,y_,y_,y_,n_,n_,n_,n_,n_,n_,n_,n_,n_,n_,n_,n_,n_,n_,n_,n_,n_,n_,n_,n_,n_,n_,n_,n_,n_] rfl rfl (any_of HT_.out (by kernel_rfl)) (fun _ _ _ h => h) (Or.inr ⟨by rfl, rfl⟩) ?_ ?_
              rotate_left
              ·simp only [Act.put, List.setIfInBounds_toArray, List.set_cons_zero, List.set_cons_succ, i64_w, i32_w]; rfl
              refine pure_ (i := 12) (N := some 131) (v := undef) (a' := ?_) #[y_,y_,y_,y_,y_,y_,y_,y_,y_,y_,y_,y_,y_,n_,n_,n_,n_,n_,n_,n_,n_,n_,n_,n_,n_,n_,n_,n_,n_,n_,n_,n_,n_,n_,n_,n_,n_] rfl rfl (any_of HT_.out (by kernel_rfl)) (fun _ _ _ h => h) (Or.inr ⟨by rfl, rfl⟩) ?_ ?_
              rotate_left
              ·simp only [Act.put, List.setIfInBounds_toArray, List.set_cons_zero, List.set_cons_succ, i64_w, i32_w]; rfl
              refine pure_ (i := 13) (N := some 132) (v := undef) (a' := ?_) #[y_,y_,y_,y_,y_,y_,y_,y_,y_,y_,y_,y_,y_,y_,n_,n_,n_,n_,n_,n_,n_,n_,n_,n_,n_,n_,n_,n_,n_,n_,n_,n_,n_,n_,n_,n_,n_] rfl rfl (any_of HT_.out (by kernel_rfl)) (fun _ _ _ h => h) (Or.inr ⟨by rfl, rfl⟩) ?_ ?_
              rotate_left
              ·simp only [Act.put, List.setIfInBounds_toArray, List.set_cons_zero, List.set_cons_succ, i64_w, i32_w]; rfl
              refine pure_ (i := 14) (N := some 133) (v := undef) (a' := ?_) #[y_,y_,y_,y_,y_,y_,y_,y_,y_,y_,y_,y_,y_,y_,y_,n_,n_,n_,n_,n_,n_,n_,n_,n_,n_,n_,n_,n_,n_,n_,n_,n_,n_,n_,n_,n_,n_] rfl rfl (any_of HT_.out (by kernel_rfl)) (fun _ _ _ h => h) (Or.inr ⟨by rfl, rfl⟩) ?_ ?_
              rotate_left
              ·simp only [Act.put, List.setIfInBounds_toArray, List.set_cons_zero, List.set_cons_succ, i64_w, i32_w]; rfl
              refine pure_ (i := 15) (N := some 134) (v := undef) (a' := ?_) #[y_,y_,y_,y_,y_,y_,y_,y_,y_,y_,y_,y_,y_,y_,y_,y_,n_,n_,n_,n_,n_,n_,n_,n_,n_,n_,n_,n_,n_,n_,n_,n_,n_,n_,n_,n_,n_] rfl rfl (any_of HT_.out (by kernel_rfl)) (fun _ _ _ h => h) (Or.inr ⟨by rfl, rfl⟩) ?_ ?_
              rotate_left
              ·simp only [Act.put, List.setIfInBounds_toArray, List.set_cons_zero, List.set_cons_succ, i64_w, i32_w]; rfl
              refine pure_ (i := 16) (N := some 135) (v := ?_) (a' := ?_) #[y_,y_,y_,y_,y_,y_,y_,y_,y_,y_,y_,y_,y_,y_,y_,y_,y_,n_,n_,n_,n_,n_,n_,n_,n_,n_,n_,n_,n_,n_,n_,n_,n_,n_,n_,n_,n_] rfl rfl (any_of HT_.out (by kernel_rfl)) (fun _ _ _ h => h) (Or.inl ⟨by rfl, ?_⟩) ?_ ?_
              rotate_left
              ·intro w'; go_simp; with_reducible rfl
              rotate_left
              ·simp only [Act.put, List.setIfInBounds_toArray, List.set_cons_zero, List.set_cons_succ, i64_w, i32_w]; rfl
              refine pure_ (i := 17) (N := some 136) (v := ?_) (a' := ?_) #[y_,y_,y_,y_,y_,y_,y_,y_,y_,y_,y_,y_,y_,y_,y_,y_,y_,y_,n_,n_,n_,n_,n_,n_,n_,n_,n_,n_,n_,n_,n_,n_,n_,n_,n_,n_,n_] rfl rfl (any_of HT_.out (by kernel_rfl)) (fun _ _ _ h => h) (Or.inl ⟨by rfl, ?_⟩) ?_ ?_
              rotate_left
              ·intro w'; go_simp; with_reducible rfl
              rotate_left
              ·simp only [Act.put, List.setIfInBounds_toArray, List.set_cons_zero, List.set_cons_succ, i64_w, i32_w]; rfl
              refine pure_ (i := 18) (N := some 137) (v := undef) (a' := ?_) #[y_,y_,y_,y_,y_,y_,y_,y_,y_,y_,y_,y_,y_,y_,y_,y_,y_,y_,y_,n_,n_,n_,n_,n_,n_,n_,n_,n_,n_,n_,n_,n_,n_,n_,n_,n_,n_] rfl rfl (any_of HT_.out (by kernel_rfl)) (fun _ _ _ h => h) (Or.inr ⟨by rfl, rfl⟩) ?_ ?_
              rotate_left
              ·simp only [Act.put, List.setIfInBounds_toArray, List.set_cons_zero, List.set_cons_succ, i64_w, i32_w]; rfl
              refine pure_ (i := 19) (N := some 138) (v := undef) (a' := ?_) #[y_,y_,y_,y_,y_,y_,y_,y_,y_,y_,y_,y_,y_,y_,y_,y_,y_,y_,y_,y_,n_,n_,n_,n_,n_,n_,n_,n_,n_,n_,n_,n_,n_,n_,n_,n_,n_] rfl rfl (any_of HT_.out (by kernel_rfl)) (fun _ _ _ h => h) (Or.inr ⟨by rfl, rfl⟩) ?_ ?_
              rotate_left
              ·simp only [Act.put, List.setIfInBounds_toArray, List.set_cons_zero, List.set_cons_succ, i64_w, i32_w]; rfl
              refine pure_ (i := 20) (N := some 139) (v := undef) (a' := ?_) #[y_,y_,y_,y_,y_,y_,y_,y_,y_,y_,y_,y_,y_,y_,y_,y_,y_,y_,y_,y_,y_,n_,n_,n_,n_,n_,n_,n_,n_,n_,n_,n_,n_,n_,n_,n_,n_] rfl rfl (any_of HT_.out (by kernel_rfl)) (fun _ _ _ h => h) (Or.inr ⟨by rfl, rfl⟩) ?_ ?_
              rotate_left
              ·simp only [Act.put, List.setIfInBounds_toArray, List.set_cons_zero, List.set_cons_succ, i64_w, i32_w]; rfl
              refine pure_ (i := 21) (N := some 140) (v := undef) (a' := ?_) #[y_,y_,y_,y_,y_,y_,y_,y_,y_,y_,y_,y_,y_,y_,y_,y_,y_,y_,y_,y_,y_,y_,n_,n_,n_,n_,n_,n_,n_,n_,n_,n_,n_,n_,n_,n_,n_] rfl rfl (any_of HT_.out (by kernel_rfl)) (fun _ _ _ h => h) (Or.inr ⟨by rfl, rfl⟩) ?_ ?_
              rotate_left
              ·simp only [Act.put, List.setIfInBounds_toArray, List.set_cons_zero, List.set_cons_succ, i64_w, i32_w]; rfl
              refine pure_ (i := 22) (N := some 141) (v := undef) (a' := ?_) #[y_,y_,y_,y_,y_,y_,y_,y_,y_,y_,y_,y_,y_,y_,y_,y_,y_,y_,y_,y_,y_,y_,y_,n_,n_,n_,n_,n_,n_,n_,n_,n_,n_,n_,n_,n_,n_] rfl rfl (any_of HT_.out (by kernel_rfl)) (fun _ _ _ h => h) (Or.inr ⟨by rfl, rfl⟩) ?_ ?_
              rotate_left
              ·simp only [Act.put, List.setIfInBounds_toArray, List.set_cons_zero, List.set_cons_succ, i64_w, i32_w]; rfl
              refine pure_ (i := 23) (N := some 142) (v := undef) (a' := ?_) #[y_,y_,y_,y_,y_,y_,y_,y_,y_,y_,y_,y_,y_,y_,y_,y_,y_,y_,y_,y_,y_,y_,y_,y_,n_,n_,n_,n_,n_,n_,n_,n_,n_,n_,n_,n_,n_] rfl rfl (any_of HT_.out (by kernel_rfl)) (fun _ _ _ h => h) (Or.inr ⟨by rfl, rfl⟩) ?_ ?_
              rotate_left
              ·simp only [Act.put, List.setIfInBounds_toArray, List.set_cons_zero, List.set_cons_succ, i64_w, i32_w]; rfl
              refine pure_ (i := 24) (N := some 143) (v := undef) (a' := ?_) #[y_,y_,y_,y_,y_,y_,y_,y_,y_,y_,y_,y_,y_,y_,y_,y_,y_,y_,y_,y_,y_,y_,y_,y_,y_,n_,n_,n_,n_,n_,n_,n_,n_,n_,n_,n_,n_] rfl rfl (any_of HT_.out (by kernel_rfl)) (fun _ _ _ h => h) (Or.inr ⟨by rfl, rfl⟩) ?_ ?_
              rotate_left
              ·simp only [Act.put, List.setIfInBounds_toArray, List.set_cons_zero, List.set_cons_succ, i64_w, i32_w]; rfl
              refine pure_ (i := 25) (N := some 144) (v := undef) (a' := ?_) #[y_,y_,y_,y_,y_,y_,y_,y_,y_,y_,y_,y_,y_,y_,y_,y_,y_,y_,y_,y_,y_,y_,y_,y_,y_,y_,n_,n_,n_,n_,n_,n_,n_,n_,n_,n_,n_] rfl rfl (any_of HT_.out (by kernel_rfl)) (fun _ _ _ h => h) (Or.inr ⟨by rfl, rfl⟩) ?_ ?_
              rotate_left
              ·simp only [Act.put, List.setIfInBounds_toArray, List.set_cons_zero, List.set_cons_succ, i64_w, i32_w]; rfl
              refine pure_ (i := 26) (N := some 145) (v := undef) (a' := ?_) #[y_,y_,y_,y_,y_,y_,y_,y_,y_,y_,y_,y_,y_,y_,y_,y_,y_,y_,y_,y_,y_,y_,y_,y_,y_,y_,y_,n_,n_,n_,n_,n_,n_,n_,n_,n_,n_] rfl rfl (any_of HT_.out (by kernel_rfl)) (fun _ _ _ h => h) (Or.inr ⟨by rfl, rfl⟩) ?_ ?_
              rotate_left
              ·simp only [Act.put, List.setIfInBounds_toArray, List.set_cons_zero, List.set_cons_succ, i64_w, i32_w]; rfl
              refine pure_ (i := 27) (N := some 146) (v := undef) (a' := ?_) #[y_,y_,y_,y_,y_,y_,y_,y_,y_,y_,y_,y_,y_,y_,y_,y_,y_,y_,y_,y_,y_,y_,y_,y_,y_,y_,y_,y_,n_,n_,n_,n_,n_,n_,n_,n_,n_] rfl rfl (any_of HT_.out (by kernel_rfl)) (fun _ _ _ h => h) (Or.inr ⟨by rfl, rfl⟩) ?_ ?_
              rotate_left
              ·simp only [Act.put, List.setIfInBounds_toArray, List.set_cons_zero, List.set_cons_succ, i64_w, i32_w]; rfl
              refine pure_ (i := 28) (N := some 147) (v := undef) (a' := ?_) #[y_,y_,y_,y_,y_,y_,y_,y_,y_,y_,y_,y_,y_,y_,y_,y_,y_,y_,y_,y_,y_,y_,y_,y_,y_,y_,y_,y_,y_,n_,n_,n_,n_,n_,n_,n_,n_] rfl rfl (any_of HT_.out (by kernel_rfl)) (fun _ _ _ h => h) (Or.inr ⟨by rfl, rfl⟩) ?_ ?_
              rotate_left
              ·simp only [Act.put, List.setIfInBounds_toArray, List.set_cons_zero, List.set_cons_succ, i64_w, i32_w]; rfl
              refine pure_ (i := 29) (N := some 148) (v := undef) (a' := ?_) #[y_,y_,y_,y_,y_,y_,y_,y_,y_,y_,y_,y_,y_,y_,y_,y_,y_,y_,y_,y_,y_,y_,y_,y_,y_,y_,y_,y_,y_,y_,n_,n_,n_,n_,n_,n_,n_] rfl rfl (any_of HT_.out (by kernel_rfl)) (fun _ _ _ h => h) (Or.inr ⟨by rfl, rfl⟩) ?_ ?_
              rotate_left
              ·simp only [Act.put, List.setIfInBounds_toArray, List.set_cons_zero, List.set_cons_succ, i64_w, i32_w]; rfl
              refine pure_ (i := 30) (N := some 149) (v := ?_) (a' := ?_) #[y_,y_,y_,y_,y_,y_,y_,y_,y_,y_,y_,y_,y_,y_,y_,y_,y_,y_,y_,y_,y_,y_,y_,y_,y_,y_,y_,y_,y_,y_,y_,n_,n_,n_,n_,n_,n_] rfl rfl (any_of HT_.out (by kernel_rfl)) (fun _ _ _ h => h) (Or.inl ⟨by rfl, ?_⟩) ?_ ?_
              rotate_left
              ·intro w'; go_simp; with_reducible rfl
              rotate_left
              ·simp only [Act.put, List.setIfInBounds_toArray, List.set_cons_zero, List.set_cons_succ, i64_w, i32_w]; rfl
              refine pure_ (i := 31) (N := some 150) (v := ?_) (a' := ?_) #[y_,y_,y_,y_,y_,y_,y_,y_,y_,y_,y_,y_,y_,y_,y_,y_,y_,y_,y_,y_,y_,y_,y_,y_,y_,y_,y_,y_,y_,y_,y_,y_,n_,n_,n_,n_,n_] rfl rfl (any_of HT_.out (by kernel_rfl)) (fun _ _ _ h => h) (Or.inl ⟨by rfl, ?_⟩) ?_ ?_
              rotate_left
              ·intro w'; go_simp; with_reducible rfl
              rotate_left
              ·simp only [Act.put, List.setIfInBounds_toArray, List.set_cons_zero, List.set_cons_succ, i64_w, i32_w]; rfl
              refine pure_ (i := 32) (N := some 151) (v := undef) (a' := ?_) #[y_,y_,y_,y_,y_,y_,y_,y_,y_,y_,y_,y_,y_,y_,y_,y_,y_,y_,y_,y_,y_,y_,y_,y_,y_,y_,y_,y_,y_,y_,y_,y_,y_,n_,n_,n_,n_] rfl rfl (any_of HT_.out (by kernel_rfl)) (fun _ _ _ h => h) (Or.inr ⟨by rfl, rfl⟩) ?_ ?_
              rotate_left
              ·simp only [Act.put, List.setIfInBounds_toArray, List.set_cons_zero, List.set_cons_succ, i64_w, i32_w]; rfl
              refine pure_ (i := 33) (N := some 152) (v := undef) (a' := ?_) #[y_,y_,y_,y_,y_,y_,y_,y_,y_,y_,y_,y_,y_,y_,y_,y_,y_,y_,y_,y_,y_,y_,y_,y_,y_,y_,y_,y_,y_,y_,y_,y_,y_,y_,n_,n_,n_] rfl rfl (any_of HT_.out (by kernel_rfl)) (fun _ _ _ h => h) (Or.inr ⟨by rfl, rfl⟩) ?_ ?_
              rotate_left
              ·simp only [Act.put, List.setIfInBounds_toArray, List.set_cons_zero, List.set_cons_succ, i64_w, i32_w]; rfl
              refine pure_ (i := 34) (N := some 153) (v := undef) (a' := ?_) #[y_,y_,y_,y_,y_,y_,y_,y_,y_,y_,y_,y_,y_,y_,y_,y_,y_,y_,y_,y_,y_,y_,y_,y_,y_,y_,y_,y_,y_,y_,y_,y_,y_,y_,y_,n_,n_] rfl rfl (any_of HT_.out (by kernel_rfl)) (fun _ _ _ h => h) (Or.inr ⟨by rfl, rfl⟩) ?_ ?_
              rotate_left
              ·simp only [Act.put, List.setIfInBounds_toArray, List.set_cons_zero, List.set_cons_succ, i64_w, i32_w]; rfl
              refine pure_ (i := 35) (N := some 154) (v := ?_) (a' := ?_) #[y_,y_,y_,y_,y_,y_,y_,y_,y_,y_,y_,y_,y_,y_,y_,y_,y_,y_,y_,y_,y_,y_,y_,y_,y_,y_,y_,y_,y_,y_,y_,y_,y_,y_,y_,y_,n_] rfl rfl (any_of HT_.out (by kernel_rfl)) (fun _ _ _ h => h) (Or.inl ⟨by rfl, ?_⟩) ?_ ?_
              rotate_left
              ·intro w'; go_simp; with_reducible rfl
              rotate_left
              ·simp only [Act.put, List.setIfInBounds_toArray, List.set_cons_zero, List.set_cons_succ, i64_w, i32_w]; rfl
              refine pure_ (i := 36) (N := some 2) (v := ?_) (a' := ?_) #[y_,y_,y_,y_,y_,y_,y_,y_,y_,y_,y_,y_,y_,y_,y_,y_,y_,y_,y_,y_,y_,y_,y_,y_,y_,y_,y_,y_,y_,y_,y_,y_,y_,y_,y_,y_,y_] rfl rfl (any_of HT_.out (by kernel_rfl)) (fun _ _ _ h => h) (Or.inl ⟨by rfl, ?_⟩) ?_ ?_
              rotate_left
              ·intro w'; go_simp; with_reducible rfl
              rotate_left
              ·simp only [Act.put, List.setIfInBounds_toArray, List.set_cons_zero, List.set_cons_succ, i64_w, i32_w]; rfl
              refine done_ (done_of HT_.out (by kernel_rfl)) ?_
              try go_wp2
              go_ret
              exact ⟨by first | rfl | (simp [errW_none, errW_some] <;> rfl) | (simp [*, errW_none, errW_some] <;> rfl), by repeat (first | (with_reducible first | exact HB.out | apply below_alloc | apply pw_below_drewN | apply below_drew1) | exact HB.out)⟩
            ·replace c52 := Bool.eq_false_iff.mpr c52
             subst c52
             have H1 : (some false) = some r := by rw [if_neg (show ¬ (false = true) by decide)] at H; exact H
             clear H; have H := H1; clear H1; obtain rfl := Option.some.inj H
             try go_wp2
             have n0_ := Aside0.mk (Kd.R_drew HO_3.out); have n1_ := Aside0.mk (Kd.R_drew HO_6.out); have n2_ := Aside0.mk (below_drew1 HB.out); clear HO_3; clear HO_6; clear HB; have HO_3 := n0_; have HO_6 := n1_; have HB := n2_; clear n0_ n1_ n2_; obtain ⟨Ao79, co79, eo79⟩ := Kd.R_slice HO_6.out; (first | subst eo79 | (injection eo79 with f1_ f2_ f3_; have f4_ := f1_.symm; have f5_ := f3_.symm; clear f1_ f2_ f3_; subst f4_; subst f5_)); refine start_ (n := 37) (S := fun w' => True) (ds := []) #[n_,n_,n_,n_,n_,n_,n_,n_,n_,n_,n_,n_,n_,n_,n_,n_,n_,n_,n_,n_,n_,n_,n_,n_,n_,n_,n_,n_,n_,n_,n_,n_,n_,n_,n_,n_,n_] (by kernel_rfl) rfl rfl trivial (fun hHeld => ?_); refine with_tabW laws_FnStay.tab19 laws_FnStay.bits19 (fun HT_ HW_ => ?_); generalize wc.drew = w78 at HO_3 HO_6 HB hHeld ⊢; refine pure_ (i := 0) (N := some 119) (v := ?_) (a' := ?_) #[y_,n_,n_,n_,n_,n_,n_,n_,n_,n_,n_,n_,n_,n_,n_,n_,n_,n_,n_,n_,n_,n_,n_,n_,n_,n_,n_,n_,n_,n_,n_,n_,n_,n_,n_,n_,n_] rfl rfl (any_of HT_.out (by kernel_rfl)) (fun _ _ _ h => h) (Or.inl ⟨by rfl, ?_⟩) ?_ ?_
             rotate_left
             ·intro w'; go_simp; with_reducible rfl
             rotate_left
             ·simp only [Act.put, List.setIfInBounds_toArray, List.set_cons_zero, List.set_cons_succ, i64_w, i32_w]; rfl
             refine one_ (i := 1) (N := some 120) #[y_,y_,n_,n_,n_,n_,n_,n_,n_,n_,n_,n_,n_,n_,n_,n_,n_,n_,n_,n_,n_,n_,n_,n_,n_,n_,n_,n_,n_,n_,n_,n_,n_,n_,n_,n_,n_] rfl rfl (one_of HT_.out (by kernel_rfl)) (by decide) (fun K hK => ?_); refine goes_ Try.func24 (by kernel_rfl) rfl #[.slice Ao79 t108.length co79] (by rfl) rfl rfl (by (try simp only [List.map_toArray, List.map_cons, List.map_nil]); first | done | rfl | (simp only [List.length_drop, List.length_take]; rfl)) ?_
             with_reducible refine (laws_luPath.calls kj47 _ _ t108 false _ ?side1 ?side2 A51.out).mono ?_
             (case side1 => repeat (first | exact (Kd.R_reads' HO_6.out).2.2 | (with_reducible refine Kd.C_alloc ?_ _) | (with_reducible refine Kd.C_drewN ?_ _) | (with_reducible refine Kd.C_drew ?_))); (case side2 => exact (Kd.R_reads' HO_6.out).2.1); rintro e w80 ⟨rfl, hb⟩; refine ⟨_, rfl, ?_⟩; have n0_ := Aside0.mk (Kd.R_below (by (with_reducible repeat (first | apply Kd.R_alloc | apply Kd.R_drewN | apply Kd.R_drew)); exact HO_3.out) hb); have n1_ := Aside0.mk (Kd.R_below (by (with_reducible repeat (first | apply Kd.R_alloc | apply Kd.R_drewN | apply Kd.R_drew)); exact HO_6.out) hb); have n2_ := Aside0.mk (below_step (by repeat (first | (with_reducible first | exact HB.out | apply below_alloc | apply pw_below_drewN | apply below_drew1) | exact HB.out)) hb); clear HO_3; clear HO_6; clear HB; have HO_3 := n0_; have HO_6 := n1_; have HB := n2_; clear n0_ n1_ n2_; (try clear hb); (try clear hb2); (try clear hk); (try clear hi); refine hK.out _ _ trivial (fun hHeld => ?_); clear hK K; refine norm_ (a' := ?_) ?_ ?_
             rotate_left
             ·show Act.put _ (some 120) _ = _
              simp only [Act.put, List.setIfInBounds_toArray, List.set_cons_zero, List.set_cons_succ, i64_w, i32_w]; rfl
             refine pure_ (i := 2) (N := some 121) (v := ?_) (a' := ?_) #[y_,y_,y_,n_,n_,n_,n_,n_,n_,n_,n_,n_,n_,n_,n_,n_,n_,n_,n_,n_,n_,n_,n_,n_,n_,n_,n_,n_,n_,n_,n_,n_,n_,n_,n_,n_,n_] rfl rfl (any_of HT_.out (by kernel_rfl)) (fun _ _ _ h => h) (Or.inl ⟨by rfl, ?_⟩) ?_ ?_
             rotate_left
             ·intro w'; go_simp; with_reducible rfl
             rotate_left
             ·simp only [Act.put, List.setIfInBounds_toArray, List.set_cons_zero, List.set_cons_succ, i64_w, i32_w]; rfl
             refine pure_ (i := 3) (N := some 122) (v := undef) (a' := ?_) #[y_,y_,y_,y_,n_,n_,n_,n_,n_,n_,n_,n_,n_,n_,n_,n_,n_,n_,n_,n_,n_,n_,n_,n_,n_,n_,n_,n_,n_,n_,n_,n_,n_,n_,n_,n_,n_] rfl rfl (any_of HT_.out (by kernel_rfl)) (fun _ _ _ h => h) (Or.inr ⟨by rfl, rfl⟩) ?_ ?_
             rotate_left
             ·simp only [Act.put, List.setIfInBounds_toArray, List.set_cons_zero, List.set_cons_succ, i64_w, i32_w]; rfl
             refine pure_ (i := 4) (N := some 123) (v := undef) (a' := ?_) #[y_,y_,y_,y_,y_,n_,n_,n_,n_,n_,n_,n_,n_,n_,n_,n_,n_,n_,n_,n_,n_,n_,n_,n_,n_,n_,n_,n_,n_,n_,n_,n_,n_,n_,n_,n_,n_] rfl rfl (any_of HT_.out (by kernel_rfl)) (fun _ _ _ h => h) (Or.inr ⟨by rfl, rfl⟩) ?_ ?_
             rotate_left
             ·simp only [Act.put, List.setIfInBounds_toArray, List.set_cons_zero, List.set_cons_succ, i64_w, i32_w]; rfl
             refine pure_ (i := 5) (N := some 124) (v := undef) (a' := ?_) #[y_,y_,y_,y_,y_,y_,n_,n_,n_,n_,n_,n_,n_,n_,n_,n_,n_,n_,n_,n_,n_,n_,n_,n_,n_,n_,n_,n_,n_,n_,n_,n_,n_,n_,n_,n_,n_] rfl rfl (any_of HT_.out (by kernel_rfl)) (fun _ _ _ h => h) (Or.inr ⟨by rfl, rfl⟩) ?_ ?_
             rotate_left
             ·simp only [Act.put, List.setIfInBounds_toArray, List.set_cons_zero, List.set_cons_succ, i64_w, i32_w]; rfl
             refine pure_ (i := 6) (N := some 125) (v := undef) (a' := ?_) #[y_,y_,y_,y_,y_,y_,y_,n_,n_,n_,n_,n_,n_,n_,n_,n_,n_,n_,n_,n_,n_,n_,n_,n_,n_,n_,n_,n_,n_,n_,n_,n_,n_,n_,n_,n_,n_] rfl rfl (any_of HT_.out (by kernel_rfl)) (fun _ _ _ h => h) (Or.inr ⟨by rfl, rfl⟩) ?_ ?_
             rotate_left
             ·simp only [Act.put, List.setIfInBounds_toArray, List.set_cons_zero, List.set_cons_succ, i64_w, i32_w]; rfl
             refine pure_ (i := 7) (N := some 126) (v := ?_) (a' := ?_) #[y_,y_,y_,y_,y_,y_,y_,y_,n_,n_,n_,n_,n_,n_,n_,n_,n_,n_,n_,n_,n_,n_,n_,n_,n_,n_,n_,n_,n_,n_,n_,n_,n_,n_,n_,n_,n_] rfl rfl (any_of HT_.out (by kernel_rfl)) (fun _ _ _ h => h) (Or.inl ⟨by rfl, ?_⟩) ?_ ?_
             rotate_left
             ·intro w'; go_simp; with_reducible rfl
             rotate_left
             ·simp only [Act.put, List.setIfInBounds_toArray, List.set_cons_zero, List.set_cons_succ, i64_w, i32_w]; rfl
             refine pure_ (i := 8) (N := some 127) (v := ?_) (a' := ?_) #[y_,y_,y_,y_,y_,y_,y_,y_,y_,n_,n_,n_,n_,n_,n_,n_,n_,n_,n_,n_,n_,n_,n_,n_,n_,n_,n_,n_,n_,n_,n_,n_,n_,n_,n_,n_,n_] rfl rfl (any_of HT_.out (by kernel_rfl)) (fun _ _ _ h => h) (Or.inl ⟨by rfl, ?_⟩) ?_ ?_
             rotate_left
             ·intro w'; go_simp; with_reducible rfl
             rotate_left
             ·simp only [Act.put, List.setIfInBounds_toArray, List.set_cons_zero, List.set_cons_succ, i64_w, i32_w]; rfl
             refine pure_ (i := 9) (N := some 128) (v := undef) (a' := ?_) #[y_,y_,y_,y_,y_,y_,y_,y_,y_,y_,n_,n_,n_,n_,n_,n_,n_,n_,n_,n_,n_,n_,n_,n_,n_,n_,n_,n_,n_,n_,n_,n_,n_,n_,n_,n_,n_] rfl rfl (any_of HT_.out (by kernel_rfl)) (fun _ _ _ h => h) (Or.inr ⟨by rfl, rfl⟩) ?_ ?_
             rotate_left
             ·simp only [Act.put, List.setIfInBounds_toArray, List.set_cons_zero, List.set_cons_succ, i64_w, i32_w]; rfl
             refine pure_ (i := 10) (N := some 129) (v := undef) (a' := ?_) #[y_,y_,y_,y_,y_,y_,y_,y_,y_,y_,y_,n_,n_,n_,n_,n_,n_,n_,n_,n_,n_,n_,n_,n_,n_,n_,n_,n_,n_,n_,n_,n_,n_,n_,n_,n_,n_] rfl rfl (any_of HT_.out (by kernel_rfl)) (fun _ _ _ h => h) (Or.inr ⟨by rfl, rfl⟩) ?_ ?_
             rotate_left
             ·simp only [Act.put, List.setIfInBounds_toArray, List.set_cons_zero, List.set_cons_succ, i64_w, i32_w]; rfl
             refine pure_ (i := 11) (N := some 130) (v := undef) (a' := ?_) #[y_,y_,y_,y_,y_,y_,y_,y_,y_,y_,y_,y_,n_,n_,n_,n_,n_,n_,n_,n_,n_,n_,n_,n_,n_,n_,n_,n_,n_,n_,n_,n_,n_,n_,n_,n_,n_] rfl rfl (any_of HT_.out (by kernel_rfl)) (fun _ _ _ h => h) (Or.inr ⟨by rfl, rfl⟩) ?_ ?_
             rotate_left
             ·simp only [Act.put, List.setIfInBounds_toArray, List.set_cons_zero, List.set_cons_succ, i64_w, i32_w]; rfl
             refine pure_ (i := 12) (N := some 131) (v := undef) (a' := ?_) #[y_,y_,y_,y_,y_,y_,y_,y_,y_,y_,y_,y_,y_,n_,n_,n_,n_,n_,n_,n_,n_,n_,n_,n_,n_,n_,n_,n_,n_,n_,n_,n_,n_,n_,n_,n_,n_] rfl rfl (any_of HT_.out (by kernel_rfl)) (fun _ _ _ h => h) (Or.inr ⟨by rfl, rfl⟩) ?_ ?_
             rotate_left
             ·simp only [Act.put, List.setIfInBounds_toArray, List.set_cons_zero, List.set_cons_succ, i64_w, i32_w]; rfl
             refine pure_ (i := 13) (N := some 132) (v := undef) (a' := ?_) #[y_,y_,y_,y_,y_,y_,y_,y_,y_,y_,y_,y_,y_,y_,n_,n_,n_,n_,n_,n_,n_,n_,n_,n_,n_,n_,n_,n_,n_,n_,n_,n_,n_,n_,n_,n_,n_] rfl rfl (any_of HT_.out (by kernel_rfl)) (fun _ _ _ h => h) (Or.inr ⟨by rfl, rfl⟩) ?_ ?_
             rotate_left
             ·simp only [Act.put, List.setIfInBounds_toArray, List.set_cons_zero, List.set_cons_succ, i64_w, i32_w]; rfl
             refine pure_ (i := 14) (N := some 133) (v := undef) (a' := ?_) #[y_,y_,y_,y_,y_,y_,y_,y_,y_,y_,y_,y_,y_,y_,y_,n_,n_,n_,n_,n_,n_,n_,n_,n_,n_,n_,n_,n_,n_,n_,n_,n_,n_,n_,n_,n_,n_] rfl rfl (any_of HT_.out (by kernel_rfl)) (fun _ _ _ h => h) (Or.inr ⟨by rfl, rfl⟩) ?_ ?_
             rotate_left
             ·simp only [Act.put, List.setIfInBounds_toArray, List.set_cons_zero, List.set_cons_succ, i64_w, i32_w]; rfl
             refine pure_ (i := 15) (N := some 134) (v := undef) (a' := ?_) #[y_,y_,y_,y_,y_,y_,y_,y_,y_,y_,y_,y_,y_,y_,y_,y_,n_,n_,n_,n_,n_,n_,n_,n_,n_,n_,n_,n_,n_,n_,n_,n_,n_,n_,n_,n_,n_] rfl rfl (any_of HT_.out (by kernel_rfl)) (fun _ _ _ h => h) (Or.inr ⟨by rfl, rfl⟩) ?_ ?_
             rotate_left
             ·simp only [Act.put, List.setIfInBounds_toArray, List.set_cons_zero, List.set_cons_succ, i64_w, i32_w]; rfl
             refine pure_ (i := 16) (N := some 135) (v := ?_) (a' := ?_) #[y_,y_,y_,y_,y_,y_,y_,y_,y_,y_,y_,y_,y_,y_,y_,y_,y_,n_,n_,n_,n_,n_,n_,n_,n_,n_,n_,n_,n_,n_,n_,n_,n_,n_,n_,n_,n_] rfl rfl (any_of HT_.out (by kernel_rfl)) (fun _ _ _ h => h) (Or.inl ⟨by rfl, ?_⟩) ?_ ?_
             rotate_left
             ·intro w'; go_simp; with_reducible rfl
             rotate_left
             ·simp only [Act.put, List.setIfInBounds_toArray, List.set_cons_zero, List.set_cons_succ, i64_w, i32_w]; rfl
             refine pure_ (i := 17) (N := some 136) (v := ?_) (a' := ?_) #[y_,y_,y_,y_,y_,y_,y_,y_,y_,y_,y_,y_,y_,y_,y_,y_,y_,y_,n_,n_,n_,n_,n_,n_,n_,n_,n_,n_,n_,n_,n_,n_,n_,n_,n_,n_,n_] rfl rfl (any_of HT_.out (by kernel_rfl)) (fun _ _ _ h => h) (Or.inl ⟨by rfl, ?_⟩) ?_ ?_
             rotate_left
             ·intro w'; go_simp; with_reducible rfl
             rotate_left
             ·simp only [Act.put, List.setIfInBounds_toArray, List.set_cons_zero, List.set_cons_succ, i64_w, i32_w]; rfl
             refine pure_ (i := 18) (N := some 137) (v := undef) (a' := ?_) #[y_,y_,y_,y_,y_,y_,y_,y_,y_,y_,y_,y_,y_,y_,y_,y_,y_,y_,y_,n_,n_,n_,n_,n_,n_,n_,n_,n_,n_,n_,n_,n_,n_,n_,n_,n_,n_] rfl rfl (any_of HT_.out (by kernel_rfl)) (fun _ _ _ h => h) (Or.inr ⟨by rfl, rfl⟩) ?_ ?_
             rotate_left
             ·simp only [Act.put, List.setIfInBounds_toArray, List.set_cons_zero, List.set_cons_succ, i64_w, i32_w]; rfl
             refine pure_ (i := 19) (N := some 138) (v := undef) (a' := ?_) #[y_,y_,y_,y_,y_,y_,y_,y_,y_,y_,y_,y_,y_,y_,y_,y_,y_,y_,y_,y_,n_,n_,n_,n_,n_,n_,n_,n_,n_,n_,n_,n_,n_,n_,n_,n_,n_] rfl rfl (any_of HT_.out (by kernel_rfl)) (fun _ _ _ h => h) (Or.inr ⟨by rfl, rfl⟩) ?_ ?_
             rotate_left
             ·simp only [Act.put, List.setIfInBounds_toArray, List.set_cons_zero, List.set_cons_succ, i64_w, i32_w]; rfl
             refine pure_ (i := 20) (N := some 139) (v := undef) (a' := ?_) #[y_,y_,y_,y_,y_,y_,y_,y_,y_,y_,y_,y_,y_,y_,y_,y_,y_,y_,y_,y_,y_,n_,n_,n_,n_,n_,n_,n_,n_,n_,n_,n_,n_,n_,n_,n_,n_] rfl rfl (any_of HT_.out (by kernel_rfl)) (fun _ _ _ h => h) (Or.inr ⟨by rfl, rfl⟩) ?_ ?_
             rotate_left
             ·simp only [Act.put, List.setIfInBounds_toArray, List.set_cons_zero, List.set_cons_succ, i64_w, i32_w]; rfl
             refine pure_ (i := 21) (N := some 140) (v := undef) (a' := ?_) #[y_,y_,y_,y_,y_,y_,y_,y_,y_,y_,y_,y_,y_,y_,y_,y_,y_,y_,y_,y_,y_,y_,n_,n_,n_,n_,n_,n_,n_,n_,n_,n_,n_,n_,n_,n_,n_] rfl rfl (any_of HT_.out (by kernel_rfl)) (fun _ _ _ h => h) (Or.inr ⟨by rfl, rfl⟩) ?_ ?_
             rotate_left
             ·simp only [Act.put, List.setIfInBounds_toArray, List.set_cons_zero, List.set_cons_succ, i64_w, i32_w]; rfl
             refine pure_ (i := 22) (N := some 141) (v := undef) (a' := ?_) #[y_,y_,y_,y_,y_,y_,y_,y_,y_,y_,y_,y_,y_,y_,y_,y_,y_,y_,y_,y_,y_,y_,y_,n_,n_,n_,n_,n_,n_,n_,n_,n_,n_,n_,n_,n_,n_] rfl rfl (any_of HT_.out (by kernel_rfl)) (fun _ _ _ h => h) (Or.inr ⟨by rfl, rfl⟩) ?_ ?_
             rotate_left
             ·simp only [Act.put, List.setIfInBounds_toArray, List.set_cons_zero, List.set_cons_succ, i64_w, i32_w]; rfl
             refine pure_ (i := 23) (N := some 142) (v := undef) (a' := ?_) #[y_,y_,y_,y_,y_,y_,y_,y_,y_,y_,y_,y_,y_,y_,y_,y_,y_,y_,y_,y_,y_,y_,y_,y_,n_,n_,n_,n_,n_,n_,n_,n_,n_,n_,n_,n_,n_] rfl rfl (any_of HT_.out (by kernel_rfl)) (fun _ _ _ h => h) (Or.inr ⟨by rfl, rfl⟩) ?_ ?_
             rotate_left
             ·simp only [Act.put, List.setIfInBounds_toArray, List.set_cons_zero, List.set_cons_succ, i64_w, i32_w]; rfl
             refine pure_ (i := 24) (N := some 143) (v := undef) (a' := ?_) #[y_,y_,y_,y_,y_,y_,y_,y_,y_,y_,y_,y_,y_,y_,y_,y_,y_,y_,y_,y_,y_,y_,y_,y_,y_,n_,n_,n_,n_,n_,n_,n_,n_,n_,n_,n_,n_] rfl rfl (any_of HT_.out (by kernel_rfl)) (fun _ _ _ h => h) (Or.inr ⟨by rfl, rfl⟩) ?_ ?_
             rotate_left
             ·simp only [Act.put, List.setIfInBounds_toArray, List.set_cons_zero, List.set_cons_succ, i64_w, i32_w]; rfl
             refine pure_ (i := 25) (N := some 144) (v := undef) (a' := ?_) #[y_,y_,y_,y_,y_,y_,y_,y_,y_,y_,y_,y_,y_,y_,y_,y_,y_,y_,y_,y_,y_,y_,y_,y_,y_,y_,n_,n_,n_,n_,n_,n_,n_,n_,n_,n_,n_] rfl rfl (any_of HT_.out (by kernel_rfl)) (fun _ _ _ h => h) (Or.inr ⟨by rfl, rfl⟩) ?_ ?_
             rotate_left
             ·simp only [Act.put, List.setIfInBounds_toArray, List.set_cons_zero, List.set_cons_succ, i64_w, i32_w]; rfl
             refine pure_ (i := 26) (N := some 145) (v := undef) (a' := ?_) #[y_,y_,y_,y_,y_,y_,y_,y_,y_,y_,y_,y_,y_,y_,y_,y_,y_,y_,y_,y_,y_,y_,y_,y_,y_,y_,y_,n_,n_,n_,n_,n_,n_,n_,n_,n_,n_] rfl rfl (any_of HT_.out (by kernel_rfl)) (fun _ _ _ h => h) (Or.inr ⟨by rfl, rfl⟩) ?_ ?_
             rotate_left
             ·simp only [Act.put, List.setIfInBounds_toArray, List.set_cons_zero, List.set_cons_succ, i64_w, i32_w]; rfl
             refine pure_ (i := 27) (N := some 146) (v := undef) (a' := ?_) #[y_,y_,y_,y_,y_,y_,y_,y_,y_,y_,y_,y_,y_,y_,y_,y_,y_,y_,y_,y_,y_,y_,y_,y_,y_,y_,y_,y_,n_,n_,n_,n_,n_,n_,n_,n_,n_] rfl rfl (any_of HT_.out (by kernel_rfl)) (fun _ _ _ h => h) (Or.inr ⟨by rfl, rfl⟩) ?_ ?_
             rotate_left
             ·simp only [Act.put, List.setIfInBounds_toArray, List.set_cons_zero, List.set_cons_succ, i64_w, i32_w]; rfl
             refine pure_ (i := 28) (N := some 147) (v := undef) (a' := ?_) #[y_,y_,y_,y_,y_,y_,y_,y_,y_,y_,y_,y_,y_,y_,y_,y_,y_,y_,y_,y_,y_,y_,y_,y_,y_,y_,y_,y_,y_,n_,n_,n_,n_,n_,n_,n_,n_] rfl rfl (any_of HT_.out (by kernel_rfl)) (fun _ _ _ h => h) (Or.inr ⟨by rfl, rfl⟩) ?_ ?_
             rotate_left
             ·simp only [Act.put, List.setIfInBounds_toArray, List.set_cons_zero, List.set_cons_succ, i64_w, i32_w]; rfl
             refine pure_ (i := 29) (N := some 148) (v := undef) (a' := ?_) #[y_,y_,y_,y_,y_,y_,y_,y_,y_,y_,y_,y_,y_,y_,y_,y_,y_,y_,y_,y_,y_,y_,y_,y_,y_,y_,y_,y_,y_,y_,n_,n_,n_,n_,n_,n_,n_] rfl rfl (any_of HT_.out (by kernel_rfl)) (fun _ _ _ h => h) (Or.inr ⟨by rfl, rfl⟩) ?_ ?_
             rotate_left
             ·simp only [Act.put, List.setIfInBounds_toArray, List.set_cons_zero, List.set_cons_succ, i64_w, i32_w]; rfl
             refine pure_ (i := 30) (N := some 149) (v := ?_) (a' := ?_) #[y_,y_,y_,y_,y_,y_,y_,y_,y_,y_,y_,y_,y_,y_,y_,y_,y_,y_,y_,y_,y_,y_,y_,y_,y_,y_,y_,y_,y_,y_,y_,n_,n_,n_,n_,n_,n_] rfl rfl (any_of HT_.out (by kernel_rfl)) (fun _ _ _ h => h) (Or.inl ⟨by rfl, ?_⟩) ?_ ?_
             rotate_left
             ·intro w'; go_simp; with_reducible rfl
             rotate_left
             ·simp only [Act.put, List.setIfInBounds_toArray, List.set_cons_zero, List.set_cons_succ, i64_w, i32_w]; rfl
             refine pure_ (i := 31) (N := some 150) (v := ?_) (a' := ?_) #[y_,y_,y_,y_,y_,y_,y_,y_,y_,y_,y_,y_,y_,y_,y_,y_,y_,y_,y_,y_,y_,y_,y_,y_,y_,y_,y_,y_,y_,y_,y_,y_,n_,n_,n_,n_,n_] rfl rfl (any_of HT_.out (by kernel_rfl)) (fun _ _ _ h => h) (Or.inl ⟨by rfl, ?_⟩) ?_ ?_
             rotate_left
             ·intro w'; go_simp; with_reducible rfl
             rotate_left
             ·simp only [Act.put, List.setIfInBounds_toArray, List.set_cons_zero, List.set_cons_succ, i64_w, i32_w]; rfl
             refine pure_ (i := 32) (N := some 151) (v := undef) (a' := ?_) #[y_,y_,y_,y_,y_,y_,y_,y_,y_,y_,y_,y_,y_,y_,y_,y_,y_,y_,y_,y_,y_,y_,y_,y_,y_,y_,y_,y_,y_,y_,y_,y_,y_,n_,n_,n_,n_] rfl rfl (any_of HT_.out (by kernel_rfl)) (fun _ _ _ h => h) (Or.inr ⟨by rfl, rfl⟩) ?_ ?_
             rotate_left
             ·simp only [Act.put, List.setIfInBounds_toArray, List.set_cons_zero, List.set_cons_succ, i64_w, i32_w]; rfl
             refine pure_ (i := 33) (N := some 152) (v := undef) (a' := ?_) #[y_,y_,y_,y_,y_,y_,y_,y_,y_,y_,y_,y_,y_,y_,y_,y_,y_,y_,y_,y_,y_,y_,y_,y_,y_,y_,y_,y_,y_,y_,y_,y_,y_,y_,n_,n_,n_] rfl rfl (any_of HT_.out (by kernel_rfl)) (fun _ _ _ h => h) (Or.inr ⟨by rfl, rfl⟩) ?_ ?_
             rotate_left
             ·simp only [Act.put, List.setIfInBounds_toArray, List.set_cons_zero, List.set_cons_succ, i64_w, i32_w]; rfl
             refine pure_ (i := 34) (N := some 153) (v := undef) (a' := ?_) #[y_,y_,y_,y_,y_,y_,y_,y_,y_,y_,y_,y_,y_,y_,y_,y_,y_,y_,y_,y_,y_,y_,y_,y_,y_,y_,y_,y_,y_,y_,y_,y_,y_,y_,y_,n_,n_] rfl rfl (any_of HT_.out (by kernel_rfl)) (fun _ _ _ h => h) (Or.inr ⟨by rfl, rfl⟩) ?_ ?_
             rotate_left
             ·simp only [Act.put, List.setIfInBounds_toArray, List.set_cons_zero, List.set_cons_succ, i64_w, i32_w]; rfl
             refine pure_ (i := 35) (N := some 154) (v := ?_) (a' := ?_) #[y_,y_,y_,y_,y_,y_,y_,y_,y_,y_,y_,y_,y_,y_,y_,y_,y_,y_,y_,y_,y_,y_,y_,y_,y_,y_,y_,y_,y_,y_,y_,y_,y_,y_,y_,y_,n_] rfl rfl (any_of HT_.out (by kernel_rfl)) (fun _ _ _ h => h) (Or.inl ⟨by rfl, ?_⟩) ?_ ?_
             rotate_left
             ·intro w'; go_simp; with_reducible rfl
             rotate_left
             ·simp only [Act.put, List.setIfInBounds_toArray, List.set_cons_zero, List.set_cons_succ, i64_w, i32_w]; rfl
             refine pure_ (i := 36) (N := some 2) (v := ?_) (a' := ?_) #[y_,y_,y_,y_,y_,y_,y_,y_,y_,y_,y_,y_,y_,y_,y_,y_,y_,y_,y_,y_,y_,y_,y_,y_,y_,y_,y_,y_,y_,y_,y_,y_,y_,y_,y_,y_,y_] rfl rfl (any_of HT_.out (by kernel_rfl)) (fun _ _ _ h => h) (Or.inl ⟨by rfl, ?_⟩) ?_ ?_
             rotate_left
             ·intro w'; go_simp; with_reducible rfl
             rotate_left
             ·simp only [Act.put, List.setIfInBounds_toArray, List.set_cons_zero, List.set_cons_succ, i64_w, i32_w]; rfl
             refine done_ (done_of HT_.out (by kernel_rfl)) ?_
             try go_wp2
             go_ret
             exact ⟨by first | rfl | (simp [errW_none, errW_some] <;> rfl) | (simp [*, errW_none, errW_some] <;> rfl), by repeat (first | (with_reducible first | exact HB.out | apply below_alloc | apply pw_below_drewN | apply below_drew1) | exact HB.out)⟩
     ·rw [if_neg c23] at H; exact absurd H (by simp)

/-- THE ONE PURE STATEMENT of laws_FnStay: yours. -/
def laws_FnStay.Pure : Prop := ∀ (l0 : List Int), l0.length ≤ maxLen → l0.length * 1 ≤ 140737488351232 → (∀ x ∈ l0, (Lit.int .u8 x).wf = true) → ∃ k, laws_FnStay.f k l0 = some true
theorem laws_FnStay.walk (P : laws_FnStay.Pure) (a0 : Option Addr) (len0 cap0 : Nat) (z0 : List Int) (w : World) (w0 : (a0 = none ∧ len0 = 0 ∧ cap0 = 0 ∧ z0 = []) ∨ ∃ x, a0 = some x ∧ len0 ≤ cap0 ∧ cap0 ≤ maxLen ∧ z0.length = cap0 ∧ (∀ i, i < z0.length → w.cell? (x.add i) = some (.int .u8 (z0.getD i 0))) ∧ ∀ n ∈ z0, (Lit.int .u8 n).wf = true) (y0 : len0 * 1 ≤ 140737488351232) :
  Calls Try.prog 6 #[.slice a0 len0 cap0] w fun e w' => e = .returned (.bool true) ∧ Below w.heap.size w w' := by
 obtain ⟨l0, rfl, hr0, hm0, hw0, hc0⟩ := ReadsInt.ofRowC w0; obtain ⟨k, h⟩ := P l0 hm0 y0 hw0; refine (laws_FnStay.calls k _ _ l0 true w (Kd.C_of_reads (d := (0 : Int)) (h1 := fun _ => rfl) hr0) hc0 h).mono ?_; rintro e w' ⟨rfl, hd⟩
 exact ⟨rfl, hd⟩

end Go.Proofs.Ytdacpdhpifocbaa.P

namespace Go.Proofs.Ytdacpdhpifocbaa.Q
open Go.RowKit Go.Proofs.Ytdacpdhpifocbaa.P Go.Proofs.YtdacpdhpifocbaaW.PrintWords Go.Proofs.YtdacpdhpifocbaaW.PrintLast
set_option linter.unusedVariables false

abbrev PT := S38
def g (l : List PT) (i : Nat) : PT := l.getD i z38
theorem rd_nat (l : List PT) (i : Nat) : rd_T38 l (i : Int) = g l i := by simp [rd_T38, g]
theorem rd_zero (l : List PT) : rd_T38 l 0 = g l 0 := by simp [rd_T38, g]
theorem w_id {x : Int} (h0 : -9223372036854775808 ≤ x) (h1 : x < 9223372036854775808) : wrap64 x = x := by unfold wrap64; omega
theorem w_succ {i : Nat} (h : i < 1000000000000000000) : wrap64 ((i : Int) + 1) = ((i + 1 : Nat) : Int) := by rw [w_id (by omega) (by omega)]; omega
theorem w_pred {i : Nat} (h0 : 0 < i) (h : i < 1000000000000000000) : wrap64 ((i : Int) - 1) = ((i - 1 : Nat) : Int) := by rw [w_id (by omega) (by omega)]; omega
theorem g_eq {l : List PT} {i : Nat} (h : i < l.length) : g l i = l[i] := by simp [g, List.getD_eq_getElem?_getD, h]
theorem PT.ext {a b : PT} (h0 : a.f0 = b.f0) (h1 : a.f1 = b.f1) : a = b := by cases a; cases b; simp_all

instance : DecidableEq PT := fun a b => if h : a.f0 = b.f0 ∧ a.f1 = b.f1 then isTrue (PT.ext h.1 h.2) else isFalse (fun e => h ⟨by rw [e], by rw [e]⟩)
/-- a point of the grid -/
def okP (p : PT) : Bool := decide (0 ≤ p.f0 ∧ p.f0 ≤ 9 ∧ 0 ≤ p.f1 ∧ p.f1 ≤ 9)
theorem okP_iff {p : PT} : okP p = true ↔ 0 ≤ p.f0 ∧ p.f0 ≤ 9 ∧ 0 ≤ p.f1 ∧ p.f1 ≤ 9 := by simp [okP]
theorem implOk (a b : Int) : impl_PtOk.f a b = some (okP ⟨a, b⟩) := by
  unfold impl_PtOk.f okP
  by_cases h1 : a ≥ 0
  · by_cases h2 : a ≤ 9
    · by_cases h3 : b ≥ 0
      · rw [if_pos h1, if_pos h2, if_pos h3]; congr 1; simp only [decide_eq_decide]; omega
      · rw [if_pos h1, if_pos h2, if_neg h3]; congr 1; symm; simp only [decide_eq_false_iff_not]; omega
    · rw [if_pos h1, if_neg h2]; congr 1; symm; simp only [decide_eq_false_iff_not]; omega
  · rw [if_neg h1]; congr 1; symm; simp only [decide_eq_false_iff_not]; omega
theorem specIn (a b c : Int) : spec_l6In.f a b c = some (decide (b ≤ a ∧ a ≤ c)) := by
  unfold spec_l6In.f
  by_cases h1 : a ≥ b
  · rw [if_pos h1]; congr 1; simp only [decide_eq_decide]; omega
  · rw [if_neg h1]; congr 1; symm; simp only [decide_eq_false_iff_not]; omega
theorem specOk (a b : Int) : spec_PtOk.f a b = some (okP ⟨a, b⟩) := by
  unfold spec_PtOk.f okP
  rw [specIn, specIn]
  simp only [Option.bind_some]
  by_cases h1 : 0 ≤ a ∧ a ≤ 9
  · rw [decide_eq_true h1, if_pos rfl]; congr 1; simp only [decide_eq_decide]; omega
  · rw [decide_eq_false h1, if_neg (by decide)]; congr 1; symm; simp only [decide_eq_false_iff_not]; omega

/-- one step apart -/
def stepP (a b : PT) : Bool := (wrap64 (a.f0 + 1) == b.f0 && a.f1 == b.f1) || ((a.f0 == b.f0 && wrap64 (a.f1 + 1) == b.f1) || ((wrap64 (a.f0 - 1) == b.f0 && a.f1 == b.f1) || (a.f0 == b.f0 && wrap64 (a.f1 - 1) == b.f1)))
theorem implStep (a b : PT) : impl_isStep.f a.f0 a.f1 b.f0 b.f1 = some (stepP a b) := rfl
/-- one step apart, as numbers -/
def Step (a b : PT) : Prop := (b.f0 = a.f0 + 1 ∧ b.f1 = a.f1) ∨ (b.f0 = a.f0 ∧ b.f1 = a.f1 + 1) ∨ (b.f0 = a.f0 - 1 ∧ b.f1 = a.f1) ∨ (b.f0 = a.f0 ∧ b.f1 = a.f1 - 1)
instance (a b : PT) : Decidable (Step a b) := by unfold Step; infer_instance
theorem stepP_iff {a b : PT} (ha : okP a = true) : stepP a b = true ↔ Step a b := by
  rw [okP_iff] at ha
  unfold stepP Step
  rw [w_id (x := a.f0 + 1) (by omega) (by omega), w_id (x := a.f1 + 1) (by omega) (by omega), w_id (x := a.f0 - 1) (by omega) (by omega), w_id (x := a.f1 - 1) (by omega) (by omega)]
  simp only [Bool.or_eq_true, Bool.and_eq_true, beq_iff_eq]
  omega
theorem dot_one {x y : Int} (hx : -9 ≤ x ∧ x ≤ 9) (hy : -9 ≤ y ∧ y ≤ 9) : x * x + y * y = 1 ↔ (x = 1 ∧ y = 0) ∨ (x = 0 ∧ y = 1) ∨ (x = -1 ∧ y = 0) ∨ (x = 0 ∧ y = -1) := by
  obtain ⟨h1, h2⟩ := hx
  obtain ⟨h3, h4⟩ := hy
  have ex : x * x = 0 ∧ x = 0 ∨ x * x = 1 ∧ (x = 1 ∨ x = -1) ∨ 4 ≤ x * x ∧ (x ≤ -2 ∨ 2 ≤ x) := by
    have : x = -9 ∨ x = -8 ∨ x = -7 ∨ x = -6 ∨ x = -5 ∨ x = -4 ∨ x = -3 ∨ x = -2 ∨ x = -1 ∨ x = 0 ∨ x = 1 ∨ x = 2 ∨ x = 3 ∨ x = 4 ∨ x = 5 ∨ x = 6 ∨ x = 7 ∨ x = 8 ∨ x = 9 := by omega
    rcases this with h | h | h | h | h | h | h | h | h | h | h | h | h | h | h | h | h | h | h <;> subst h <;> decide
  have ey : y * y = 0 ∧ y = 0 ∨ y * y = 1 ∧ (y = 1 ∨ y = -1) ∨ 4 ≤ y * y ∧ (y ≤ -2 ∨ 2 ≤ y) := by
    have : y = -9 ∨ y = -8 ∨ y = -7 ∨ y = -6 ∨ y = -5 ∨ y = -4 ∨ y = -3 ∨ y = -2 ∨ y = -1 ∨ y = 0 ∨ y = 1 ∨ y = 2 ∨ y = 3 ∨ y = 4 ∨ y = 5 ∨ y = 6 ∨ y = 7 ∨ y = 8 ∨ y = 9 := by omega
    rcases this with h | h | h | h | h | h | h | h | h | h | h | h | h | h | h | h | h | h | h <;> subst h <;> decide
  generalize x * x = a at *
  generalize y * y = b at *
  omega
theorem w_mul {x y : Int} (hx : -9 ≤ x ∧ x ≤ 9) (hy : -9 ≤ y ∧ y ≤ 9) : -81 ≤ x * y ∧ x * y ≤ 81 := by
  have : x = -9 ∨ x = -8 ∨ x = -7 ∨ x = -6 ∨ x = -5 ∨ x = -4 ∨ x = -3 ∨ x = -2 ∨ x = -1 ∨ x = 0 ∨ x = 1 ∨ x = 2 ∨ x = 3 ∨ x = 4 ∨ x = 5 ∨ x = 6 ∨ x = 7 ∨ x = 8 ∨ x = 9 := by omega
  rcases this with h | h | h | h | h | h | h | h | h | h | h | h | h | h | h | h | h | h | h <;> subst h <;> omega
/-- a path: 1 to 400 points of the grid, each one step from the one ahead -/
def PathTo (l : List PT) (i : Nat) : Prop := ∀ j, i ≤ j → j < l.length → okP (g l j) = true ∧ (0 < j → Step (g l (j - 1)) (g l j))
def IsPath (l : List PT) : Prop := 1 ≤ l.length ∧ l.length ≤ 400 ∧ PathTo l 0
theorem PathTo.cons {l : List PT} {i : Nat} (h : okP (g l i) = true) (h' : 0 < i → Step (g l (i - 1)) (g l i)) (r : PathTo l (i + 1)) : PathTo l i := by
  intro j h1 h2
  rcases Nat.eq_or_lt_of_le h1 with e | e
  · subst e; exact ⟨h, h'⟩
  · exact r j e h2
theorem isPath_l0 (l : List PT) (hl : l.length < 1000000000000000000) : ∀ (d k i : Nat), l.length - i = d → i ≤ l.length → d < k → (∀ j, j < i → okP (g l j) = true) →
    ∃ b, impl_isPath.l0 k l l (l.length : Int) (i : Int) = some b ∧ (b = true ↔ PathTo l i) := by
  intro d
  induction d with
  | zero =>
    intro k i hd hi hk _
    obtain ⟨k, rfl⟩ : ∃ m, k = m + 1 := ⟨k - 1, by omega⟩
    refine ⟨true, ?_, by simp only [true_iff]; intro j h1 h2; omega⟩
    simp only [impl_isPath.l0]
    rw [if_neg (by omega)]
  | succ d ih =>
    intro k i hd hi hk hbef
    obtain ⟨k, rfl⟩ : ∃ m, k = m + 1 := ⟨k - 1, by omega⟩
    simp only [impl_isPath.l0]
    rw [if_pos (by omega), if_pos (by omega), if_pos (by omega), rd_nat, implOk]
    simp only [Option.bind_some]
    by_cases hok : okP (g l i) = true
    · rw [if_pos (by simpa using hok), w_succ (by omega)]
      have hbef' : ∀ j, j < i + 1 → okP (g l j) = true := fun j hj => by
        rcases Nat.eq_or_lt_of_le (Nat.le_of_lt_succ hj) with e | e
        · subst e; exact hok
        · exact hbef j e
      by_cases h0 : 0 < i
      · rw [if_pos (by omega), w_pred h0 (by omega), if_pos (by omega), if_pos (by omega), rd_nat, implStep]
        simp only [Option.bind_some]
        by_cases hs : stepP (g l (i - 1)) (g l i) = true
        · rw [if_pos hs]
          obtain ⟨b, hb, hb'⟩ := ih k (i + 1) (by omega) (by omega) (by omega) hbef'
          refine ⟨b, hb, hb'.trans ⟨fun r => PathTo.cons hok (fun _ => (stepP_iff (hbef _ (by omega))).1 hs) r, fun r j h1 h2 => r j (by omega) h2⟩⟩
        · rw [if_neg hs]
          refine ⟨false, rfl, by simp only [Bool.false_eq_true, false_iff]; exact fun r => hs ((stepP_iff (hbef _ (by omega))).2 ((r i (Nat.le_refl _) (by omega)).2 h0))⟩
      · rw [if_neg (by omega)]
        obtain ⟨b, hb, hb'⟩ := ih k (i + 1) (by omega) (by omega) (by omega) hbef'
        exact ⟨b, hb, hb'.trans ⟨fun r => PathTo.cons hok (fun h => absurd h h0) r, fun r j h1 h2 => r j (by omega) h2⟩⟩
    · rw [if_neg (by simpa using hok)]
      exact ⟨false, rfl, by simp only [Bool.false_eq_true, false_iff]; exact fun r => hok (r i (Nat.le_refl _) (by omega)).1⟩
theorem isPath_f (l : List PT) (hl : l.length < 1000000000000000000) (k : Nat) (hk : l.length + 2 ≤ k) : ∃ b, impl_isPath.f k l = some b ∧ (b = true ↔ IsPath l) := by
  obtain ⟨k, rfl⟩ : ∃ m, k = m + 1 := ⟨k - 1, by omega⟩
  unfold impl_isPath.f IsPath
  simp only [impl_isPath.j0]
  by_cases h1 : (l.length : Int) < 1
  · rw [if_pos h1, if_pos trivial]
    exact ⟨false, rfl, by simp only [Bool.false_eq_true, false_iff]; omega⟩
  · rw [if_neg h1]
    by_cases h2 : (l.length : Int) > 400
    · rw [decide_eq_true h2, if_pos rfl]
      exact ⟨false, rfl, by simp only [Bool.false_eq_true, false_iff]; omega⟩
    · rw [decide_eq_false h2, if_neg (by decide)]
      obtain ⟨b, hb, hb'⟩ := isPath_l0 l hl l.length k 0 (by omega) (by omega) (by omega) (fun j hj => by omega)
      exact ⟨b, hb, hb'.trans ⟨fun r => ⟨by omega, by omega, r⟩, fun r => r.2.2⟩⟩
/-- does the step from b go on as that from a to b -/
def goesOn (a b c : PT) : Bool := c.f0 - b.f0 == b.f0 - a.f0 && c.f1 - b.f1 == b.f1 - a.f1
/-- is place j of a path one at which it begins, turns, or ends -/
def turnAt (l : List PT) (j : Nat) : Bool := decide (j = 0) || decide (j + 1 = l.length) || !goesOn (g l (j - 1)) (g l j) (g l (j + 1))
def turnsFrom (l : List PT) (i : Nat) : List PT := ((List.range' i (l.length - i)).filter (turnAt l)).map (g l)
def turns (l : List PT) : List PT := turnsFrom l 0
theorem turnsFrom_end (l : List PT) (i : Nat) (h : l.length ≤ i) : turnsFrom l i = [] := by
  unfold turnsFrom
  rw [show l.length - i = 0 by omega]; rfl
theorem turnsFrom_step (l : List PT) (i : Nat) (h : i < l.length) : turnsFrom l i = (if turnAt l i = true then [g l i] else []) ++ turnsFrom l (i + 1) := by
  unfold turnsFrom
  rw [show l.length - i = (l.length - (i + 1)) + 1 by omega, List.range'_succ, List.filter_cons]
  split <;> simp
theorem pt_eta (p : PT) : (⟨p.f0, p.f1⟩ : PT) = p := rfl
open Classical in
/-- what CodeTurns answers -/
noncomputable def codeTurns (l : List PT) : List PT := if IsPath l then turns l else []
end Go.Proofs.Ytdacpdhpifocbaa.Q

namespace Go.Proofs.Ytdacpdhpifocbaa.Q
open Go.RowKit Go.Proofs.Ytdacpdhpifocbaa.P Go.Proofs.YtdacpdhpifocbaaW.PrintWords Go.Proofs.YtdacpdhpifocbaaW.PrintLast
set_option linter.unusedVariables false

def sgn (a b : Int) : Int := if a < b then 1 else if a > b then -1 else 0
def nxt (a b : PT) : PT := ⟨a.f0 + sgn a.f0 b.f0, a.f1 + sgn a.f1 b.f1⟩
def dist (a b : PT) : Nat := (a.f0 - b.f0).natAbs + (a.f1 - b.f1).natAbs
def leg : Nat → PT → PT → List PT
  | 0, _, _ => []
  | n + 1, a, b => nxt a b :: leg n (nxt a b) b
def InLine (a b : PT) : Prop := a.f0 = b.f0 ∨ a.f1 = b.f1
theorem sgn_spec (a b : Int) : a < b ∧ sgn a b = 1 ∨ b < a ∧ sgn a b = -1 ∨ a = b ∧ sgn a b = 0 := by
  unfold sgn
  by_cases h : a < b
  · rw [if_pos h]; omega
  · rw [if_neg h]
    by_cases h' : a > b
    · rw [if_pos h']; omega
    · rw [if_neg h']; omega
theorem dist_zero {a b : PT} : dist a b = 0 ↔ a = b := by
  unfold dist
  constructor
  · intro h
    exact PT.ext (by omega) (by omega)
  · intro h
    subst h
    omega
theorem nxt_dist {a b : PT} (h : InLine a b) (n : Nat) (hd : dist a b = n + 1) : dist (nxt a b) b = n ∧ InLine (nxt a b) b ∧ Step a (nxt a b) ∧ (n ≠ 0 → sgn (nxt a b).f0 b.f0 = sgn a.f0 b.f0 ∧ sgn (nxt a b).f1 b.f1 = sgn a.f1 b.f1) := by
  unfold dist InLine nxt Step at *
  simp only
  rcases sgn_spec a.f0 b.f0 with ⟨h0, e0⟩ | ⟨h0, e0⟩ | ⟨h0, e0⟩ <;> rcases sgn_spec a.f1 b.f1 with ⟨h1, e1⟩ | ⟨h1, e1⟩ | ⟨h1, e1⟩ <;>
    (try rw [e0]) <;> (try rw [e1]) <;>
    first
      | omega
      | (refine ⟨by omega, by omega, by omega, fun hn => ?_⟩
         rcases sgn_spec (a.f0 + 1) b.f0 with ⟨h2, e2⟩ | ⟨h2, e2⟩ | ⟨h2, e2⟩ <;> rcases sgn_spec (a.f0 + -1) b.f0 with ⟨h3, e3⟩ | ⟨h3, e3⟩ | ⟨h3, e3⟩ <;> rcases sgn_spec (a.f0 + 0) b.f0 with ⟨h4, e4⟩ | ⟨h4, e4⟩ | ⟨h4, e4⟩ <;>
         rcases sgn_spec (a.f1 + 1) b.f1 with ⟨h5, e5⟩ | ⟨h5, e5⟩ | ⟨h5, e5⟩ <;> rcases sgn_spec (a.f1 + -1) b.f1 with ⟨h6, e6⟩ | ⟨h6, e6⟩ | ⟨h6, e6⟩ <;> rcases sgn_spec (a.f1 + 0) b.f1 with ⟨h7, e7⟩ | ⟨h7, e7⟩ | ⟨h7, e7⟩ <;> omega)
theorem nxt_ok {a b : PT} (ha : okP a = true) (hb : okP b = true) : okP (nxt a b) = true := by
  rw [okP_iff] at *
  unfold nxt
  simp only
  rcases sgn_spec a.f0 b.f0 with ⟨h0, e0⟩ | ⟨h0, e0⟩ | ⟨h0, e0⟩ <;> rcases sgn_spec a.f1 b.f1 with ⟨h1, e1⟩ | ⟨h1, e1⟩ | ⟨h1, e1⟩ <;> rw [e0, e1] <;> omega
theorem ok_dist {a b : PT} (ha : okP a = true) (hb : okP b = true) (h : InLine a b) : dist a b ≤ 9 := by
  rw [okP_iff] at *
  unfold dist InLine at *
  omega
theorem leg_length : ∀ (n : Nat) (a b : PT), (leg n a b).length = n
  | 0, _, _ => rfl
  | n + 1, a, b => by simp [leg, leg_length n]
theorem specSign (x : Int) : spec_l2Sign.f x = some (sgn 0 x) := by
  unfold spec_l2Sign.f sgn
  by_cases h : x < 0
  · rw [if_pos h, if_neg (by omega), if_pos (by omega)]
  · rw [if_neg h]
    by_cases h' : x > 0
    · rw [if_pos h', if_pos (by omega)]
    · rw [if_neg h', if_neg (by omega), if_neg (by omega)]
theorem sgn_sub (a b : Int) : sgn 0 (b - a) = sgn a b := by
  rcases sgn_spec a b with ⟨h0, e0⟩ | ⟨h0, e0⟩ | ⟨h0, e0⟩ <;> rcases sgn_spec 0 (b - a) with ⟨h1, e1⟩ | ⟨h1, e1⟩ | ⟨h1, e1⟩ <;> rw [e0, e1] <;> omega
theorem implToward (a b : Int) : impl_toward.f a b = some (sgn a b) := by
  unfold impl_toward.f sgn
  by_cases h : a < b
  · rw [if_pos h, if_pos h]
  · rw [if_neg h, if_neg h]
    by_cases h' : a > b
    · rw [if_pos h', if_pos h']
    · rw [if_neg h', if_neg h']
theorem ne_bool {a b : PT} : ((!(a.f0 == b.f0) || (!(a.f1 == b.f1))) = true) ↔ a ≠ b := by
  simp only [Bool.or_eq_true, Bool.not_eq_true', beq_eq_false_iff_ne]
  constructor
  · rintro h rfl
    omega
  · intro h
    by_cases h0 : a.f0 = b.f0
    · exact .inr fun h1 => h (PT.ext h0 h1)
    · exact .inl h0
theorem eq_bool {a b : PT} : ((a.f0 == b.f0 && (a.f1 == b.f1)) = true) ↔ a = b := by
  simp only [Bool.and_eq_true, beq_iff_eq]
  exact ⟨fun h => PT.ext h.1 h.2, fun h => by subst h; exact ⟨rfl, rfl⟩⟩
theorem impl_l1 (xs : List PT) (len i : Int) (b : PT) (hb : okP b = true) : ∀ (n m : Nat) (acc : List PT) (a : PT) (x y : Int), okP a = true → InLine a b → dist a b = n → (n ≠ 0 → x = sgn a.f0 b.f0 ∧ y = sgn a.f1 b.f1) → acc.length + n < 8796093022208 →
    impl_CodeStay.l1 (m + n + 1) acc x y xs len i a.f0 a.f1 b.f0 b.f1 = impl_CodeStay.l0 m (acc ++ leg n a b) xs len (wrap64 (i + 1)) b.f0 b.f1 := by
  intro n
  induction n with
  | zero =>
    intro m acc a x y ha hl hd hxy hacc
    obtain rfl := dist_zero.1 hd
    simp only [impl_CodeStay.l1]
    rw [if_neg (by rw [ne_bool]; simp)]
    simp [leg]
  | succ n ih =>
    intro m acc a x y ha hl hd hxy hacc
    obtain ⟨rfl, rfl⟩ := hxy (by omega)
    obtain ⟨h1, h2, h3, h4⟩ := nxt_dist hl n hd
    have hn := nxt_ok ha hb
    have hn' := hn
    rw [okP_iff] at hn'
    obtain ⟨q, hq⟩ : ∃ q, q = m + n + 1 := ⟨_, rfl⟩
    rw [show m + (n + 1) + 1 = q + 1 by omega]
    simp only [impl_CodeStay.l1]
    rw [if_pos (by rw [ne_bool]; intro e; rw [dist_zero.2 e] at hd; omega), if_pos (by omega)]
    have e0 : wrap64 (a.f0 + sgn a.f0 b.f0) = (nxt a b).f0 := by have e : (nxt a b).f0 = a.f0 + sgn a.f0 b.f0 := rfl; rw [e] at hn' ⊢; exact w_id (by omega) (by omega)
    have e1 : wrap64 (a.f1 + sgn a.f1 b.f1) = (nxt a b).f1 := by have e : (nxt a b).f1 = a.f1 + sgn a.f1 b.f1 := rfl; rw [e] at hn' ⊢; exact w_id (by omega) (by omega)
    rw [e0, e1, pt_eta, hq, ih m (acc ++ [nxt a b]) (nxt a b) _ _ hn h2 h1 (fun hn => ⟨(h4 hn).1.symm, (h4 hn).2.symm⟩) (by simp; omega)]
    simp [leg]
theorem spec_l1 (xs : List PT) (i : Int) (b : PT) (hb : okP b = true) : ∀ (n m : Nat) (acc : List PT) (a : PT), okP a = true → InLine a b → dist a b = n → acc.length + n < 8796093022208 →
    spec_l22Stay.l1 (m + n + 1) xs acc i b.f0 b.f1 a.f0 a.f1 = spec_l22Stay.l0 m xs (acc ++ leg n a b) (wrap64 (i + 1)) := by
  intro n
  induction n with
  | zero =>
    intro m acc a ha hl hd hacc
    obtain rfl := dist_zero.1 hd
    simp only [spec_l22Stay.l1]
    rw [if_neg (by rw [ne_bool]; simp)]
    simp [leg]
  | succ n ih =>
    intro m acc a ha hl hd hacc
    obtain ⟨h1, h2, h3, h4⟩ := nxt_dist hl n hd
    have hn := nxt_ok ha hb
    have hn' := hn
    have ha' := ha
    have hb' := hb
    rw [okP_iff] at hn' ha' hb'
    obtain ⟨q, hq⟩ : ∃ q, q = m + n + 1 := ⟨_, rfl⟩
    rw [show m + (n + 1) + 1 = q + 1 by omega]
    simp only [spec_l22Stay.l1]
    rw [if_pos (by rw [ne_bool]; intro e; rw [dist_zero.2 e] at hd; omega), w_id (x := b.f0 - a.f0) (by omega) (by omega), w_id (x := b.f1 - a.f1) (by omega) (by omega), specSign, specSign, sgn_sub, sgn_sub]
    simp only [Option.bind_some]
    rw [if_pos (by omega)]
    have e0 : wrap64 (a.f0 + sgn a.f0 b.f0) = (nxt a b).f0 := by have e : (nxt a b).f0 = a.f0 + sgn a.f0 b.f0 := rfl; rw [e] at hn' ⊢; exact w_id (by omega) (by omega)
    have e1 : wrap64 (a.f1 + sgn a.f1 b.f1) = (nxt a b).f1 := by have e : (nxt a b).f1 = a.f1 + sgn a.f1 b.f1 := rfl; rw [e] at hn' ⊢; exact w_id (by omega) (by omega)
    rw [e0, e1, pt_eta, hq, ih m (acc ++ [nxt a b]) (nxt a b) hn h2 h1 (by simp; omega)]
    simp [leg]
instance (a b : PT) : Decidable (InLine a b) := by unfold InLine; infer_instance
/-- may one stay on a line from a to b -/
def good (a b : PT) : Bool := okP b && decide (a ≠ b) && decide (InLine a b)
def stayGo : PT → List PT → Option (List PT)
  | _, [] => some []
  | a, b :: r => if good a b = true then (stayGo b r).map (leg (dist a b) a b ++ ·) else none
theorem good_iff {a b : PT} : good a b = true ↔ okP b = true ∧ a ≠ b ∧ InLine a b := by simp [good, and_assoc]
def Ends (acc : List PT) (p : PT) : Prop := 0 < acc.length ∧ g acc (acc.length - 1) = p
theorem g_append_left {l r : List PT} {i : Nat} (h : i < l.length) : g (l ++ r) i = g l i := by simp [g, List.getD_eq_getElem?_getD, List.getElem?_append_left h]
theorem g_append_last (l : List PT) (p : PT) : g (l ++ [p]) l.length = p := by simp [g, List.getD_eq_getElem?_getD]
theorem pathTo_snoc {acc : List PT} {a p : PT} (h : PathTo acc 0) (he : Ends acc a) (hp : okP p = true) (hs : Step a p) : PathTo (acc ++ [p]) 0 ∧ Ends (acc ++ [p]) p := by
  constructor
  · intro j _ hj
    simp only [List.length_append, List.length_cons, List.length_nil] at hj
    rcases Nat.lt_or_ge j acc.length with h1 | h1
    · rw [g_append_left h1, g_append_left (by omega)]
      exact h j (by omega) h1
    · obtain rfl : j = acc.length := by omega
      rw [g_append_last, g_append_left (by have := he.1; omega), he.2]
      exact ⟨hp, fun _ => hs⟩
  · refine ⟨by simp, ?_⟩
    rw [show (acc ++ [p]).length - 1 = acc.length by simp]
    exact g_append_last acc p
theorem pathTo_leg (b : PT) (hb : okP b = true) : ∀ (n : Nat) (acc : List PT) (a : PT), okP a = true → InLine a b → dist a b = n → PathTo acc 0 → Ends acc a → PathTo (acc ++ leg n a b) 0 ∧ Ends (acc ++ leg n a b) b := by
  intro n
  induction n with
  | zero =>
    intro acc a ha hl hd hp he
    obtain rfl := dist_zero.1 hd
    simp only [leg, List.append_nil]
    exact ⟨hp, he⟩
  | succ n ih =>
    intro acc a ha hl hd hp he
    obtain ⟨h1, h2, h3, h4⟩ := nxt_dist hl n hd
    obtain ⟨hp', he'⟩ := pathTo_snoc hp he (nxt_ok ha hb) h3
    have := ih (acc ++ [nxt a b]) (nxt a b) (nxt_ok ha hb) h2 h1 hp' he'
    simpa [leg] using this
def fin (r : Option (List PT)) (acc : List PT) : List PT × Bool :=
  match r with
  | none => ([], false)
  | some l => if (acc ++ l).length ≤ 400 then (acc ++ l, true) else ([], false)
theorem fin_map (r : Option (List PT)) (acc l : List PT) : fin (r.map (l ++ ·)) acc = fin r (acc ++ l) := by
  cases r <;> simp [fin, List.append_assoc]
theorem impl_l0 (r : List PT) (hr : r.length ≤ 400) : ∀ (rem : List PT) (k i : Nat) (acc : List PT) (a : PT), r.drop i = rem → i ≤ r.length → okP a = true → PathTo acc 0 → Ends acc a → acc.length ≤ 1 + 9 * i → 20 * rem.length + 4000 ≤ k →
    impl_CodeStay.l0 k acc r (r.length : Int) (i : Int) a.f0 a.f1 = some (fin (stayGo a rem) acc) := by
  intro rem
  induction rem with
  | nil =>
    intro k i acc a hd hi ha hp he hacc hk
    have hlen : r.length ≤ i := by have := congrArg List.length hd; simp at this; omega
    obtain ⟨k, rfl⟩ : ∃ m, k = m + 1 := ⟨k - 1, by omega⟩
    simp only [impl_CodeStay.l0]
    rw [if_neg (by omega)]
    obtain ⟨b, hb, hb'⟩ := isPath_f acc (by omega) k (by simp at hk; omega)
    rw [hb]
    simp only [Option.bind_some, stayGo, fin, List.append_nil]
    have h0 := he.1
    by_cases h : acc.length ≤ 400
    · rw [if_pos (hb'.2 ⟨by omega, h, hp⟩), if_pos h]
    · rw [if_neg (fun hh => h (hb'.1 hh).2.1), if_neg h]
  | cons b rem ih =>
    intro k i acc a hd hi ha hp he hacc hk
    have hlt : i < r.length := by
      rcases Nat.lt_or_ge i r.length with h | h
      · exact h
      · rw [List.drop_of_length_le h] at hd; cases hd
    have hg : g r i = b := by
      rw [List.drop_eq_getElem_cons hlt] at hd
      rw [g_eq hlt]
      exact (List.cons.inj hd).1
    have hdrop : r.drop (i + 1) = rem := by
      rw [List.drop_eq_getElem_cons hlt] at hd
      exact (List.cons.inj hd).2
    simp only [List.length_cons] at hk
    obtain ⟨k, rfl⟩ : ∃ m, k = m + 2 := ⟨k - 2, by omega⟩
    simp only [impl_CodeStay.l0]
    rw [if_pos (by omega), if_pos (by omega), if_pos (by omega), rd_nat, hg, implOk, pt_eta]
    simp only [Option.bind_some, stayGo]
    have hbad : ∀ x0 x1 y0 y1 : Int, impl_CodeStay.j2 (k + 1) acc r (r.length : Int) (i : Int) true x0 x1 y0 y1 = some ([], false) := fun _ _ _ _ => by simp only [impl_CodeStay.j2, if_true]
    have hgo : good a b = true → impl_CodeStay.j2 (k + 1) acc r (r.length : Int) (i : Int) false a.f0 a.f1 b.f0 b.f1 = some (fin ((stayGo b rem).map (leg (dist a b) a b ++ ·)) acc) := fun hgd => by
      obtain ⟨hb, hne, hl⟩ := good_iff.1 hgd
      have h9 := ok_dist ha hb hl
      simp only [impl_CodeStay.j2, Bool.false_eq_true, if_false]
      rw [implToward, implToward]
      simp only [Option.bind_some]
      obtain ⟨m, hm⟩ : ∃ m, k = m + dist a b + 1 := ⟨k - dist a b - 1, by omega⟩
      obtain ⟨hp', he'⟩ := pathTo_leg b hb _ acc a ha hl rfl hp he
      rw [hm, impl_l1 r _ _ b hb (dist a b) m acc a _ _ ha hl rfl (fun _ => ⟨rfl, rfl⟩) (by omega), w_succ (by omega),
        ih m (i + 1) (acc ++ leg (dist a b) a b) b hdrop (by omega) hb hp' he' (by rw [List.length_append, leg_length]; omega) (by omega), fin_map]
    by_cases hok : okP b = true
    · rw [if_pos hok]
      by_cases heq : a = b
      · subst heq
        rw [if_pos (by rw [eq_bool]), hbad, if_neg (by rw [good_iff]; simp)]
        rfl
      · rw [if_neg (by rw [eq_bool]; exact fun e => heq e.symm)]
        by_cases hx : b.f0 = a.f0
        · have hgd : good a b = true := good_iff.2 ⟨hok, heq, .inl hx.symm⟩
          rw [if_pos hx, hgo hgd, if_pos hgd]
        · rw [if_neg hx]
          by_cases hy : b.f1 = a.f1
          · have hgd : good a b = true := good_iff.2 ⟨hok, heq, .inr hy.symm⟩
            rw [show (b.f1 != a.f1) = false by simp [hy], hgo hgd, if_pos hgd]
          · rw [show (b.f1 != a.f1) = true by simp [hy], hbad, if_neg (by rw [good_iff]; unfold InLine; omega)]
            rfl
    · rw [if_neg hok, hbad, if_neg (by rw [good_iff]; exact fun h => hok h.1)]
      rfl
theorem spec_l0 (r : List PT) (hr : r.length ≤ 400) : ∀ (rem : List PT) (k i : Nat) (acc : List PT), 1 ≤ i → r.drop i = rem → i ≤ r.length → okP (g r (i - 1)) = true → acc.length ≤ 1 + 9 * i → 20 * rem.length + 4000 ≤ k →
    spec_l22Stay.l0 k r acc (i : Int) = some (fin (stayGo (g r (i - 1)) rem) acc) := by
  intro rem
  induction rem with
  | nil =>
    intro k i acc h1 hd hi ha hacc hk
    have hlen : r.length ≤ i := by have := congrArg List.length hd; simp at this; omega
    obtain ⟨k, rfl⟩ : ∃ m, k = m + 1 := ⟨k - 1, by omega⟩
    simp only [spec_l22Stay.l0]
    rw [if_neg (by omega)]
    simp only [stayGo, fin, List.append_nil]
    by_cases h : acc.length ≤ 400
    · rw [if_neg (by omega), if_pos h]
    · rw [if_pos (by omega), if_neg h]
  | cons b rem ih =>
    intro k i acc h1 hd hi ha hacc hk
    have hlt : i < r.length := by
      rcases Nat.lt_or_ge i r.length with h | h
      · exact h
      · rw [List.drop_of_length_le h] at hd; cases hd
    have hg : g r i = b := by
      rw [List.drop_eq_getElem_cons hlt] at hd
      rw [g_eq hlt]
      exact (List.cons.inj hd).1
    have hdrop : r.drop (i + 1) = rem := by
      rw [List.drop_eq_getElem_cons hlt] at hd
      exact (List.cons.inj hd).2
    simp only [List.length_cons] at hk
    obtain ⟨k, rfl⟩ : ∃ m, k = m + 2 := ⟨k - 2, by omega⟩
    simp only [spec_l22Stay.l0]
    rw [if_pos (by omega), if_pos (by omega), w_pred (by omega) (by omega), if_pos (by omega), if_pos (by omega), rd_nat, rd_nat, hg, specOk, pt_eta]
    generalize g r (i - 1) = a at *
    simp only [Option.bind_some, stayGo]
    have hbad : ∀ x0 x1 y0 y1 : Int, spec_l22Stay.j2 (k + 1) r acc (i : Int) true x0 x1 y0 y1 = some ([], false) := fun _ _ _ _ => by simp only [spec_l22Stay.j2, if_true]
    have hgo : good a b = true → spec_l22Stay.j2 (k + 1) r acc (i : Int) false b.f0 b.f1 a.f0 a.f1 = some (fin ((stayGo b rem).map (leg (dist a b) a b ++ ·)) acc) := fun hgd => by
      obtain ⟨hb, hne, hl⟩ := good_iff.1 hgd
      have h9 := ok_dist ha hb hl
      simp only [spec_l22Stay.j2, Bool.false_eq_true, if_false]
      obtain ⟨m, hm⟩ : ∃ m, k = m + dist a b + 1 := ⟨k - dist a b - 1, by omega⟩
      have hih := ih m (i + 1) (acc ++ leg (dist a b) a b) (by omega) hdrop (by omega) (by rw [show i + 1 - 1 = i by omega, hg]; exact hb) (by rw [List.length_append, leg_length]; omega) (by omega)
      rw [show i + 1 - 1 = i by omega, hg] at hih
      rw [hm, spec_l1 r _ b hb (dist a b) m acc a ha hl rfl (by omega), w_succ (by omega), hih, fin_map]
    by_cases hok : okP b = true
    · rw [if_pos hok]
      by_cases heq : a = b
      · subst heq
        rw [if_pos (by rw [eq_bool]), hbad, if_neg (by rw [good_iff]; simp)]
        rfl
      · rw [if_neg (by rw [eq_bool]; exact fun e => heq e.symm)]
        by_cases hx : b.f0 = a.f0
        · have hgd : good a b = true := good_iff.2 ⟨hok, heq, .inl hx.symm⟩
          rw [if_pos hx, hgo hgd, if_pos hgd]
        · rw [if_neg hx]
          by_cases hy : b.f1 = a.f1
          · have hgd : good a b = true := good_iff.2 ⟨hok, heq, .inr hy.symm⟩
            rw [show (b.f1 != a.f1) = false by simp [hy], hgo hgd, if_pos hgd]
          · rw [show (b.f1 != a.f1) = true by simp [hy], hbad, if_neg (by rw [good_iff]; unfold InLine; omega)]
            rfl
    · rw [if_neg hok, hbad, if_neg (by rw [good_iff]; exact fun h => hok h.1)]
      rfl
/-- what CodeStay answers -/
def stay (t : List PT) : List PT × Bool :=
  match t with
  | [] => ([], false)
  | a :: r => if r.length ≤ 399 ∧ okP a = true then fin (stayGo a r) [a] else ([], false)
theorem one_path {a : PT} (ha : okP a = true) : PathTo [a] 0 ∧ Ends [a] a := by
  refine ⟨fun j _ hj => ?_, by simp [Ends, g]⟩
  obtain rfl : j = 0 := by simpa using hj
  exact ⟨by simpa [g] using ha, fun h => absurd h (by omega)⟩
theorem implCodeStay (t : List PT) (hl : t.length < 1000000000000000000) (k : Nat) (hk : 20000 ≤ k) : impl_CodeStay.f k t = some (stay t) := by
  obtain ⟨k, rfl⟩ : ∃ m, k = m + 1 := ⟨k - 1, by omega⟩
  have hbad : impl_CodeStay.j0 (k + 1) t true = some ([], false) := by simp only [impl_CodeStay.j0, if_true]
  unfold impl_CodeStay.f
  match t, hl, hbad with
  | [], hl, hbad =>
    rw [if_pos (by simp), hbad]
    rfl
  | a :: r, hl, hbad =>
    rw [if_neg (by simp only [List.length_cons]; omega)]
    simp only [List.length_cons] at hl
    by_cases h4 : r.length ≤ 399
    · rw [if_neg (by simp only [List.length_cons]; omega), if_pos (by simp only [List.length_cons]; omega), rd_zero, show g (a :: r) 0 = a from rfl, implOk, pt_eta]
      simp only [Option.bind_some, stay]
      by_cases hok : okP a = true
      · rw [if_pos ⟨h4, hok⟩, hok]
        simp only [impl_CodeStay.j0, Bool.not_true, Bool.false_eq_true, if_false]
        rw [if_pos (by simp only [List.length_cons]; omega), if_pos (by simp only [List.length_cons]; omega), rd_zero, show g (a :: r) 0 = a from rfl, pt_eta]
        simp only [Option.bind_some, List.drop_succ_cons, List.drop_zero]
        obtain ⟨hp, he⟩ := one_path hok
        exact impl_l0 r (by omega) r k 0 [a] a rfl (by omega) hok hp he (by simp) (by omega)
      · rw [if_neg (fun h => hok h.2), show okP a = false by simpa using hok]
        exact hbad
    · rw [if_pos (by simp only [List.length_cons]; omega), hbad]
      simp only [stay]
      rw [if_neg (fun h => h4 h.1)]
theorem specStay (t : List PT) (hl : t.length < 1000000000000000000) (k : Nat) (hk : 20000 ≤ k) : spec_l22Stay.f k t = some (stay t) := by
  obtain ⟨k, rfl⟩ : ∃ m, k = m + 1 := ⟨k - 1, by omega⟩
  have hbad : spec_l22Stay.j0 (k + 1) t true = some ([], false) := by simp only [spec_l22Stay.j0, if_true]
  unfold spec_l22Stay.f
  rw [specIn]
  simp only [Option.bind_some]
  match t, hl, hbad with
  | [], hl, hbad =>
    rw [if_neg (by simp), hbad]
    rfl
  | a :: r, hl, hbad =>
    simp only [List.length_cons] at hl
    by_cases h4 : r.length ≤ 399
    · rw [if_pos (by rw [decide_eq_true_eq]; simp only [List.length_cons]; omega), if_pos (by simp only [List.length_cons]; omega), rd_zero, show g (a :: r) 0 = a from rfl, specOk, pt_eta]
      simp only [Option.bind_some, stay]
      by_cases hok : okP a = true
      · rw [if_pos ⟨h4, hok⟩, hok]
        simp only [spec_l22Stay.j0, Bool.not_true, Bool.false_eq_true, if_false]
        rw [if_pos (by simp only [List.length_cons]; omega), rd_zero, show g (a :: r) 0 = a from rfl, pt_eta]
        have := spec_l0 (a :: r) (by simp only [List.length_cons]; omega) r k 1 [a] (by omega) rfl (by simp) hok (by simp) (by omega)
        exact this
      · rw [if_neg (fun h => hok h.2), show okP a = false by simpa using hok]
        exact hbad
    · rw [if_neg (by rw [decide_eq_true_eq]; simp only [List.length_cons]; omega), hbad]
      simp only [stay]
      rw [if_neg (fun h => h4 h.1)]
theorem specCodeStay (t : List PT) (hl : t.length < 1000000000000000000) (k : Nat) (hk : 20000 ≤ k) : spec_CodeStay.f k t = some (stay t) := by
  unfold spec_CodeStay.f
  rw [specStay t hl k hk]
  rfl
end Go.Proofs.Ytdacpdhpifocbaa.Q

namespace Go.Proofs.Ytdacpdhpifocbaa.Q
open Go.RowKit Go.Proofs.Ytdacpdhpifocbaa.P Go.Proofs.YtdacpdhpifocbaaW.PrintWords Go.Proofs.YtdacpdhpifocbaaW.PrintLast
set_option linter.unusedVariables false

theorem drop_g {l : List PT} {i : Nat} (h : i < l.length) : l.drop i = g l i :: l.drop (i + 1) := by rw [List.drop_eq_getElem_cons h, g_eq h]
/-- The turns on a leg are at its end at most. -/
theorem turns_leg (b : PT) (m : List PT) : ∀ (n : Nat) (acc : List PT) (a : PT), Ends acc a → InLine a b → dist a b = n + 1 →
    turnsFrom (acc ++ leg (n + 1) a b ++ m) acc.length = (if turnAt (acc ++ leg (n + 1) a b ++ m) (acc.length + n) = true then [b] else []) ++ turnsFrom (acc ++ leg (n + 1) a b ++ m) (acc.length + n + 1) := by
  intro n
  induction n with
  | zero =>
    intro acc a he hl hd
    obtain ⟨h1, h2, h3, h4⟩ := nxt_dist hl 0 hd
    rw [dist_zero] at h1
    rw [turnsFrom_step _ acc.length (by simp [leg_length]; omega)]
    have hg : g (acc ++ leg (0 + 1) a b ++ m) acc.length = b := by
      rw [g_append_left (by simp [leg_length])]
      simp only [leg, h1]
      exact g_append_last acc b
    rw [hg]
    simp only [Nat.add_zero]
  | succ n ih =>
    intro acc a he hl hd
    obtain ⟨h1, h2, h3, h4⟩ := nxt_dist hl (n + 1) hd
    have e : acc ++ leg (n + 1 + 1) a b ++ m = (acc ++ [nxt a b]) ++ leg (n + 1) (nxt a b) b ++ m := by simp [leg]
    have he' : Ends (acc ++ [nxt a b]) (nxt a b) := by
      refine ⟨by simp, ?_⟩
      rw [show (acc ++ [nxt a b]).length - 1 = acc.length by simp]
      exact g_append_last acc _
    have h := ih (acc ++ [nxt a b]) (nxt a b) he' h2 h1
    have hlen : ((acc ++ [nxt a b]) ++ leg (n + 1) (nxt a b) b ++ m).length = acc.length + 1 + (n + 1) + m.length := by simp [leg_length]; omega
    have g0 : g ((acc ++ [nxt a b]) ++ leg (n + 1) (nxt a b) b ++ m) (acc.length - 1) = a := by
      have := he.1
      rw [List.append_assoc, List.append_assoc, g_append_left (by omega), he.2]
    have g1 : g ((acc ++ [nxt a b]) ++ leg (n + 1) (nxt a b) b ++ m) acc.length = nxt a b := by
      rw [List.append_assoc, g_append_left (by simp), g_append_last]
    have g2 : g ((acc ++ [nxt a b]) ++ leg (n + 1) (nxt a b) b ++ m) (acc.length + 1) = nxt (nxt a b) b := by
      have e2 : (acc ++ [nxt a b]) ++ leg (n + 1) (nxt a b) b ++ m = ((acc ++ [nxt a b]) ++ [nxt (nxt a b) b]) ++ (leg n (nxt (nxt a b) b) b ++ m) := by simp [leg]
      rw [e2, g_append_left (by simp), show acc.length + 1 = (acc ++ [nxt a b]).length by simp, g_append_last]
    have hnt : turnAt ((acc ++ [nxt a b]) ++ leg (n + 1) (nxt a b) b ++ m) acc.length = false := by
      unfold turnAt
      rw [g0, g1, g2]
      have hdir := h4 (by omega)
      have := he.1
      have x0 : (nxt (nxt a b) b).f0 - (nxt a b).f0 = (nxt a b).f0 - a.f0 := by
        have p0 : (nxt (nxt a b) b).f0 = (nxt a b).f0 + sgn (nxt a b).f0 b.f0 := rfl
        have p1 : (nxt a b).f0 = a.f0 + sgn a.f0 b.f0 := rfl
        rw [p0, hdir.1]
        omega
      have x1 : (nxt (nxt a b) b).f1 - (nxt a b).f1 = (nxt a b).f1 - a.f1 := by
        have p0 : (nxt (nxt a b) b).f1 = (nxt a b).f1 + sgn (nxt a b).f1 b.f1 := rfl
        have p1 : (nxt a b).f1 = a.f1 + sgn a.f1 b.f1 := rfl
        rw [p0, hdir.2]
        omega
      have hgo : goesOn a (nxt a b) (nxt (nxt a b) b) = true := by simp only [goesOn, Bool.and_eq_true, beq_iff_eq]; exact ⟨x0, x1⟩
      rw [hgo, decide_eq_false (by omega), decide_eq_false (by omega)]
      rfl
    rw [e, turnsFrom_step _ acc.length (by omega), hnt, if_neg (by decide), List.nil_append]
    rw [show (acc ++ [nxt a b]).length = acc.length + 1 by simp] at h
    rw [h]
    rw [show acc.length + 1 + n = acc.length + (n + 1) by omega]
/-- The turns of what is between points are some of the points, in order. -/
theorem turns_sub : ∀ (r acc m : List PT) (a : PT), stayGo a r = some m → Ends acc a → List.Sublist (turnsFrom (acc ++ m) acc.length) r := by
  intro r
  induction r with
  | nil =>
    intro acc m a h he
    simp only [stayGo, Option.some.injEq] at h
    subst h
    rw [List.append_nil, turnsFrom_end _ _ (Nat.le_refl _)]
    exact List.Sublist.slnil
  | cons b r ih =>
    intro acc m a h he
    simp only [stayGo] at h
    by_cases hgd : good a b = true
    · rw [if_pos hgd] at h
      obtain ⟨hok, hne, hl⟩ := good_iff.1 hgd
      obtain ⟨n, hn⟩ : ∃ n, dist a b = n + 1 := ⟨dist a b - 1, by
        have : dist a b ≠ 0 := fun e => hne (dist_zero.1 e)
        omega⟩
      obtain ⟨m', hm, rfl⟩ := Option.map_eq_some_iff.1 h
      rw [hn, ← List.append_assoc, turns_leg b m' n acc a he hl hn]
      have he' : Ends (acc ++ leg (n + 1) a b) b := by
        clear h hm ih
        refine ⟨by rw [List.length_append, leg_length]; omega, ?_⟩
        have key : ∀ (n : Nat) (acc : List PT) (a : PT), InLine a b → dist a b = n + 1 → g (acc ++ leg (n + 1) a b) ((acc ++ leg (n + 1) a b).length - 1) = b := by
          intro n
          induction n with
          | zero =>
            intro acc a hl hd
            obtain ⟨h1, _⟩ := nxt_dist hl 0 hd
            rw [dist_zero] at h1
            simp only [leg, h1]
            rw [show (acc ++ [b]).length - 1 = acc.length by simp]
            exact g_append_last acc b
          | succ n ih =>
            intro acc a hl hd
            obtain ⟨h1, h2, _⟩ := nxt_dist hl (n + 1) hd
            have := ih (acc ++ [nxt a b]) (nxt a b) h2 h1
            rw [show acc ++ leg (n + 1 + 1) a b = (acc ++ [nxt a b]) ++ leg (n + 1) (nxt a b) b by simp [leg]]
            exact this
        exact key n acc a hl hn
      have hsub := ih (acc ++ leg (n + 1) a b) m' b hm he'
      rw [show (acc ++ leg (n + 1) a b).length = acc.length + n + 1 by simp [leg_length]; omega] at hsub
      split
      · exact List.Sublist.cons_cons b hsub
      · exact List.Sublist.cons b hsub
    · rw [if_neg hgd] at h
      cases h
theorem stayGo_path : ∀ (r acc m : List PT) (a : PT), stayGo a r = some m → okP a = true → PathTo acc 0 → Ends acc a → PathTo (acc ++ m) 0 := by
  intro r
  induction r with
  | nil =>
    intro acc m a h ha hp he
    simp only [stayGo, Option.some.injEq] at h
    subst h
    simpa using hp
  | cons b r ih =>
    intro acc m a h ha hp he
    simp only [stayGo] at h
    by_cases hgd : good a b = true
    · rw [if_pos hgd] at h
      obtain ⟨hok, hne, hl⟩ := good_iff.1 hgd
      obtain ⟨m', hm, rfl⟩ := Option.map_eq_some_iff.1 h
      obtain ⟨hp', he'⟩ := pathTo_leg b hok _ acc a ha hl rfl hp he
      rw [← List.append_assoc]
      exact ih _ m' b hm hok hp' he'
    · rw [if_neg hgd] at h
      cases h
/-- What CodeStay answers with true. -/
theorem stay_true {t l : List PT} (h : stay t = (l, true)) : IsPath l ∧ List.Sublist (turns l) t := by
  match t, h with
  | [], h => simp [stay] at h
  | a :: r, h =>
    simp only [stay] at h
    by_cases hc : r.length ≤ 399 ∧ okP a = true
    · rw [if_pos hc] at h
      cases hm : stayGo a r with
      | none => rw [hm] at h; simp [fin] at h
      | some m =>
        rw [hm] at h
        simp only [fin] at h
        by_cases h4 : ([a] ++ m).length ≤ 400
        · rw [if_pos h4] at h
          obtain rfl : [a] ++ m = l := (Prod.mk.inj h).1
          obtain ⟨hp, he⟩ := one_path hc.2
          refine ⟨⟨by simp, h4, stayGo_path r [a] m a hm hc.2 hp he⟩, ?_⟩
          unfold turns
          rw [turnsFrom_step _ 0 (by simp), if_pos (by simp [turnAt])]
          exact List.Sublist.cons_cons a (turns_sub r [a] m a hm he)
        · rw [if_neg h4] at h
          simp at h
    · rw [if_neg hc] at h
      simp at h
end Go.Proofs.Ytdacpdhpifocbaa.Q

namespace Go.Proofs.Ytdacpdhpifocbaa.Q
open Go.RowKit Go.Proofs.Ytdacpdhpifocbaa.P Go.Proofs.YtdacpdhpifocbaaW.PrintWords Go.Proofs.YtdacpdhpifocbaaW.PrintLast
set_option linter.unusedVariables false

theorem ext_g' {a b : List PT} (h : a.length = b.length) (h' : ∀ j, j < a.length → g a j = g b j) : a = b := by
  apply List.ext_getElem h
  intro i h1 h2
  have := h' i h1
  rwa [g_eq h1, g_eq h2] at this
theorem luSame_l0 (a b : List PT) (hl : a.length < 1000000000000000000) (hab : a.length = b.length) : ∀ (d k i : Nat), a.length - i = d → i ≤ a.length → d < k →
    ∃ r, laws_luSame.l0 k a b (i : Int) = some r ∧ (r = true ↔ ∀ j, i ≤ j → j < a.length → g a j = g b j) := by
  intro d
  induction d with
  | zero =>
    intro k i hd hi hk
    obtain ⟨k, rfl⟩ : ∃ m, k = m + 1 := ⟨k - 1, by omega⟩
    refine ⟨true, ?_, by simp only [true_iff]; intro j h1 h2; omega⟩
    simp only [laws_luSame.l0]
    rw [if_neg (by omega)]
  | succ d ih =>
    intro k i hd hi hk
    obtain ⟨k, rfl⟩ : ∃ m, k = m + 1 := ⟨k - 1, by omega⟩
    simp only [laws_luSame.l0]
    rw [if_pos (by omega), if_pos (by omega), if_pos (by omega), rd_nat, rd_nat]
    by_cases h : g a i = g b i
    · rw [if_neg (by rw [ne_bool]; simpa using h), w_succ (by omega)]
      obtain ⟨r, hr, hr'⟩ := ih k (i + 1) (by omega) (by omega) (by omega)
      refine ⟨r, hr, hr'.trans ⟨fun q j h1 h2 => ?_, fun q j h1 h2 => q j (by omega) h2⟩⟩
      rcases Nat.eq_or_lt_of_le h1 with e | e
      · subst e; exact h
      · exact q j e h2
    · rw [if_pos (by rw [ne_bool]; exact h)]
      exact ⟨false, rfl, by simp only [Bool.false_eq_true, false_iff]; exact fun q => h (q i (Nat.le_refl _) (by omega))⟩
theorem luSame_f (a b : List PT) (hl : a.length < 1000000000000000000) (k : Nat) (hk : a.length < k) : laws_luSame.f k a b = some (decide (a = b)) := by
  unfold laws_luSame.f
  by_cases h : a.length = b.length
  · rw [if_pos (by omega)]
    obtain ⟨r, hr, hr'⟩ := luSame_l0 a b hl h a.length k 0 (by omega) (by omega) (by omega)
    rw [show ((0 : Nat) : Int) = 0 from rfl] at hr
    rw [hr]
    congr 1
    rw [Bool.eq_iff_iff, hr', decide_eq_true_eq]
    exact ⟨fun q => ext_g' h (fun j hj => q j (by omega) hj), fun q j _ _ => by rw [q]⟩
  · rw [if_neg (by omega), decide_eq_false (fun e => h (by rw [e]))]
theorem luSame_self (a : List PT) (hl : a.length < 1000000000000000000) (k : Nat) (hk : a.length < k) : laws_luSame.f k a a = some true := by rw [luSame_f a a hl k hk]; simp
theorem mem_g {l : List PT} {p : PT} : p ∈ l ↔ ∃ j, j < l.length ∧ g l j = p := by
  rw [List.mem_iff_getElem]
  exact ⟨fun ⟨j, h, e⟩ => ⟨j, h, by rw [g_eq h]; exact e⟩, fun ⟨j, h, e⟩ => ⟨j, h, by rw [← g_eq h]; exact e⟩⟩
theorem luAmong_l0 (l : List PT) (p : PT) (hl : l.length < 1000000000000000000) : ∀ (d k i : Nat), l.length - i = d → i ≤ l.length → d < k →
    ∃ r, laws_luAmong.l0 k l (i : Int) p.f0 p.f1 = some r ∧ (r = true ↔ ∃ j, i ≤ j ∧ j < l.length ∧ g l j = p) := by
  intro d
  induction d with
  | zero =>
    intro k i hd hi hk
    obtain ⟨k, rfl⟩ : ∃ m, k = m + 1 := ⟨k - 1, by omega⟩
    refine ⟨false, ?_, by simp only [Bool.false_eq_true, false_iff]; rintro ⟨j, h1, h2, _⟩; omega⟩
    simp only [laws_luAmong.l0]
    rw [if_neg (by omega)]
  | succ d ih =>
    intro k i hd hi hk
    obtain ⟨k, rfl⟩ : ∃ m, k = m + 1 := ⟨k - 1, by omega⟩
    simp only [laws_luAmong.l0]
    rw [if_pos (by omega), if_pos (by omega), rd_nat]
    by_cases h : g l i = p
    · rw [if_pos (by rw [eq_bool]; exact h)]
      exact ⟨true, rfl, by simp only [true_iff]; exact ⟨i, Nat.le_refl _, by omega, h⟩⟩
    · rw [if_neg (by rw [eq_bool]; exact h), w_succ (by omega)]
      obtain ⟨r, hr, hr'⟩ := ih k (i + 1) (by omega) (by omega) (by omega)
      refine ⟨r, hr, hr'.trans ⟨fun ⟨j, h1, h2, h3⟩ => ⟨j, by omega, h2, h3⟩, fun ⟨j, h1, h2, h3⟩ => ⟨j, ?_, h2, h3⟩⟩⟩
      rcases Nat.eq_or_lt_of_le h1 with e | e
      · subst e; exact absurd h3 h
      · exact e
theorem luAmong_f (l : List PT) (p : PT) (hl : l.length < 1000000000000000000) (k : Nat) (hk : l.length < k) : laws_luAmong.f k l p.f0 p.f1 = some (decide (p ∈ l)) := by
  obtain ⟨r, hr, hr'⟩ := luAmong_l0 l p hl l.length k 0 (by omega) (by omega) (by omega)
  unfold laws_luAmong.f
  rw [show ((0 : Nat) : Int) = 0 from rfl] at hr
  rw [hr]
  congr 1
  rw [Bool.eq_iff_iff, hr', decide_eq_true_eq, mem_g]
  exact ⟨fun ⟨j, _, h2, h3⟩ => ⟨j, h2, h3⟩, fun ⟨j, h2, h3⟩ => ⟨j, Nat.zero_le _, h2, h3⟩⟩
theorem luPart_l0 (a b : List PT) (hl : a.length < 1000000000000000000) (hb : b.length < 1000000000000000000) : ∀ (d k i : Nat), a.length - i = d → i ≤ a.length → d + b.length + 1 < k →
    ∃ r, laws_luPart.l0 k a b (i : Int) = some r ∧ (r = true ↔ ∀ j, i ≤ j → j < a.length → g a j ∈ b) := by
  intro d
  induction d with
  | zero =>
    intro k i hd hi hk
    obtain ⟨k, rfl⟩ : ∃ m, k = m + 1 := ⟨k - 1, by omega⟩
    refine ⟨true, ?_, by simp only [true_iff]; intro j h1 h2; omega⟩
    simp only [laws_luPart.l0]
    rw [if_neg (by omega)]
  | succ d ih =>
    intro k i hd hi hk
    obtain ⟨k, rfl⟩ : ∃ m, k = m + 1 := ⟨k - 1, by omega⟩
    simp only [laws_luPart.l0]
    rw [if_pos (by omega), if_pos (by omega), rd_nat, luAmong_f b (g a i) hb k (by omega)]
    simp only [Option.bind_some, decide_eq_true_eq]
    by_cases h : g a i ∈ b
    · rw [if_pos h, w_succ (by omega)]
      obtain ⟨r, hr, hr'⟩ := ih k (i + 1) (by omega) (by omega) (by omega)
      refine ⟨r, hr, hr'.trans ⟨fun q j h1 h2 => ?_, fun q j h1 h2 => q j (by omega) h2⟩⟩
      rcases Nat.eq_or_lt_of_le h1 with e | e
      · subst e; exact h
      · exact q j e h2
    · rw [if_neg h]
      exact ⟨false, rfl, by simp only [Bool.false_eq_true, false_iff]; exact fun q => h (q i (Nat.le_refl _) (by omega))⟩
theorem luPart_f (a b : List PT) (hl : a.length < 1000000000000000000) (hb : b.length < 1000000000000000000) (k : Nat) (hk : a.length + b.length + 1 < k) : laws_luPart.f k a b = some (decide (∀ p ∈ a, p ∈ b)) := by
  obtain ⟨r, hr, hr'⟩ := luPart_l0 a b hl hb a.length k 0 (by omega) (by omega) (by omega)
  unfold laws_luPart.f
  rw [show ((0 : Nat) : Int) = 0 from rfl] at hr
  rw [hr]
  congr 1
  rw [Bool.eq_iff_iff, hr', decide_eq_true_eq]
  refine ⟨fun q p hp => ?_, fun q j _ h2 => q _ (mem_g.2 ⟨j, h2, rfl⟩)⟩
  obtain ⟨j, hj, rfl⟩ := mem_g.1 hp
  exact q j (Nat.zero_le _) hj
theorem luPart_true (a b : List PT) (hl : a.length < 1000000000000000000) (hb : b.length < 1000000000000000000) (k : Nat) (hk : a.length + b.length + 1 < k) (h : ∀ p ∈ a, p ∈ b) : laws_luPart.f k a b = some true := by
  rw [luPart_f a b hl hb k hk, decide_eq_true h]
end Go.Proofs.Ytdacpdhpifocbaa.Q

namespace Go.Proofs.Ytdacpdhpifocbaa.Q
open Go.RowKit Go.Proofs.Ytdacpdhpifocbaa.P Go.Proofs.YtdacpdhpifocbaaW.PrintWords Go.Proofs.YtdacpdhpifocbaaW.PrintLast
set_option linter.unusedVariables false

/-- bytes of a code -/
def Bytes (s : List Int) : Prop := s.length ≤ 2000 ∧ ∀ b ∈ s, 0 ≤ b ∧ b ≤ 255
theorem rd_byte {s : List Int} (hs : Bytes s) (i : Int) : 0 ≤ rd s i ∧ rd s i ≤ 255 := by
  unfold rd
  rw [List.getD_eq_getElem?_getD]
  cases h : s[i.toNat]? with
  | none => simp
  | some b =>
    obtain ⟨hi, rfl⟩ := List.getElem?_eq_some_iff.1 h
    exact hs.2 _ (List.getElem_mem hi)
theorem xor_nat (a b : Nat) (ha : a < 4611686018427387904) (hb : b < 4611686018427387904) : Go.bits .xor .i64 (a : Int) (b : Int) = ((a ^^^ b : Nat) : Int) := by
  have hx : a ^^^ b < 2 ^ 62 := Nat.xor_lt_two_pow (by simpa using ha) (by simpa using hb)
  simp only [Go.bits, BitVec.ofInt_natCast, BitVec.toNat_xor, BitVec.toNat_ofNat]
  rw [show IntKind.bits .i64 = 64 from rfl, Nat.mod_eq_of_lt (show a < 2 ^ 64 by omega), Nat.mod_eq_of_lt (show b < 2 ^ 64 by omega), IntKind.wrap_i64]
  have : (a ^^^ b) < 4611686018427387904 := by simpa using hx
  omega
theorem xor_pos {a b : Int} (ha : 0 ≤ a ∧ a < 4611686018427387904) (hb : 0 ≤ b ∧ b < 4611686018427387904) : 0 ≤ Go.bits .xor .i64 a b := by
  obtain ⟨x, rfl⟩ := Int.eq_ofNat_of_zero_le ha.1
  obtain ⟨y, rfl⟩ := Int.eq_ofNat_of_zero_le hb.1
  rw [xor_nat x y (by omega) (by omega)]
  omega
theorem tmod_pos {a b : Int} (ha : 0 ≤ a) (hb : 0 < b) : 0 ≤ Int.tmod a b ∧ Int.tmod a b < b := ⟨Int.tmod_nonneg _ ha, Int.tmod_lt_of_pos _ hb⟩
theorem pick_f {s : List Int} (hs : Bytes s) (p n : Int) (hp : 0 ≤ p ∧ p ≤ 1000000) (hn : 1 ≤ n) (k : Nat) (hk : 1 ≤ k) :
    ∃ v, spec_l6Rd_pick.f k s p n = some (v, p + 1) ∧ 0 ≤ v ∧ v < n := by
  obtain ⟨k, rfl⟩ : ∃ m, k = m + 1 := ⟨k - 1, by omega⟩
  have hl := hs.1
  unfold spec_l6Rd_pick.f
  rw [if_neg (by omega), w_id (x := p + 1) (by omega) (by omega)]
  simp only [spec_l6Rd_pick.j0]
  by_cases h0 : s.length = 0
  · rw [if_pos (by simp [h0])]
    exact ⟨0, rfl, by omega, by omega⟩
  · rw [if_neg (by simp [h0]), w_id (x := p + 1 - 1) (by omega) (by omega), show p + 1 - 1 = p by omega]
    by_cases h1 : p < (s.length : Int)
    · rw [if_pos h1, if_pos hp.1, if_neg (by omega)]
      have hb := rd_byte hs p
      rw [w_id (x := rd s p) (by omega) (by omega)]
      obtain ⟨a, b⟩ := tmod_pos hb.1 (show 0 < n by omega)
      exact ⟨_, rfl, a, b⟩
    · rw [if_neg h1, if_neg (by omega)]
      obtain ⟨a1, a2⟩ := tmod_pos hp.1 (show (0 : Int) < s.length by omega)
      rw [if_pos a1, if_pos a2]
      rw [w_id (x := p * 7) (by omega) (by omega), w_id (x := p * 7 + 3) (by omega) (by omega)]
      obtain ⟨b1, b2⟩ := tmod_pos (show 0 ≤ p * 7 + 3 by omega) (show (0 : Int) < s.length by omega)
      rw [if_pos b1, if_pos b2, if_neg (by omega)]
      have hb := rd_byte hs (Int.tmod p (s.length : Int))
      have hc := rd_byte hs (Int.tmod (p * 7 + 3) (s.length : Int))
      generalize rd s (Int.tmod p (s.length : Int)) = x at *
      generalize rd s (Int.tmod (p * 7 + 3) (s.length : Int)) = y at *
      have hd : 0 ≤ Int.tdiv p (s.length : Int) ∧ Int.tdiv p (s.length : Int) ≤ 1000000 := by
        refine ⟨Int.tdiv_nonneg hp.1 (by omega), ?_⟩
        rw [Int.tdiv_eq_ediv_of_nonneg hp.1]
        exact Int.le_trans (Int.ediv_le_self _ hp.1) hp.2
      generalize Int.tdiv p (s.length : Int) = z at *
      rw [w_id (x := x) (by omega) (by omega), w_id (x := y) (by omega) (by omega), w_id (x := z) (by omega) (by omega), w_id (x := x * 131) (by omega) (by omega), w_id (x := y * 1117) (by omega) (by omega), w_id (x := x * 131 + y * 1117) (by omega) (by omega),
        w_id (x := p * 29) (by omega) (by omega), w_id (x := x * 131 + y * 1117 + p * 29) (by omega) (by omega), w_id (x := z * 53) (by omega) (by omega), w_id (x := x * 131 + y * 1117 + p * 29 + z * 53) (by omega) (by omega)]
      have ht : 0 ≤ x * 131 + y * 1117 + p * 29 + z * 53 ∧ x * 131 + y * 1117 + p * 29 + z * 53 < 1000000000 := by omega
      generalize x * 131 + y * 1117 + p * 29 + z * 53 = t at *
      have hu : 0 ≤ Int.tdiv t 64 ∧ Int.tdiv t 64 < 1000000000 := by
        rw [Int.tdiv_eq_ediv_of_nonneg ht.1]
        omega
      rw [w_id (x := Int.tdiv t 64) (by omega) (by omega)]
      obtain ⟨c1, c2⟩ := tmod_pos (xor_pos (a := t) (b := Int.tdiv t 64) (by omega) (by omega)) (show 0 < n by omega)
      exact ⟨_, rfl, c1, c2⟩
theorem open_f (l : List Int) (hb : ∀ x ∈ l, (Lit.int .u8 x).wf = true) : ∃ s, spec_l6Open.f l = some (s, 0) ∧ Bytes s := by
  have hb' : ∀ x ∈ l, 0 ≤ x ∧ x ≤ 255 := fun x hx => by
    have := hb x hx
    simp [Lit.wf, IntKind.min, IntKind.max, IntKind.bits, IntKind.signed] at this
    omega
  unfold spec_l6Open.f
  by_cases h : (l.length : Int) > 2000
  · rw [if_pos h, if_pos (by omega)]
    exact ⟨_, rfl, by simp; omega, fun b hb => hb' b (List.mem_of_mem_take hb)⟩
  · rw [if_neg h]
    exact ⟨_, rfl, by omega, hb'⟩
theorem l71Pt_f {s : List Int} (hs : Bytes s) (p : Int) (hp : 0 ≤ p ∧ p ≤ 999990) (k : Nat) (hk : 1 ≤ k) :
    ∃ x y q, spec_l71Pt.f k s p = some (x, y, q) ∧ p ≤ q ∧ q ≤ p + 4 ∧ -1 ≤ x ∧ x ≤ 10 ∧ -1 ≤ y ∧ y ≤ 10 := by
  unfold spec_l71Pt.f
  obtain ⟨a, ha, a0, a1⟩ := pick_f hs p 10 (by omega) (by omega) k hk
  rw [ha]
  simp only [Option.bind_some]
  obtain ⟨b, hb, b0, b1⟩ := pick_f hs (p + 1) 10 (by omega) (by omega) k hk
  rw [hb]
  simp only [Option.bind_some]
  obtain ⟨c, hc, c0, c1⟩ := pick_f hs (p + 1 + 1) 40 (by omega) (by omega) k hk
  rw [hc]
  simp only [Option.bind_some]
  obtain ⟨d, hd, d0, d1⟩ := pick_f hs (p + 1 + 1 + 1) 2 (by omega) (by omega) k hk
  have hr : -1 ≤ rd [-1, 10] d ∧ rd [-1, 10] d ≤ 10 := by
    have : d = 0 ∨ d = 1 := by omega
    rcases this with rfl | rfl <;> simp [rd]
  by_cases e0 : c = 0
  · rw [if_pos e0, hd]
    simp only [Option.bind_some]
    rw [if_pos d0, if_pos (by simpa using d1)]
    exact ⟨_, _, _, rfl, by omega, by omega, hr.1, hr.2, by omega, by omega⟩
  · rw [if_neg e0]
    by_cases e1 : c = 1
    · rw [if_pos e1, hd]
      simp only [Option.bind_some]
      rw [if_pos d0, if_pos (by simpa using d1)]
      exact ⟨_, _, _, rfl, by omega, by omega, by omega, by omega, hr.1, hr.2⟩
    · rw [if_neg e1]
      exact ⟨_, _, _, rfl, by omega, by omega, by omega, by omega, by omega, by omega⟩
end Go.Proofs.Ytdacpdhpifocbaa.Q

