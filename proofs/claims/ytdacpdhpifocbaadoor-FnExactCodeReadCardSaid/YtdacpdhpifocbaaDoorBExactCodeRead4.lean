/- Part 5 of what ExactCodeRead rests on: contracts of the program's functions and plain facts (the print's texts and the session's own, put together). -/
import Derived.Test.YtdacpdhpifocbaaDoorBExactCodeRead3
namespace Go.Proofs.YtdacpdhpifocbaaDoor.P
open Go.RowKit Go.Proofs.YtdacpdhpifocbaaDoorW.PrintWords Go.Proofs.YtdacpdhpifocbaaDoorW.PrintLast Go.Proofs.YtdacpdhpifocbaaDoorW.PrintMore
attribute [local go_sem] max2_int min2_int max_two min_two max_three min_three max_four min_four   -- for this text's walks alone
set_option linter.unusedVariables false
set_option linter.unusedSimpArgs false

/-! ### laws_FnExactCodeRead: function 8 -/
mutual
def laws_FnExactCodeRead.j0 : Nat → ByteArray → List (S35) → Bool → List (S35) → Bool → Option (Bool)
  | 0, _, _, _, _, _ => none
  | k + 1, x0, x3, x4, x5, x32 => if x32 = true then (some false) else ((laws_markPtS.f k x5 1).bind fun bt110 => ((laws_heldPtS.f k bt110.2 1).bind fun t112 => (if t112 < 0 then (some false) else (if t112 = bt110.1 then ((impl_CodeRead.f k x0).bind fun bt113 => ((laws_eqPtS.f k bt113.1 x3).bind fun t117 => (if t117 = true then (laws_FnExactCodeRead.j1 k bt110.2 bt110.1 (bt113.2 != x4)) else (laws_FnExactCodeRead.j1 k bt110.2 bt110.1 true)))) else (some false)))))
def laws_FnExactCodeRead.j1 : Nat → List (S35) → Int → Bool → Option (Bool)
  | 0, _, _, _ => none
  | k + 1, x5, x7, x57 => if x57 = true then (some false) else ((laws_heldPtS.f k x5 1).bind fun t118 => (if t118 < 0 then (some false) else (if t118 = x7 then (some true) else (some false))))
end
def laws_FnExactCodeRead.f (k : Nat) (a0 : ByteArray) : Option (Bool) := if (a0.size : Int) > 1048576 then (some true) else ((spec_CodeRead.f k a0).bind fun bt101 => ((impl_CodeRead.f k a0).bind fun bt105 => ((laws_eqPtS.f k bt105.1 bt101.1).bind fun t109 => (if t109 = true then (laws_FnExactCodeRead.j0 k a0 bt101.1 bt101.2 bt105.1 (bt105.2 != bt101.2)) else (laws_FnExactCodeRead.j0 k a0 bt101.1 bt101.2 bt105.1 true)))))
theorem laws_FnExactCodeRead.mono_l : ∀ k, (∀ y0 y1 y2 y3 y4, LeO (laws_FnExactCodeRead.j0 k y0 y1 y2 y3 y4) (laws_FnExactCodeRead.j0 (k + 1) y0 y1 y2 y3 y4)) ∧ (∀ y0 y1 y2, LeO (laws_FnExactCodeRead.j1 k y0 y1 y2) (laws_FnExactCodeRead.j1 (k + 1) y0 y1 y2))
  | 0 => ⟨fun _ _ _ _ _ r h => by simp [laws_FnExactCodeRead.j0] at h, fun _ _ _ r h => by simp [laws_FnExactCodeRead.j1] at h⟩
  | k + 1 => by
    obtain ⟨ih0, ih1⟩ := laws_FnExactCodeRead.mono_l k
    refine ⟨?_, ?_⟩
    · intro y0 y1 y2 y3 y4
      unfold laws_FnExactCodeRead.j0
      repeat' first
      | (with_reducible exact ih0 _ _ _ _ _)
      | (with_reducible exact ih1 _ _ _)
      | (with_reducible exact impl_CodeRead.mono _ _)
      | (with_reducible exact laws_eqPtS.mono _ _ _)
      | (with_reducible exact laws_heldPtS.mono _ _ _)
      | (with_reducible exact laws_markPtS.mono _ _ _)
      | (with_reducible exact spec_CodeRead.mono _ _)
      | (with_reducible exact LeO.refl _)
      | (with_reducible exact LeO.none _)
      | (with_reducible refine LeO.ite ?_ ?_)
      | (with_reducible refine LeO.bind ?_ (fun _ => ?_))
      | exact ih0 _ _ _ _ _
      | exact ih1 _ _ _
      | exact impl_CodeRead.mono _ _
      | exact laws_eqPtS.mono _ _ _
      | exact laws_heldPtS.mono _ _ _
      | exact laws_markPtS.mono _ _ _
      | exact spec_CodeRead.mono _ _
      | exact LeO.none _
      | refine LeO.ite ?_ ?_
      | refine LeO.bind ?_ (fun _ => ?_)
    · intro y0 y1 y2
      unfold laws_FnExactCodeRead.j1
      repeat' first
      | (with_reducible exact ih0 _ _ _ _ _)
      | (with_reducible exact ih1 _ _ _)
      | (with_reducible exact impl_CodeRead.mono _ _)
      | (with_reducible exact laws_eqPtS.mono _ _ _)
      | (with_reducible exact laws_heldPtS.mono _ _ _)
      | (with_reducible exact laws_markPtS.mono _ _ _)
      | (with_reducible exact spec_CodeRead.mono _ _)
      | (with_reducible exact LeO.refl _)
      | (with_reducible exact LeO.none _)
      | (with_reducible refine LeO.ite ?_ ?_)
      | (with_reducible refine LeO.bind ?_ (fun _ => ?_))
      | exact ih0 _ _ _ _ _
      | exact ih1 _ _ _
      | exact impl_CodeRead.mono _ _
      | exact laws_eqPtS.mono _ _ _
      | exact laws_heldPtS.mono _ _ _
      | exact laws_markPtS.mono _ _ _
      | exact spec_CodeRead.mono _ _
      | exact LeO.none _
      | refine LeO.ite ?_ ?_
      | refine LeO.bind ?_ (fun _ => ?_)
theorem laws_FnExactCodeRead.mono : ∀ a0 k, LeO (laws_FnExactCodeRead.f k a0) (laws_FnExactCodeRead.f (k + 1) a0) := by
  intro a0 k
  obtain ⟨ih0, ih1⟩ := laws_FnExactCodeRead.mono_l k
  unfold laws_FnExactCodeRead.f
  repeat' first
      | (with_reducible exact ih0 _ _ _ _ _)
      | (with_reducible exact ih1 _ _ _)
      | (with_reducible exact impl_CodeRead.mono _ _)
      | (with_reducible exact laws_eqPtS.mono _ _ _)
      | (with_reducible exact laws_heldPtS.mono _ _ _)
      | (with_reducible exact laws_markPtS.mono _ _ _)
      | (with_reducible exact spec_CodeRead.mono _ _)
      | (with_reducible exact LeO.refl _)
      | (with_reducible exact LeO.none _)
      | (with_reducible refine LeO.ite ?_ ?_)
      | (with_reducible refine LeO.bind ?_ (fun _ => ?_))
      | exact ih0 _ _ _ _ _
      | exact ih1 _ _ _
      | exact impl_CodeRead.mono _ _
      | exact laws_eqPtS.mono _ _ _
      | exact laws_heldPtS.mono _ _ _
      | exact laws_markPtS.mono _ _ _
      | exact spec_CodeRead.mono _ _
      | exact LeO.none _
      | refine LeO.ite ?_ ?_
      | refine LeO.bind ?_ (fun _ => ?_)
set_option maxHeartbeats 8000000 in
set_option maxRecDepth 100000 in
theorem laws_FnExactCodeRead.calls (k : Nat) (a0 : ByteArray) (r : Bool) (w : World) (h : laws_FnExactCodeRead.f k a0 = some r) :
  Calls Tryd.prog 8 #[.string a0] w fun e w' => e = .returned (.bool r) ∧ Below w.heap.size w w' := by
 have HB := Aside0.mk (Below.refl w.heap.size w); have H : (if (a0.size : Int) > 1048576 then (some true) else ((spec_CodeRead.f k a0).bind fun bt101 => ((impl_CodeRead.f k a0).bind fun bt105 => ((laws_eqPtS.f k bt105.1 bt101.1).bind fun t109 => (if t109 = true then (laws_FnExactCodeRead.j0 k a0 bt101.1 bt101.2 bt105.1 (bt105.2 != bt101.2)) else (laws_FnExactCodeRead.j0 k a0 bt101.1 bt101.2 bt105.1 true)))))) = some r := h; clear h
 by_cases c2 : (a0.size : Int) > 1048576
 ·rw [if_pos c2] at H
  have c2b0 : decide (1048576 < (a0.size : Int)) = true := decide_eq_true c2; have c2b1 : decide (1048576 < a0.size) = true := decide_eq_true (by omega); clear c2; obtain rfl := Option.some.inj H; go_enter Tryd.func8, Tryd.ntmps8; go_wp2; go_ret
  exact ⟨by first | rfl | (simp [errW_none, errW_some] <;> rfl) | (simp [*, errW_none, errW_some] <;> rfl), by repeat (first | (with_reducible first | exact HB.out | apply below_alloc | apply pw_below_drewN | apply below_drew1) | exact HB.out)⟩
 ·rw [if_neg c2] at H
  have c2b0 : decide (1048576 < (a0.size : Int)) = false := decide_eq_false c2; have c2b1 : decide (1048576 < a0.size) = false := decide_eq_false (by omega); clear c2; replace H := Option.bind_eq_some_iff.mp H; obtain ⟨⟨t101, t102⟩, A30, H⟩ := H; replace H : ((impl_CodeRead.f k a0).bind fun bt105 => ((laws_eqPtS.f k bt105.1 t101).bind fun t109 => (if t109 = true then (laws_FnExactCodeRead.j0 k a0 t101 t102 bt105.1 (bt105.2 != t102)) else (laws_FnExactCodeRead.j0 k a0 t101 t102 bt105.1 true)))) = some r := H; have A3 := Aside0.mk A30; clear A30; replace H := Option.bind_eq_some_iff.mp H; obtain ⟨⟨t105, t106⟩, A40, H⟩ := H; replace H : ((laws_eqPtS.f k t105 t101).bind fun t109 => (if t109 = true then (laws_FnExactCodeRead.j0 k a0 t101 t102 t105 (t106 != t102)) else (laws_FnExactCodeRead.j0 k a0 t101 t102 t105 true))) = some r := H; have A4 := Aside0.mk A40; clear A40; have HC5 := Aside0.mk H; clear H; go_enter Tryd.func8, Tryd.ntmps8; go_upto_region 5 with (first | ((with_reducible refine gate_callee (f := 24) rfl ?_); refine goesL_ (some 16) rfl rfl Tryd.func24 (by kernel_rfl) rfl #[.string a0] rfl (by (try simp only [List.map_toArray, List.map_cons, List.map_nil]); first | done | rfl | (simp only [List.length_drop, List.length_take]; rfl)) ?_; (with_reducible refine (spec_CodeRead.calls k a0 t101 t102 _ A3.out).mono ?_); rintro e w6 ⟨v103, rfl, ho0, hb⟩; refine ⟨_, rfl, ?_⟩; have n0_ := Aside0.mk (Kd.R_lower ho0 (below_size (by repeat (first | (with_reducible first | exact HB.out | apply below_alloc | apply pw_below_drewN | apply below_drew1) | exact HB.out)))); have n1_ := Aside0.mk (below_step (by repeat (first | (with_reducible first | exact HB.out | apply below_alloc | apply pw_below_drewN | apply below_drew1) | exact HB.out)) hb); clear HB; have HO104 := n0_; have HB := n1_; clear n0_ n1_; (try clear hb); (try clear hb2); (try clear hk); (try clear hi); (try clear ho0)) | ((with_reducible refine gate_callee (f := 21) rfl ?_); refine goesL_ (some 21) rfl rfl Tryd.func21 (by kernel_rfl) rfl #[.string a0] rfl (by (try simp only [List.map_toArray, List.map_cons, List.map_nil]); first | done | rfl | (simp only [List.length_drop, List.length_take]; rfl)) ?_; (with_reducible refine (impl_CodeRead.calls k a0 t105 t106 _ A4.out).mono ?_); rintro e w7 ⟨v107, rfl, ho0, hb⟩; refine ⟨_, rfl, ?_⟩; have n0_ := Aside0.mk (Kd.R_elder' (by (with_reducible repeat (first | apply Kd.R_alloc | apply Kd.R_drewN | apply Kd.R_drew)); exact HO104.out) (Kd.R_base ho0) hb); have n1_ := Aside0.mk (Kd.R_lower (Kd.R_new' ho0 (Kd.R_lt (by (with_reducible repeat (first | apply Kd.R_alloc | apply Kd.R_drewN | apply Kd.R_drew)); exact HO104.out))) (below_size (by repeat (first | (with_reducible first | exact HB.out | apply below_alloc | apply pw_below_drewN | apply below_drew1) | exact HB.out)))); have n2_ := Aside0.mk (below_step (by repeat (first | (with_reducible first | exact HB.out | apply below_alloc | apply pw_below_drewN | apply below_drew1) | exact HB.out)) hb); clear HO104; clear HB; have HO104 := n0_; have HO108 := n1_; have HB := n2_; clear n0_ n1_ n2_; (try clear hb); (try clear hb2); (try clear hk); (try clear hi); (try clear ho0))); (try simp only [Act.put, List.setIfInBounds_toArray, List.set_cons_zero, List.set_cons_succ]); go_cut [32] (fun v32 wc => ∃ (kq : Nat) (x32_4 : Bool), v32 = .bool x32_4 ∧ Aside0 (laws_FnExactCodeRead.j0 kq a0 t101 t102 t105 x32_4 = some r) ∧ Aside0 (kq ≤ k) ∧ Aside0 (Kd.R k35 35 wc w.heap.size (fun k_ => some k_ ≠ (v107 : Value).ownBlock) v103 t101) ∧ Aside0 (Kd.R k35 35 wc w.heap.size (fun k_ => some k_ ≠ (v103 : Value).ownBlock) v107 t105) ∧ Aside0 (Below w.heap.size w wc))
  case first =>
   have H := HC5.out; clear HC5; replace H := Option.bind_eq_some_iff.mp H; obtain ⟨t109, A80, H⟩ := H; replace H : (if t109 = true then (laws_FnExactCodeRead.j0 k a0 t101 t102 t105 (t106 != t102)) else (laws_FnExactCodeRead.j0 k a0 t101 t102 t105 true)) = some r := H; have A8 := Aside0.mk A80; clear A80
   by_cases c9 : t109 = true
   ·subst c9
    have H1 : (laws_FnExactCodeRead.j0 k a0 t101 t102 t105 (t106 != t102)) = some r := by rw [if_pos rfl] at H; exact H
    clear H; have H := H1; clear H1; have H' := Aside0.mk H; clear H; obtain ⟨Ao10, co10, eo10⟩ := Kd.R_slice HO108.out; subst eo10; obtain ⟨Ao11, co11, eo11⟩ := Kd.R_slice HO104.out; subst eo11; go_wp2_with (first | ((with_reducible refine gate_callee (f := 14) rfl ?_); refine goesL_ (some 26) rfl rfl Tryd.func14 (by kernel_rfl) rfl #[.slice Ao10 t105.length co10, .slice Ao11 t101.length co11] rfl (by (try simp only [List.map_toArray, List.map_cons, List.map_nil]); first | done | rfl | (simp only [List.length_drop, List.length_take]; rfl)) ?_; (with_reducible refine (laws_eqPtS.calls k _ _ t105 _ _ t101 true _ ?side1 ?side2 ?side3 ?side4 A8.out).mono ?_); (case side1 => repeat (first | exact (Kd.R_reads' HO108.out).2.2 | (with_reducible refine Kd.C_alloc ?_ _) | (with_reducible refine Kd.C_drewN ?_ _) | (with_reducible refine Kd.C_drew ?_))); (case side2 => exact (Kd.R_reads' HO108.out).2.1); (case side3 => repeat (first | exact (Kd.R_reads' HO104.out).2.2 | (with_reducible refine Kd.C_alloc ?_ _) | (with_reducible refine Kd.C_drewN ?_ _) | (with_reducible refine Kd.C_drew ?_))); (case side4 => exact (Kd.R_reads' HO104.out).2.1); rintro e w12 ⟨rfl, hb⟩; refine ⟨_, rfl, ?_⟩; have n0_ := Aside0.mk (Kd.R_below (by (with_reducible repeat (first | apply Kd.R_alloc | apply Kd.R_drewN | apply Kd.R_drew)); exact HO104.out) hb); have n1_ := Aside0.mk (Kd.R_below (by (with_reducible repeat (first | apply Kd.R_alloc | apply Kd.R_drewN | apply Kd.R_drew)); exact HO108.out) hb); have n2_ := Aside0.mk (below_step (by repeat (first | (with_reducible first | exact HB.out | apply below_alloc | apply pw_below_drewN | apply below_drew1) | exact HB.out)) hb); clear HO104; clear HO108; clear HB; have HO104 := n0_; have HO108 := n1_; have HB := n2_; clear n0_ n1_ n2_; (try clear hb); (try clear hb2); (try clear hk); (try clear hi))); go_meet
    case rel => exact ⟨_, ((t106 != t102)), (by first | rfl | (simp; done) | (simp [*]; done)), H', ⟨by first | omega | exact Nat.le_refl _⟩, ⟨by (with_reducible repeat (first | apply Kd.R_alloc | apply Kd.R_drewN | apply Kd.R_drew)); exact Kd.R_mono HO104.out (fun _ hk => hk.2)⟩, ⟨by (with_reducible repeat (first | apply Kd.R_alloc | apply Kd.R_drewN | apply Kd.R_drew)); exact Kd.R_mono HO108.out (fun _ hk => hk.2)⟩, ⟨by repeat (first | (with_reducible first | exact HB.out | apply below_alloc | apply pw_below_drewN | apply below_drew1) | exact HB.out)⟩⟩
   ·replace c9 := Bool.eq_false_iff.mpr c9
    subst c9
    have H1 : (laws_FnExactCodeRead.j0 k a0 t101 t102 t105 true) = some r := by rw [if_neg (show ¬ (false = true) by decide)] at H; exact H
    clear H; have H := H1; clear H1; have H' := Aside0.mk H; clear H; obtain ⟨Ao13, co13, eo13⟩ := Kd.R_slice HO108.out; subst eo13; obtain ⟨Ao14, co14, eo14⟩ := Kd.R_slice HO104.out; subst eo14; go_wp2_with (first | ((with_reducible refine gate_callee (f := 14) rfl ?_); refine goesL_ (some 26) rfl rfl Tryd.func14 (by kernel_rfl) rfl #[.slice Ao13 t105.length co13, .slice Ao14 t101.length co14] rfl (by (try simp only [List.map_toArray, List.map_cons, List.map_nil]); first | done | rfl | (simp only [List.length_drop, List.length_take]; rfl)) ?_; (with_reducible refine (laws_eqPtS.calls k _ _ t105 _ _ t101 false _ ?side1 ?side2 ?side3 ?side4 A8.out).mono ?_); (case side1 => repeat (first | exact (Kd.R_reads' HO108.out).2.2 | (with_reducible refine Kd.C_alloc ?_ _) | (with_reducible refine Kd.C_drewN ?_ _) | (with_reducible refine Kd.C_drew ?_))); (case side2 => exact (Kd.R_reads' HO108.out).2.1); (case side3 => repeat (first | exact (Kd.R_reads' HO104.out).2.2 | (with_reducible refine Kd.C_alloc ?_ _) | (with_reducible refine Kd.C_drewN ?_ _) | (with_reducible refine Kd.C_drew ?_))); (case side4 => exact (Kd.R_reads' HO104.out).2.1); rintro e w15 ⟨rfl, hb⟩; refine ⟨_, rfl, ?_⟩; have n0_ := Aside0.mk (Kd.R_below (by (with_reducible repeat (first | apply Kd.R_alloc | apply Kd.R_drewN | apply Kd.R_drew)); exact HO104.out) hb); have n1_ := Aside0.mk (Kd.R_below (by (with_reducible repeat (first | apply Kd.R_alloc | apply Kd.R_drewN | apply Kd.R_drew)); exact HO108.out) hb); have n2_ := Aside0.mk (below_step (by repeat (first | (with_reducible first | exact HB.out | apply below_alloc | apply pw_below_drewN | apply below_drew1) | exact HB.out)) hb); clear HO104; clear HO108; clear HB; have HO104 := n0_; have HO108 := n1_; have HB := n2_; clear n0_ n1_ n2_; (try clear hb); (try clear hb2); (try clear hk); (try clear hi))); go_meet
    case rel => exact ⟨_, (true), (by first | rfl | (simp; done) | (simp [*]; done)), H', ⟨by first | omega | exact Nat.le_refl _⟩, ⟨by (with_reducible repeat (first | apply Kd.R_alloc | apply Kd.R_drewN | apply Kd.R_drew)); exact Kd.R_mono HO104.out (fun _ hk => hk.2)⟩, ⟨by (with_reducible repeat (first | apply Kd.R_alloc | apply Kd.R_drewN | apply Kd.R_drew)); exact Kd.R_mono HO108.out (fun _ hk => hk.2)⟩, ⟨by repeat (first | (with_reducible first | exact HB.out | apply below_alloc | apply pw_below_drewN | apply below_drew1) | exact HB.out)⟩⟩
  case rest =>
   clear HC5
   try clear c1
   try clear c2
   try clear c2b0
   try clear c2b1
   try clear p2
   try clear c8
   try clear c9
   try clear c14
   obtain ⟨kq, x32_4, rfl, HA, HJ4, HO_3, HO_5, HB⟩ := hcut
   cases kq with
   | zero => exact absurd HA.out (by simp [laws_FnExactCodeRead.j0])
   | succ kj4 =>
    have H := HA.out; clear HA; simp only [laws_FnExactCodeRead.j0] at H
    by_cases c16 : x32_4 = true
    ·subst c16
     have H1 : (some false) = some r := by rw [if_pos rfl] at H; exact H
     clear H; have H := H1; clear H1; obtain rfl := Option.some.inj H; go_wp2; go_ret
     exact ⟨by first | rfl | (simp [errW_none, errW_some] <;> rfl) | (simp [*, errW_none, errW_some] <;> rfl), by repeat (first | (with_reducible first | exact HB.out | apply below_alloc | apply pw_below_drewN | apply below_drew1) | exact HB.out)⟩
    ·replace c16 := Bool.eq_false_iff.mpr c16
     subst c16
     have H1 : ((laws_markPtS.f kj4 t105 1).bind fun bt110 => ((laws_heldPtS.f kj4 bt110.2 1).bind fun t112 => (if t112 < 0 then (some false) else (if t112 = bt110.1 then ((impl_CodeRead.f kj4 a0).bind fun bt113 => ((laws_eqPtS.f kj4 bt113.1 t101).bind fun t117 => (if t117 = true then (laws_FnExactCodeRead.j1 kj4 bt110.2 bt110.1 (bt113.2 != t102)) else (laws_FnExactCodeRead.j1 kj4 bt110.2 bt110.1 true)))) else (some false))))) = some r := by rw [if_neg (show ¬ (false = true) by decide)] at H; exact H
     clear H; have H := H1; clear H1; replace H := Option.bind_eq_some_iff.mp H; obtain ⟨⟨t110, t111⟩, A170, H⟩ := H; replace H : ((laws_heldPtS.f kj4 t111 1).bind fun t112 => (if t112 < 0 then (some false) else (if t112 = t110 then ((impl_CodeRead.f kj4 a0).bind fun bt113 => ((laws_eqPtS.f kj4 bt113.1 t101).bind fun t117 => (if t117 = true then (laws_FnExactCodeRead.j1 kj4 t111 t110 (bt113.2 != t102)) else (laws_FnExactCodeRead.j1 kj4 t111 t110 true)))) else (some false)))) = some r := H; have A17 := Aside0.mk A170; clear A170; replace H := Option.bind_eq_some_iff.mp H; obtain ⟨t112, A180, H⟩ := H; replace H : (if t112 < 0 then (some false) else (if t112 = t110 then ((impl_CodeRead.f kj4 a0).bind fun bt113 => ((laws_eqPtS.f kj4 bt113.1 t101).bind fun t117 => (if t117 = true then (laws_FnExactCodeRead.j1 kj4 t111 t110 (bt113.2 != t102)) else (laws_FnExactCodeRead.j1 kj4 t111 t110 true)))) else (some false))) = some r := H; have A18 := Aside0.mk A180; clear A180
     by_cases c19 : t112 < 0
     ·rw [if_pos c19] at H
      have c19b0 : decide (t112 < 0) = true := decide_eq_true c19; clear c19; obtain rfl := Option.some.inj H; obtain ⟨Ao20, co20, eo20⟩ := Kd.R_slice HO_5.out; subst eo20; go_wp2_with (first | ((with_reducible refine gate_callee (f := 25) rfl ?_); refine goesL_ (some 35) rfl rfl Tryd.func25 (by kernel_rfl) rfl #[.slice Ao20 t105.length co20, .int .i64 1] rfl (by (try simp only [List.map_toArray, List.map_cons, List.map_nil]); first | done | rfl | (simp only [List.length_drop, List.length_take]; rfl)) ?_; (with_reducible refine (laws_markPtS.calls kj4 (fun k_ => some k_ = (.slice Ao20 t105.length co20 : Value).ownBlock) (.slice Ao20 t105.length co20) t105 1 t110 t111 w _ ?side1 ?side2 A17.out).mono ?_); (case side1 => repeat (first | (with_reducible first | exact HB.out | apply below_alloc | apply pw_below_drewN | apply below_drew1) | exact HB.out)); (case side2 => exact Kd.R_tight rfl HO_5.out); rintro e w21 ⟨rfl, hy0, hb, hkp⟩; refine ⟨_, rfl, ?_⟩; have n0_ := Aside0.mk (Kd.R_mono (ok' := fun k_ => some k_ ≠ (.slice Ao20 t105.length co20 : Value).ownBlock) (Kd.R_keptB (HO_3.out) hkp (fun k_ hk_ hs_ => (hk_) hs_)) (fun k_ hk_ => hk_.1)); have n1_ := Aside0.mk (Kd.R_reok rfl hy0 (fun k_ e_ => HO_5.out.1 k_ e_)); have n2_ := Aside0.mk (hb); clear HO_3; clear HO_5; clear HB; have HO_3 := n0_; have HO_5 := n1_; have HB := n2_; clear n0_ n1_ n2_; (try clear hb); (try clear hkp); (try clear hy0)) | ((with_reducible refine gate_callee (f := 26) rfl ?_); refine goesL_ (some 38) rfl rfl Tryd.func26 (by kernel_rfl) rfl #[.slice Ao20 t111.length co20, .int .i64 1] rfl (by (try simp only [List.map_toArray, List.map_cons, List.map_nil]); first | done | (rw [show t111.length = t105.length from (Kd.R_reads' HO_5.out).1.symm] <;> rfl) | rfl | (simp only [List.length_drop, List.length_take]; rfl)) ?_; (with_reducible refine (laws_heldPtS.calls kj4 _ _ t111 1 t112 _ ?side1 ?side2 A18.out).mono ?_); (case side1 => repeat (first | exact (Kd.R_reads' HO_5.out).2.2 | (with_reducible refine Kd.C_alloc ?_ _) | (with_reducible refine Kd.C_drewN ?_ _) | (with_reducible refine Kd.C_drew ?_))); (case side2 => rw [show t111.length = t105.length from (Kd.R_reads' HO_5.out).1.symm]; exact (Kd.R_reads' HO_5.out).2.1); rintro e w' ⟨rfl, ⟨nd, rfl⟩⟩; refine ⟨_, rfl, ?_⟩)); go_ret
      exact ⟨by first | rfl | (simp [errW_none, errW_some] <;> rfl) | (simp [*, errW_none, errW_some] <;> rfl), by repeat (first | (with_reducible first | exact HB.out | apply below_alloc | apply pw_below_drewN | apply below_drew1) | exact HB.out)⟩
     ·rw [if_neg c19] at H
      have c19b0 : decide (t112 < 0) = false := decide_eq_false c19; clear c19
      by_cases c22 : t112 = t110
      ·rw [if_pos c22] at H
       have c22b0 : (t112 == t110) = true := beq_iff_eq.mpr c22; have c22b1 : (t112 != t110) = false := bne_eq_false_iff_eq.mpr c22; clear c22; replace H := Option.bind_eq_some_iff.mp H; obtain ⟨⟨t113, t114⟩, A230, H⟩ := H; replace H : ((laws_eqPtS.f kj4 t113 t101).bind fun t117 => (if t117 = true then (laws_FnExactCodeRead.j1 kj4 t111 t110 (t114 != t102)) else (laws_FnExactCodeRead.j1 kj4 t111 t110 true))) = some r := H; have A23 := Aside0.mk A230; clear A230; have HC24 := Aside0.mk H; clear H; obtain ⟨Ao25, co25, eo25⟩ := Kd.R_slice HO_5.out; subst eo25; go_upto_region 16 with (first | ((with_reducible refine gate_callee (f := 25) rfl ?_); refine goesL_ (some 35) rfl rfl Tryd.func25 (by kernel_rfl) rfl #[.slice Ao25 t105.length co25, .int .i64 1] rfl (by (try simp only [List.map_toArray, List.map_cons, List.map_nil]); first | done | rfl | (simp only [List.length_drop, List.length_take]; rfl)) ?_; (with_reducible refine (laws_markPtS.calls kj4 (fun k_ => some k_ = (.slice Ao25 t105.length co25 : Value).ownBlock) (.slice Ao25 t105.length co25) t105 1 t110 t111 w _ ?side1 ?side2 A17.out).mono ?_); (case side1 => repeat (first | (with_reducible first | exact HB.out | apply below_alloc | apply pw_below_drewN | apply below_drew1) | exact HB.out)); (case side2 => exact Kd.R_tight rfl HO_5.out); rintro e w26 ⟨rfl, hy0, hb, hkp⟩; refine ⟨_, rfl, ?_⟩; have n0_ := Aside0.mk (Kd.R_mono (ok' := fun k_ => some k_ ≠ (.slice Ao25 t105.length co25 : Value).ownBlock) (Kd.R_keptB (HO_3.out) hkp (fun k_ hk_ hs_ => (hk_) hs_)) (fun k_ hk_ => hk_.1)); have n1_ := Aside0.mk (Kd.R_reok rfl hy0 (fun k_ e_ => HO_5.out.1 k_ e_)); have n2_ := Aside0.mk (hb); clear HO_3; clear HO_5; clear HB; have HO_3 := n0_; have HO_5 := n1_; have HB := n2_; clear n0_ n1_ n2_; (try clear hb); (try clear hkp); (try clear hy0)) | ((with_reducible refine gate_callee (f := 26) rfl ?_); refine goesL_ (some 38) rfl rfl Tryd.func26 (by kernel_rfl) rfl #[.slice Ao25 t111.length co25, .int .i64 1] rfl (by (try simp only [List.map_toArray, List.map_cons, List.map_nil]); first | done | (rw [show t111.length = t105.length from (Kd.R_reads' HO_5.out).1.symm] <;> rfl) | rfl | (simp only [List.length_drop, List.length_take]; rfl)) ?_; (with_reducible refine (laws_heldPtS.calls kj4 _ _ t111 1 t112 _ ?side1 ?side2 A18.out).mono ?_); (case side1 => repeat (first | exact (Kd.R_reads' HO_5.out).2.2 | (with_reducible refine Kd.C_alloc ?_ _) | (with_reducible refine Kd.C_drewN ?_ _) | (with_reducible refine Kd.C_drew ?_))); (case side2 => rw [show t111.length = t105.length from (Kd.R_reads' HO_5.out).1.symm]; exact (Kd.R_reads' HO_5.out).2.1); rintro e w' ⟨rfl, ⟨nd, rfl⟩⟩; refine ⟨_, rfl, ?_⟩) | ((with_reducible refine gate_callee (f := 21) rfl ?_); refine goesL_ (some 46) rfl rfl Tryd.func21 (by kernel_rfl) rfl #[.string a0] rfl (by (try simp only [List.map_toArray, List.map_cons, List.map_nil]); first | done | rfl | (simp only [List.length_drop, List.length_take]; rfl)) ?_; (with_reducible refine (impl_CodeRead.calls kj4 a0 t113 t114 _ A23.out).mono ?_); rintro e w27 ⟨v115, rfl, ho0, hb⟩; refine ⟨_, rfl, ?_⟩; have n0_ := Aside0.mk (Kd.R_elder' (by (with_reducible repeat (first | apply Kd.R_alloc | apply Kd.R_drewN | apply Kd.R_drew)); exact HO_3.out) (Kd.R_base ho0) hb); have n1_ := Aside0.mk (Kd.R_elder' (by (with_reducible repeat (first | apply Kd.R_alloc | apply Kd.R_drewN | apply Kd.R_drew)); exact HO_5.out) (Kd.R_base ho0) hb); have n2_ := Aside0.mk (Kd.R_lower (Kd.R_new' (Kd.R_new' ho0 (Kd.R_lt (by (with_reducible repeat (first | apply Kd.R_alloc | apply Kd.R_drewN | apply Kd.R_drew)); exact HO_3.out))) (Kd.R_lt (by (with_reducible repeat (first | apply Kd.R_alloc | apply Kd.R_drewN | apply Kd.R_drew)); exact HO_5.out))) (below_size (by repeat (first | (with_reducible first | exact HB.out | apply below_alloc | apply pw_below_drewN | apply below_drew1) | exact HB.out)))); have n3_ := Aside0.mk (below_step (by repeat (first | (with_reducible first | exact HB.out | apply below_alloc | apply pw_below_drewN | apply below_drew1) | exact HB.out)) hb); clear HO_3; clear HO_5; clear HB; have HO_3 := n0_; have HO_5 := n1_; have HO116 := n2_; have HB := n3_; clear n0_ n1_ n2_ n3_; (try clear hb); (try clear hb2); (try clear hk); (try clear hi); (try clear ho0)))
       (try simp only [Act.put, List.setIfInBounds_toArray, List.set_cons_zero, List.set_cons_succ]); go_cut [57] (fun v57 wc => ∃ (kq : Nat) (x57_23 : Bool), v57 = .bool x57_23 ∧ Aside0 (laws_FnExactCodeRead.j1 kq t111 t110 x57_23 = some r) ∧ Aside0 (kq ≤ kj4) ∧ Aside0 (Kd.R k35 35 wc w.heap.size (fun _ => True) (.slice Ao25 t105.length co25) t111) ∧ Aside0 (Below w.heap.size w wc))
       case first =>
        have H := HC24.out; clear HC24; replace H := Option.bind_eq_some_iff.mp H; obtain ⟨t117, A280, H⟩ := H; replace H : (if t117 = true then (laws_FnExactCodeRead.j1 kj4 t111 t110 (t114 != t102)) else (laws_FnExactCodeRead.j1 kj4 t111 t110 true)) = some r := H; have A28 := Aside0.mk A280; clear A280
        by_cases c29 : t117 = true
        ·subst c29
         have H1 : (laws_FnExactCodeRead.j1 kj4 t111 t110 (t114 != t102)) = some r := by rw [if_pos rfl] at H; exact H
         clear H; have H := H1; clear H1; have H' := Aside0.mk H; clear H; obtain ⟨Ao30, co30, eo30⟩ := Kd.R_slice HO116.out; subst eo30; obtain ⟨Ao31, co31, eo31⟩ := Kd.R_slice HO_3.out; subst eo31; go_wp2_with (first | ((with_reducible refine gate_callee (f := 14) rfl ?_); refine goesL_ (some 51) rfl rfl Tryd.func14 (by kernel_rfl) rfl #[.slice Ao30 t113.length co30, .slice Ao31 t101.length co31] rfl (by (try simp only [List.map_toArray, List.map_cons, List.map_nil]); first | done | rfl | (simp only [List.length_drop, List.length_take]; rfl)) ?_; (with_reducible refine (laws_eqPtS.calls kj4 _ _ t113 _ _ t101 true _ ?side1 ?side2 ?side3 ?side4 A28.out).mono ?_); (case side1 => repeat (first | exact (Kd.R_reads' HO116.out).2.2 | (with_reducible refine Kd.C_alloc ?_ _) | (with_reducible refine Kd.C_drewN ?_ _) | (with_reducible refine Kd.C_drew ?_))); (case side2 => exact (Kd.R_reads' HO116.out).2.1); (case side3 => repeat (first | exact (Kd.R_reads' HO_3.out).2.2 | (with_reducible refine Kd.C_alloc ?_ _) | (with_reducible refine Kd.C_drewN ?_ _) | (with_reducible refine Kd.C_drew ?_))); (case side4 => exact (Kd.R_reads' HO_3.out).2.1); rintro e w32 ⟨rfl, hb⟩; refine ⟨_, rfl, ?_⟩; have n0_ := Aside0.mk (Kd.R_below (by (with_reducible repeat (first | apply Kd.R_alloc | apply Kd.R_drewN | apply Kd.R_drew)); exact HO_3.out) hb); have n1_ := Aside0.mk (Kd.R_below (by (with_reducible repeat (first | apply Kd.R_alloc | apply Kd.R_drewN | apply Kd.R_drew)); exact HO_5.out) hb); have n2_ := Aside0.mk (Kd.R_below (by (with_reducible repeat (first | apply Kd.R_alloc | apply Kd.R_drewN | apply Kd.R_drew)); exact HO116.out) hb); have n3_ := Aside0.mk (below_step (by repeat (first | (with_reducible first | exact HB.out | apply below_alloc | apply pw_below_drewN | apply below_drew1) | exact HB.out)) hb); clear HO_3; clear HO_5; clear HO116; clear HB; have HO_3 := n0_; have HO_5 := n1_; have HO116 := n2_; have HB := n3_; clear n0_ n1_ n2_ n3_; (try clear hb); (try clear hb2); (try clear hk); (try clear hi))); go_meet
         case rel => exact ⟨_, ((t114 != t102)), (by first | rfl | (simp; done) | (simp [*]; done)), H', ⟨by have := HJ4.out; first | omega | exact Nat.le_refl _⟩, ⟨by (with_reducible repeat (first | apply Kd.R_alloc | apply Kd.R_drewN | apply Kd.R_drew)); exact Kd.R_mono HO_5.out (fun _ hk => trivial)⟩, ⟨by repeat (first | (with_reducible first | exact HB.out | apply below_alloc | apply pw_below_drewN | apply below_drew1) | exact HB.out)⟩⟩
        ·replace c29 := Bool.eq_false_iff.mpr c29
         subst c29
         have H1 : (laws_FnExactCodeRead.j1 kj4 t111 t110 true) = some r := by rw [if_neg (show ¬ (false = true) by decide)] at H; exact H
         clear H; have H := H1; clear H1; have H' := Aside0.mk H; clear H; obtain ⟨Ao33, co33, eo33⟩ := Kd.R_slice HO116.out; subst eo33; obtain ⟨Ao34, co34, eo34⟩ := Kd.R_slice HO_3.out; subst eo34; go_wp2_with (first | ((with_reducible refine gate_callee (f := 14) rfl ?_); refine goesL_ (some 51) rfl rfl Tryd.func14 (by kernel_rfl) rfl #[.slice Ao33 t113.length co33, .slice Ao34 t101.length co34] rfl (by (try simp only [List.map_toArray, List.map_cons, List.map_nil]); first | done | rfl | (simp only [List.length_drop, List.length_take]; rfl)) ?_; (with_reducible refine (laws_eqPtS.calls kj4 _ _ t113 _ _ t101 false _ ?side1 ?side2 ?side3 ?side4 A28.out).mono ?_); (case side1 => repeat (first | exact (Kd.R_reads' HO116.out).2.2 | (with_reducible refine Kd.C_alloc ?_ _) | (with_reducible refine Kd.C_drewN ?_ _) | (with_reducible refine Kd.C_drew ?_))); (case side2 => exact (Kd.R_reads' HO116.out).2.1); (case side3 => repeat (first | exact (Kd.R_reads' HO_3.out).2.2 | (with_reducible refine Kd.C_alloc ?_ _) | (with_reducible refine Kd.C_drewN ?_ _) | (with_reducible refine Kd.C_drew ?_))); (case side4 => exact (Kd.R_reads' HO_3.out).2.1); rintro e w35 ⟨rfl, hb⟩; refine ⟨_, rfl, ?_⟩; have n0_ := Aside0.mk (Kd.R_below (by (with_reducible repeat (first | apply Kd.R_alloc | apply Kd.R_drewN | apply Kd.R_drew)); exact HO_3.out) hb); have n1_ := Aside0.mk (Kd.R_below (by (with_reducible repeat (first | apply Kd.R_alloc | apply Kd.R_drewN | apply Kd.R_drew)); exact HO_5.out) hb); have n2_ := Aside0.mk (Kd.R_below (by (with_reducible repeat (first | apply Kd.R_alloc | apply Kd.R_drewN | apply Kd.R_drew)); exact HO116.out) hb); have n3_ := Aside0.mk (below_step (by repeat (first | (with_reducible first | exact HB.out | apply below_alloc | apply pw_below_drewN | apply below_drew1) | exact HB.out)) hb); clear HO_3; clear HO_5; clear HO116; clear HB; have HO_3 := n0_; have HO_5 := n1_; have HO116 := n2_; have HB := n3_; clear n0_ n1_ n2_ n3_; (try clear hb); (try clear hb2); (try clear hk); (try clear hi))); go_meet
         case rel => exact ⟨_, (true), (by first | rfl | (simp; done) | (simp [*]; done)), H', ⟨by have := HJ4.out; first | omega | exact Nat.le_refl _⟩, ⟨by (with_reducible repeat (first | apply Kd.R_alloc | apply Kd.R_drewN | apply Kd.R_drew)); exact Kd.R_mono HO_5.out (fun _ hk => trivial)⟩, ⟨by repeat (first | (with_reducible first | exact HB.out | apply below_alloc | apply pw_below_drewN | apply below_drew1) | exact HB.out)⟩⟩
       case rest =>
        clear HC24
        try clear c1
        try clear c2
        try clear c2b0
        try clear c2b1
        try clear p2
        try clear c8
        try clear c9
        try clear c14
        try clear c16
        try clear c19
        try clear c19b0
        try clear c21
        try clear c22
        try clear c22b0
        try clear c22b1
        try clear c24
        try clear c25
        try clear c26
        try clear c29
        try clear p2
        obtain ⟨kq, x57_23, rfl, HA, HJ23, HO_5, HB⟩ := hcut; have hl5_23 := (Kd.R_reads' HO_5.out).1; rw [hl5_23] at HO_5; (try simp only [hl5_23])
        cases kq with
        | zero => exact absurd HA.out (by simp [laws_FnExactCodeRead.j1])
        | succ kj23 =>
         have H := HA.out; clear HA; simp only [laws_FnExactCodeRead.j1] at H
         by_cases c36 : x57_23 = true
         ·subst c36
          have H1 : (some false) = some r := by rw [if_pos rfl] at H; exact H
          clear H; have H := H1; clear H1; obtain rfl := Option.some.inj H; go_wp2; go_ret
          exact ⟨by first | rfl | (simp [errW_none, errW_some] <;> rfl) | (simp [*, errW_none, errW_some] <;> rfl), by repeat (first | (with_reducible first | exact HB.out | apply below_alloc | apply pw_below_drewN | apply below_drew1) | exact HB.out)⟩
         ·replace c36 := Bool.eq_false_iff.mpr c36
          subst c36
          have H1 : ((laws_heldPtS.f kj23 t111 1).bind fun t118 => (if t118 < 0 then (some false) else (if t118 = t110 then (some true) else (some false)))) = some r := by rw [if_neg (show ¬ (false = true) by decide)] at H; exact H
          clear H; have H := H1; clear H1; replace H := Option.bind_eq_some_iff.mp H; obtain ⟨t118, A370, H⟩ := H; replace H : (if t118 < 0 then (some false) else (if t118 = t110 then (some true) else (some false))) = some r := H; have A37 := Aside0.mk A370; clear A370
          by_cases c38 : t118 < 0
          ·rw [if_pos c38] at H
           have c38b0 : decide (t118 < 0) = true := decide_eq_true c38; clear c38; obtain rfl := Option.some.inj H; go_wp2_with (first | ((with_reducible refine gate_callee (f := 26) rfl ?_); refine goesL_ (some 60) rfl rfl Tryd.func26 (by kernel_rfl) rfl #[.slice Ao25 t111.length co25, .int .i64 1] rfl (by (try simp only [List.map_toArray, List.map_cons, List.map_nil]); first | done | rfl | (simp only [List.length_drop, List.length_take]; rfl)) ?_; (with_reducible refine (laws_heldPtS.calls kj23 _ _ t111 1 t118 _ ?side1 ?side2 A37.out).mono ?_); (case side1 => repeat (first | exact (Kd.R_reads' HO_5.out).2.2 | (with_reducible refine Kd.C_alloc ?_ _) | (with_reducible refine Kd.C_drewN ?_ _) | (with_reducible refine Kd.C_drew ?_))); (case side2 => exact (Kd.R_reads' HO_5.out).2.1); rintro e w' ⟨rfl, ⟨nd, rfl⟩⟩; refine ⟨_, rfl, ?_⟩)); go_ret
           exact ⟨by first | rfl | (simp [errW_none, errW_some] <;> rfl) | (simp [*, errW_none, errW_some] <;> rfl), by repeat (first | (with_reducible first | exact HB.out | apply below_alloc | apply pw_below_drewN | apply below_drew1) | exact HB.out)⟩
          ·rw [if_neg c38] at H
           have c38b0 : decide (t118 < 0) = false := decide_eq_false c38; clear c38
           by_cases c39 : t118 = t110
           ·rw [if_pos c39] at H
            have c39b0 : (t118 == t110) = true := beq_iff_eq.mpr c39; have c39b1 : (t118 != t110) = false := bne_eq_false_iff_eq.mpr c39; clear c39; obtain rfl := Option.some.inj H; go_wp2_with (first | ((with_reducible refine gate_callee (f := 26) rfl ?_); refine goesL_ (some 60) rfl rfl Tryd.func26 (by kernel_rfl) rfl #[.slice Ao25 t111.length co25, .int .i64 1] rfl (by (try simp only [List.map_toArray, List.map_cons, List.map_nil]); first | done | rfl | (simp only [List.length_drop, List.length_take]; rfl)) ?_; (with_reducible refine (laws_heldPtS.calls kj23 _ _ t111 1 t118 _ ?side1 ?side2 A37.out).mono ?_); (case side1 => repeat (first | exact (Kd.R_reads' HO_5.out).2.2 | (with_reducible refine Kd.C_alloc ?_ _) | (with_reducible refine Kd.C_drewN ?_ _) | (with_reducible refine Kd.C_drew ?_))); (case side2 => exact (Kd.R_reads' HO_5.out).2.1); rintro e w' ⟨rfl, ⟨nd, rfl⟩⟩; refine ⟨_, rfl, ?_⟩)); go_ret
            exact ⟨by first | rfl | (simp [errW_none, errW_some] <;> rfl) | (simp [*, errW_none, errW_some] <;> rfl), by repeat (first | (with_reducible first | exact HB.out | apply below_alloc | apply pw_below_drewN | apply below_drew1) | exact HB.out)⟩
           ·rw [if_neg c39] at H
            have c39b0 : (t118 == t110) = false := beq_eq_false_iff_ne.mpr c39; have c39b1 : (t118 != t110) = true := bne_iff_ne.mpr c39; obtain rfl := Option.some.inj H; go_wp2_with (first | ((with_reducible refine gate_callee (f := 26) rfl ?_); refine goesL_ (some 60) rfl rfl Tryd.func26 (by kernel_rfl) rfl #[.slice Ao25 t111.length co25, .int .i64 1] rfl (by (try simp only [List.map_toArray, List.map_cons, List.map_nil]); first | done | rfl | (simp only [List.length_drop, List.length_take]; rfl)) ?_; (with_reducible refine (laws_heldPtS.calls kj23 _ _ t111 1 t118 _ ?side1 ?side2 A37.out).mono ?_); (case side1 => repeat (first | exact (Kd.R_reads' HO_5.out).2.2 | (with_reducible refine Kd.C_alloc ?_ _) | (with_reducible refine Kd.C_drewN ?_ _) | (with_reducible refine Kd.C_drew ?_))); (case side2 => exact (Kd.R_reads' HO_5.out).2.1); rintro e w' ⟨rfl, ⟨nd, rfl⟩⟩; refine ⟨_, rfl, ?_⟩)); go_ret
            exact ⟨by first | rfl | (simp [errW_none, errW_some] <;> rfl) | (simp [*, errW_none, errW_some] <;> rfl), by repeat (first | (with_reducible first | exact HB.out | apply below_alloc | apply pw_below_drewN | apply below_drew1) | exact HB.out)⟩
      ·rw [if_neg c22] at H
       have c22b0 : (t112 == t110) = false := beq_eq_false_iff_ne.mpr c22; have c22b1 : (t112 != t110) = true := bne_iff_ne.mpr c22; obtain rfl := Option.some.inj H; obtain ⟨Ao40, co40, eo40⟩ := Kd.R_slice HO_5.out; subst eo40; go_wp2_with (first | ((with_reducible refine gate_callee (f := 25) rfl ?_); refine goesL_ (some 35) rfl rfl Tryd.func25 (by kernel_rfl) rfl #[.slice Ao40 t105.length co40, .int .i64 1] rfl (by (try simp only [List.map_toArray, List.map_cons, List.map_nil]); first | done | rfl | (simp only [List.length_drop, List.length_take]; rfl)) ?_; (with_reducible refine (laws_markPtS.calls kj4 (fun k_ => some k_ = (.slice Ao40 t105.length co40 : Value).ownBlock) (.slice Ao40 t105.length co40) t105 1 t110 t111 w _ ?side1 ?side2 A17.out).mono ?_); (case side1 => repeat (first | (with_reducible first | exact HB.out | apply below_alloc | apply pw_below_drewN | apply below_drew1) | exact HB.out)); (case side2 => exact Kd.R_tight rfl HO_5.out); rintro e w41 ⟨rfl, hy0, hb, hkp⟩; refine ⟨_, rfl, ?_⟩; have n0_ := Aside0.mk (Kd.R_mono (ok' := fun k_ => some k_ ≠ (.slice Ao40 t105.length co40 : Value).ownBlock) (Kd.R_keptB (HO_3.out) hkp (fun k_ hk_ hs_ => (hk_) hs_)) (fun k_ hk_ => hk_.1)); have n1_ := Aside0.mk (Kd.R_reok rfl hy0 (fun k_ e_ => HO_5.out.1 k_ e_)); have n2_ := Aside0.mk (hb); clear HO_3; clear HO_5; clear HB; have HO_3 := n0_; have HO_5 := n1_; have HB := n2_; clear n0_ n1_ n2_; (try clear hb); (try clear hkp); (try clear hy0)) | ((with_reducible refine gate_callee (f := 26) rfl ?_); refine goesL_ (some 38) rfl rfl Tryd.func26 (by kernel_rfl) rfl #[.slice Ao40 t111.length co40, .int .i64 1] rfl (by (try simp only [List.map_toArray, List.map_cons, List.map_nil]); first | done | (rw [show t111.length = t105.length from (Kd.R_reads' HO_5.out).1.symm] <;> rfl) | rfl | (simp only [List.length_drop, List.length_take]; rfl)) ?_; (with_reducible refine (laws_heldPtS.calls kj4 _ _ t111 1 t112 _ ?side1 ?side2 A18.out).mono ?_); (case side1 => repeat (first | exact (Kd.R_reads' HO_5.out).2.2 | (with_reducible refine Kd.C_alloc ?_ _) | (with_reducible refine Kd.C_drewN ?_ _) | (with_reducible refine Kd.C_drew ?_))); (case side2 => rw [show t111.length = t105.length from (Kd.R_reads' HO_5.out).1.symm]; exact (Kd.R_reads' HO_5.out).2.1); rintro e w' ⟨rfl, ⟨nd, rfl⟩⟩; refine ⟨_, rfl, ?_⟩)); go_ret
       exact ⟨by first | rfl | (simp [errW_none, errW_some] <;> rfl) | (simp [*, errW_none, errW_some] <;> rfl), by repeat (first | (with_reducible first | exact HB.out | apply below_alloc | apply pw_below_drewN | apply below_drew1) | exact HB.out)⟩

/-- THE ONE PURE STATEMENT of laws_FnExactCodeRead: yours. -/
def laws_FnExactCodeRead.Pure : Prop := ∀ (a0 : ByteArray), a0.size ≤ 140737488351232 → ∃ k, laws_FnExactCodeRead.f k a0 = some true
theorem laws_FnExactCodeRead.walk (P : laws_FnExactCodeRead.Pure) (a0 : ByteArray) (w : World) (w0 : a0.size ≤ 140737488351232) :
  Calls Tryd.prog 8 #[.string a0] w fun e w' => e = .returned (.bool true) ∧ Below w.heap.size w w' := by
 obtain ⟨k, h⟩ := P a0 w0; refine (laws_FnExactCodeRead.calls k a0 true w h).mono ?_; rintro e w' ⟨rfl, hd⟩
 exact ⟨rfl, hd⟩

end Go.Proofs.YtdacpdhpifocbaaDoor.P

namespace Go.Proofs.YtdacpdhpifocbaaDoor.Q
open Go.RowKit Go.Proofs.YtdacpdhpifocbaaDoor.P Go.Proofs.YtdacpdhpifocbaaDoorW.PrintWords Go.Proofs.YtdacpdhpifocbaaDoorW.PrintLast
set_option linter.unusedVariables false

abbrev PT := S35
def g (l : List PT) (i : Nat) : PT := l.getD i z35
theorem rd_nat (l : List PT) (i : Nat) : rd_T35 l (i : Int) = g l i := by simp [rd_T35, g]
theorem rd_zero (l : List PT) : rd_T35 l 0 = g l 0 := by simp [rd_T35, g]
theorem w_id {x : Int} (h0 : -9223372036854775808 ≤ x) (h1 : x < 9223372036854775808) : wrap64 x = x := by unfold wrap64; omega
theorem w_succ {i : Nat} (h : i < 1000000000000000000) : wrap64 ((i : Int) + 1) = ((i + 1 : Nat) : Int) := by rw [w_id (by omega) (by omega)]; omega
theorem w_pred {i : Nat} (h0 : 0 < i) (h : i < 1000000000000000000) : wrap64 ((i : Int) - 1) = ((i - 1 : Nat) : Int) := by rw [w_id (by omega) (by omega)]; omega
theorem g_eq {l : List PT} {i : Nat} (h : i < l.length) : g l i = l[i] := by simp [g, List.getD_eq_getElem?_getD, h]
theorem PT.ext {a b : PT} (h0 : a.f0 = b.f0) (h1 : a.f1 = b.f1) : a = b := by cases a; cases b; simp_all

instance : DecidableEq PT := fun a b => if h : a.f0 = b.f0 ∧ a.f1 = b.f1 then isTrue (PT.ext h.1 h.2) else isFalse (fun e => h ⟨by rw [e], by rw [e]⟩)
/-- a point of the grid -/
def okP (p : PT) : Bool := decide (0 ≤ p.f0 ∧ p.f0 ≤ 9 ∧ 0 ≤ p.f1 ∧ p.f1 ≤ 9)
theorem okP_iff {p : PT} : okP p = true ↔ 0 ≤ p.f0 ∧ p.f0 ≤ 9 ∧ 0 ≤ p.f1 ∧ p.f1 ≤ 9 := by simp [okP]
theorem implOk (a b : Int) : impl_PtOk.f a b = some (okP ⟨a, b⟩) := by
  unfold impl_PtOk.f okP
  by_cases h1 : a ≥ 0
  · by_cases h2 : a ≤ 9
    · by_cases h3 : b ≥ 0
      · rw [if_pos h1, if_pos h2, if_pos h3]; congr 1; simp only [decide_eq_decide]; omega
      · rw [if_pos h1, if_pos h2, if_neg h3]; congr 1; symm; simp only [decide_eq_false_iff_not]; omega
    · rw [if_pos h1, if_neg h2]; congr 1; symm; simp only [decide_eq_false_iff_not]; omega
  · rw [if_neg h1]; congr 1; symm; simp only [decide_eq_false_iff_not]; omega
theorem specIn (a b c : Int) : spec_l6In.f a b c = some (decide (b ≤ a ∧ a ≤ c)) := by
  unfold spec_l6In.f
  by_cases h1 : a ≥ b
  · rw [if_pos h1]; congr 1; simp only [decide_eq_decide]; omega
  · rw [if_neg h1]; congr 1; symm; simp only [decide_eq_false_iff_not]; omega
theorem specOk (a b : Int) : spec_PtOk.f a b = some (okP ⟨a, b⟩) := by
  unfold spec_PtOk.f okP
  rw [specIn, specIn]
  simp only [Option.bind_some]
  by_cases h1 : 0 ≤ a ∧ a ≤ 9
  · rw [decide_eq_true h1, if_pos rfl]; congr 1; simp only [decide_eq_decide]; omega
  · rw [decide_eq_false h1, if_neg (by decide)]; congr 1; symm; simp only [decide_eq_false_iff_not]; omega

/-- one step apart -/
def stepP (a b : PT) : Bool := (wrap64 (a.f0 + 1) == b.f0 && a.f1 == b.f1) || ((a.f0 == b.f0 && wrap64 (a.f1 + 1) == b.f1) || ((wrap64 (a.f0 - 1) == b.f0 && a.f1 == b.f1) || (a.f0 == b.f0 && wrap64 (a.f1 - 1) == b.f1)))
theorem implStep (a b : PT) : impl_isStep.f a.f0 a.f1 b.f0 b.f1 = some (stepP a b) := rfl
/-- one step apart, as numbers -/
def Step (a b : PT) : Prop := (b.f0 = a.f0 + 1 ∧ b.f1 = a.f1) ∨ (b.f0 = a.f0 ∧ b.f1 = a.f1 + 1) ∨ (b.f0 = a.f0 - 1 ∧ b.f1 = a.f1) ∨ (b.f0 = a.f0 ∧ b.f1 = a.f1 - 1)
instance (a b : PT) : Decidable (Step a b) := by unfold Step; infer_instance
theorem stepP_iff {a b : PT} (ha : okP a = true) : stepP a b = true ↔ Step a b := by
  rw [okP_iff] at ha
  unfold stepP Step
  rw [w_id (x := a.f0 + 1) (by omega) (by omega), w_id (x := a.f1 + 1) (by omega) (by omega), w_id (x := a.f0 - 1) (by omega) (by omega), w_id (x := a.f1 - 1) (by omega) (by omega)]
  simp only [Bool.or_eq_true, Bool.and_eq_true, beq_iff_eq]
  omega
/-- a path: 1 to 400 points of the grid, each one step from the one ahead -/
def PathTo (l : List PT) (i : Nat) : Prop := ∀ j, i ≤ j → j < l.length → okP (g l j) = true ∧ (0 < j → Step (g l (j - 1)) (g l j))
def IsPath (l : List PT) : Prop := 1 ≤ l.length ∧ l.length ≤ 400 ∧ PathTo l 0
theorem PathTo.cons {l : List PT} {i : Nat} (h : okP (g l i) = true) (h' : 0 < i → Step (g l (i - 1)) (g l i)) (r : PathTo l (i + 1)) : PathTo l i := by
  intro j h1 h2
  rcases Nat.eq_or_lt_of_le h1 with e | e
  · subst e; exact ⟨h, h'⟩
  · exact r j e h2
theorem isPath_l0 (l : List PT) (hl : l.length < 1000000000000000000) : ∀ (d k i : Nat), l.length - i = d → i ≤ l.length → d < k → (∀ j, j < i → okP (g l j) = true) →
    ∃ b, impl_isPath.l0 k l l (l.length : Int) (i : Int) = some b ∧ (b = true ↔ PathTo l i) := by
  intro d
  induction d with
  | zero =>
    intro k i hd hi hk _
    obtain ⟨k, rfl⟩ : ∃ m, k = m + 1 := ⟨k - 1, by omega⟩
    refine ⟨true, ?_, by simp only [true_iff]; intro j h1 h2; omega⟩
    simp only [impl_isPath.l0]
    rw [if_neg (by omega)]
  | succ d ih =>
    intro k i hd hi hk hbef
    obtain ⟨k, rfl⟩ : ∃ m, k = m + 1 := ⟨k - 1, by omega⟩
    simp only [impl_isPath.l0]
    rw [if_pos (by omega), if_pos (by omega), if_pos (by omega), rd_nat, implOk]
    simp only [Option.bind_some]
    by_cases hok : okP (g l i) = true
    · rw [if_pos (by simpa using hok), w_succ (by omega)]
      have hbef' : ∀ j, j < i + 1 → okP (g l j) = true := fun j hj => by
        rcases Nat.eq_or_lt_of_le (Nat.le_of_lt_succ hj) with e | e
        · subst e; exact hok
        · exact hbef j e
      by_cases h0 : 0 < i
      · rw [if_pos (by omega), w_pred h0 (by omega), if_pos (by omega), if_pos (by omega), rd_nat, implStep]
        simp only [Option.bind_some]
        by_cases hs : stepP (g l (i - 1)) (g l i) = true
        · rw [if_pos hs]
          obtain ⟨b, hb, hb'⟩ := ih k (i + 1) (by omega) (by omega) (by omega) hbef'
          refine ⟨b, hb, hb'.trans ⟨fun r => PathTo.cons hok (fun _ => (stepP_iff (hbef _ (by omega))).1 hs) r, fun r j h1 h2 => r j (by omega) h2⟩⟩
        · rw [if_neg hs]
          refine ⟨false, rfl, by simp only [Bool.false_eq_true, false_iff]; exact fun r => hs ((stepP_iff (hbef _ (by omega))).2 ((r i (Nat.le_refl _) (by omega)).2 h0))⟩
      · rw [if_neg (by omega)]
        obtain ⟨b, hb, hb'⟩ := ih k (i + 1) (by omega) (by omega) (by omega) hbef'
        exact ⟨b, hb, hb'.trans ⟨fun r => PathTo.cons hok (fun h => absurd h h0) r, fun r j h1 h2 => r j (by omega) h2⟩⟩
    · rw [if_neg (by simpa using hok)]
      exact ⟨false, rfl, by simp only [Bool.false_eq_true, false_iff]; exact fun r => hok (r i (Nat.le_refl _) (by omega)).1⟩
theorem isPath_f (l : List PT) (hl : l.length < 1000000000000000000) (k : Nat) (hk : l.length + 2 ≤ k) : ∃ b, impl_isPath.f k l = some b ∧ (b = true ↔ IsPath l) := by
  obtain ⟨k, rfl⟩ : ∃ m, k = m + 1 := ⟨k - 1, by omega⟩
  unfold impl_isPath.f IsPath
  simp only [impl_isPath.j0]
  by_cases h1 : (l.length : Int) < 1
  · rw [if_pos h1, if_pos trivial]
    exact ⟨false, rfl, by simp only [Bool.false_eq_true, false_iff]; omega⟩
  · rw [if_neg h1]
    by_cases h2 : (l.length : Int) > 400
    · rw [decide_eq_true h2, if_pos rfl]
      exact ⟨false, rfl, by simp only [Bool.false_eq_true, false_iff]; omega⟩
    · rw [decide_eq_false h2, if_neg (by decide)]
      obtain ⟨b, hb, hb'⟩ := isPath_l0 l hl l.length k 0 (by omega) (by omega) (by omega) (fun j hj => by omega)
      exact ⟨b, hb, hb'.trans ⟨fun r => ⟨by omega, by omega, r⟩, fun r => r.2.2⟩⟩
/-- does the step from b go on as that from a to b -/
def goesOn (a b c : PT) : Bool := c.f0 - b.f0 == b.f0 - a.f0 && c.f1 - b.f1 == b.f1 - a.f1
theorem implGoes {a b c : PT} (ha : okP a = true) (hb : okP b = true) (hc : okP c = true) : impl_goesOn.f a.f0 a.f1 b.f0 b.f1 c.f0 c.f1 = some (goesOn a b c) := by
  rw [okP_iff] at ha hb hc
  unfold impl_goesOn.f goesOn
  rw [w_id (x := c.f0 - b.f0) (by omega) (by omega), w_id (x := b.f0 - a.f0) (by omega) (by omega), w_id (x := c.f1 - b.f1) (by omega) (by omega), w_id (x := b.f1 - a.f1) (by omega) (by omega)]
  by_cases h : c.f0 - b.f0 = b.f0 - a.f0
  · rw [if_pos h, h]; simp
  · rw [if_neg h, show (c.f0 - b.f0 == b.f0 - a.f0) = false from beq_eq_false_iff_ne.2 h]; rfl
/-- is place j of a path one at which it begins, turns, or ends -/
def turnAt (l : List PT) (j : Nat) : Bool := decide (j = 0) || decide (j + 1 = l.length) || !goesOn (g l (j - 1)) (g l j) (g l (j + 1))
def turnsFrom (l : List PT) (i : Nat) : List PT := ((List.range' i (l.length - i)).filter (turnAt l)).map (g l)
def turns (l : List PT) : List PT := turnsFrom l 0
theorem turnsFrom_end (l : List PT) (i : Nat) (h : l.length ≤ i) : turnsFrom l i = [] := by
  unfold turnsFrom
  rw [show l.length - i = 0 by omega]; rfl
theorem turnsFrom_step (l : List PT) (i : Nat) (h : i < l.length) : turnsFrom l i = (if turnAt l i = true then [g l i] else []) ++ turnsFrom l (i + 1) := by
  unfold turnsFrom
  rw [show l.length - i = (l.length - (i + 1)) + 1 by omega, List.range'_succ, List.filter_cons]
  split <;> simp
theorem pt_eta (p : PT) : (⟨p.f0, p.f1⟩ : PT) = p := rfl
theorem codeTurns_l0 (l : List PT) (hp : IsPath l) : ∀ (d k i : Nat) (acc : List PT), l.length - i = d → i ≤ l.length → d < k → acc.length ≤ i →
    impl_CodeTurns.l0 k l acc (wrap64 ((l.length : Int) - 1)) l (l.length : Int) (i : Int) = some (acc ++ turnsFrom l i) := by
  obtain ⟨h1, h2, hp⟩ := hp
  have hw : wrap64 ((l.length : Int) - 1) = ((l.length - 1 : Nat) : Int) := w_pred (by omega) (by omega)
  rw [hw]
  intro d
  induction d with
  | zero =>
    intro k i acc hd hi hk ha
    obtain ⟨k, rfl⟩ : ∃ m, k = m + 1 := ⟨k - 1, by omega⟩
    simp only [impl_CodeTurns.l0]
    rw [if_neg (by omega), turnsFrom_end l i (by omega), List.append_nil]
  | succ d ih =>
    intro k i acc hd hi hk ha
    obtain ⟨k, rfl⟩ : ∃ m, k = m + 1 := ⟨k - 1, by omega⟩
    simp only [impl_CodeTurns.l0]
    rw [if_pos (by omega), if_pos (by omega), if_pos (by omega), rd_nat, pt_eta, turnsFrom_step l i (by omega), w_succ (by omega)]
    have hadd : turnAt l i = true → impl_CodeTurns.l0 k l (acc ++ [g l i]) ((l.length - 1 : Nat) : Int) l (l.length : Int) ((i + 1 : Nat) : Int) = some (acc ++ ((if turnAt l i = true then [g l i] else []) ++ turnsFrom l (i + 1))) := fun ht => by
      rw [if_pos ht, ih k (i + 1) (acc ++ [g l i]) (by omega) (by omega) (by omega) (by simp; omega), List.append_assoc]
    by_cases e0 : i = 0
    · rw [if_pos (by omega), if_pos (by omega)]
      exact hadd (by simp [turnAt, e0])
    · rw [if_neg (by omega)]
      by_cases e1 : i + 1 = l.length
      · rw [if_pos (by omega), if_pos (by omega)]
        exact hadd (by simp [turnAt, e1])
      · rw [if_neg (by omega), w_pred (by omega) (by omega), if_pos (by omega), if_pos (by omega), if_pos (by omega), if_pos (by omega), rd_nat, rd_nat,
          implGoes (hp _ (by omega) (by omega)).1 (hp _ (by omega) (by omega)).1 (hp _ (by omega) (by omega)).1]
        simp only [Option.bind_some]
        have ht : turnAt l i = !goesOn (g l (i - 1)) (g l i) (g l (i + 1)) := by simp [turnAt, e0, e1]
        by_cases hg : goesOn (g l (i - 1)) (g l i) (g l (i + 1)) = true
        · rw [if_pos hg, ih k (i + 1) acc (by omega) (by omega) (by omega) (by omega), ht, hg]
          rfl
        · rw [if_neg hg, if_pos (by omega)]
          exact hadd (by rw [ht]; simpa using hg)
theorem l22Turns_l0 (l : List PT) (hp : IsPath l) : ∀ (d k i : Nat) (acc : List PT), l.length - i = d → i ≤ l.length → 1 ≤ i → d < k → acc.length ≤ i →
    spec_l22Turns.l0 k l acc (i : Int) = some (acc ++ turnsFrom l i) := by
  obtain ⟨h1, h2, hp⟩ := hp
  have hw : wrap64 ((l.length : Int) - 1) = ((l.length - 1 : Nat) : Int) := w_pred (by omega) (by omega)
  intro d
  induction d with
  | zero =>
    intro k i acc hd hi _ hk ha
    obtain ⟨k, rfl⟩ : ∃ m, k = m + 1 := ⟨k - 1, by omega⟩
    simp only [spec_l22Turns.l0]
    rw [if_neg (by omega), turnsFrom_end l i (by omega), List.append_nil]
  | succ d ih =>
    intro k i acc hd hi e0 hk ha
    obtain ⟨k, rfl⟩ : ∃ m, k = m + 1 := ⟨k - 1, by omega⟩
    simp only [spec_l22Turns.l0]
    rw [if_pos (by omega), hw, turnsFrom_step l i (by omega), w_succ (by omega), rd_nat]
    have hadd : turnAt l i = true → spec_l22Turns.l0 k l (acc ++ [g l i]) ((i + 1 : Nat) : Int) = some (acc ++ ((if turnAt l i = true then [g l i] else []) ++ turnsFrom l (i + 1))) := fun ht => by
      rw [if_pos ht, ih k (i + 1) (acc ++ [g l i]) (by omega) (by omega) (by omega) (by omega) (by simp; omega), List.append_assoc]
    by_cases e1 : i + 1 = l.length
    · rw [if_pos (by omega), if_pos (by omega), if_pos (by omega), pt_eta]
      exact hadd (by simp [turnAt, e1])
    · have oa := (hp (i - 1) (by omega) (by omega)).1
      have ob := (hp i (by omega) (by omega)).1
      have oc := (hp (i + 1) (by omega) (by omega)).1
      have ht : turnAt l i = !goesOn (g l (i - 1)) (g l i) (g l (i + 1)) := by simp [turnAt, e1]; omega
      rw [okP_iff] at oa ob oc
      rw [if_neg (by omega), if_pos (by omega), if_pos (by omega), if_pos (by omega), w_pred (by omega) (by omega), if_pos (by omega), if_pos (by omega), rd_nat, rd_nat, pt_eta,
        w_id (x := (g l (i + 1)).f0 - (g l i).f0) (by omega) (by omega), w_id (x := (g l i).f0 - (g l (i - 1)).f0) (by omega) (by omega), w_id (x := (g l (i + 1)).f1 - (g l i).f1) (by omega) (by omega), w_id (x := (g l i).f1 - (g l (i - 1)).f1) (by omega) (by omega)]
      by_cases hx : (g l (i + 1)).f0 - (g l i).f0 = (g l i).f0 - (g l (i - 1)).f0
      · rw [if_pos hx]
        by_cases hy : (g l (i + 1)).f1 - (g l i).f1 = (g l i).f1 - (g l (i - 1)).f1
        · rw [if_pos hy, ih k (i + 1) acc (by omega) (by omega) (by omega) (by omega) (by omega), ht, show goesOn (g l (i - 1)) (g l i) (g l (i + 1)) = true by simp [goesOn, hx, hy]]
          rfl
        · rw [if_neg hy, if_pos (by omega)]
          exact hadd (by rw [ht]; simp [goesOn, hy])
      · rw [if_neg hx, if_pos (by omega)]
        exact hadd (by rw [ht]; simp [goesOn, hx])
theorem l22Turns_f (l : List PT) (hp : IsPath l) (k : Nat) (hk : l.length < k) : spec_l22Turns.f k l = some (turns l) := by
  have h1 := hp.1
  unfold spec_l22Turns.f turns
  rw [if_pos (by omega), rd_zero, pt_eta, turnsFrom_step l 0 (by omega), if_pos (by simp [turnAt])]
  exact l22Turns_l0 l hp (l.length - 1) k 1 [g l 0] (by omega) (by omega) (by omega) (by omega) (by simp)
open Classical in
/-- what CodeTurns answers -/
noncomputable def codeTurns (l : List PT) : List PT := if IsPath l then turns l else []
theorem implCodeTurns (l : List PT) (hl : l.length < 1000000000000000000) (k : Nat) (hk : l.length + 2 ≤ k) : impl_CodeTurns.f k l = some (codeTurns l) := by
  obtain ⟨b, hb, hb'⟩ := isPath_f l hl k hk
  unfold impl_CodeTurns.f codeTurns
  rw [hb]
  simp only [Option.bind_some]
  by_cases hp : IsPath l
  · rw [if_pos (hb'.2 hp), if_pos hp]
    exact codeTurns_l0 l hp l.length k 0 [] (by omega) (by omega) (by omega) (by simp)
  · rw [if_neg (fun h => hp (hb'.1 h)), if_neg hp]
end Go.Proofs.YtdacpdhpifocbaaDoor.Q

namespace Go.Proofs.YtdacpdhpifocbaaDoor.Q
open Go.RowKit Go.Proofs.YtdacpdhpifocbaaDoor.P Go.Proofs.YtdacpdhpifocbaaDoorW.PrintWords Go.Proofs.YtdacpdhpifocbaaDoorW.PrintLast
set_option linter.unusedVariables false

def sgn (a b : Int) : Int := if a < b then 1 else if a > b then -1 else 0
def nxt (a b : PT) : PT := ⟨a.f0 + sgn a.f0 b.f0, a.f1 + sgn a.f1 b.f1⟩
def dist (a b : PT) : Nat := (a.f0 - b.f0).natAbs + (a.f1 - b.f1).natAbs
def leg : Nat → PT → PT → List PT
  | 0, _, _ => []
  | n + 1, a, b => nxt a b :: leg n (nxt a b) b
def InLine (a b : PT) : Prop := a.f0 = b.f0 ∨ a.f1 = b.f1
theorem sgn_spec (a b : Int) : a < b ∧ sgn a b = 1 ∨ b < a ∧ sgn a b = -1 ∨ a = b ∧ sgn a b = 0 := by
  unfold sgn
  by_cases h : a < b
  · rw [if_pos h]; omega
  · rw [if_neg h]
    by_cases h' : a > b
    · rw [if_pos h']; omega
    · rw [if_neg h']; omega
theorem dist_zero {a b : PT} : dist a b = 0 ↔ a = b := by
  unfold dist
  constructor
  · intro h
    exact PT.ext (by omega) (by omega)
  · intro h
    subst h
    omega
theorem nxt_dist {a b : PT} (h : InLine a b) (n : Nat) (hd : dist a b = n + 1) : dist (nxt a b) b = n ∧ InLine (nxt a b) b ∧ Step a (nxt a b) ∧ (n ≠ 0 → sgn (nxt a b).f0 b.f0 = sgn a.f0 b.f0 ∧ sgn (nxt a b).f1 b.f1 = sgn a.f1 b.f1) := by
  unfold dist InLine nxt Step at *
  simp only
  rcases sgn_spec a.f0 b.f0 with ⟨h0, e0⟩ | ⟨h0, e0⟩ | ⟨h0, e0⟩ <;> rcases sgn_spec a.f1 b.f1 with ⟨h1, e1⟩ | ⟨h1, e1⟩ | ⟨h1, e1⟩ <;>
    (try rw [e0]) <;> (try rw [e1]) <;>
    first
      | omega
      | (refine ⟨by omega, by omega, by omega, fun hn => ?_⟩
         rcases sgn_spec (a.f0 + 1) b.f0 with ⟨h2, e2⟩ | ⟨h2, e2⟩ | ⟨h2, e2⟩ <;> rcases sgn_spec (a.f0 + -1) b.f0 with ⟨h3, e3⟩ | ⟨h3, e3⟩ | ⟨h3, e3⟩ <;> rcases sgn_spec (a.f0 + 0) b.f0 with ⟨h4, e4⟩ | ⟨h4, e4⟩ | ⟨h4, e4⟩ <;>
         rcases sgn_spec (a.f1 + 1) b.f1 with ⟨h5, e5⟩ | ⟨h5, e5⟩ | ⟨h5, e5⟩ <;> rcases sgn_spec (a.f1 + -1) b.f1 with ⟨h6, e6⟩ | ⟨h6, e6⟩ | ⟨h6, e6⟩ <;> rcases sgn_spec (a.f1 + 0) b.f1 with ⟨h7, e7⟩ | ⟨h7, e7⟩ | ⟨h7, e7⟩ <;> omega)
theorem nxt_ok {a b : PT} (ha : okP a = true) (hb : okP b = true) : okP (nxt a b) = true := by
  rw [okP_iff] at *
  unfold nxt
  simp only
  rcases sgn_spec a.f0 b.f0 with ⟨h0, e0⟩ | ⟨h0, e0⟩ | ⟨h0, e0⟩ <;> rcases sgn_spec a.f1 b.f1 with ⟨h1, e1⟩ | ⟨h1, e1⟩ | ⟨h1, e1⟩ <;> rw [e0, e1] <;> omega
theorem ok_dist {a b : PT} (ha : okP a = true) (hb : okP b = true) (h : InLine a b) : dist a b ≤ 9 := by
  rw [okP_iff] at *
  unfold dist InLine at *
  omega
theorem leg_length : ∀ (n : Nat) (a b : PT), (leg n a b).length = n
  | 0, _, _ => rfl
  | n + 1, a, b => by simp [leg, leg_length n]
theorem specSign (x : Int) : spec_l2Sign.f x = some (sgn 0 x) := by
  unfold spec_l2Sign.f sgn
  by_cases h : x < 0
  · rw [if_pos h, if_neg (by omega), if_pos (by omega)]
  · rw [if_neg h]
    by_cases h' : x > 0
    · rw [if_pos h', if_pos (by omega)]
    · rw [if_neg h', if_neg (by omega), if_neg (by omega)]
theorem sgn_sub (a b : Int) : sgn 0 (b - a) = sgn a b := by
  rcases sgn_spec a b with ⟨h0, e0⟩ | ⟨h0, e0⟩ | ⟨h0, e0⟩ <;> rcases sgn_spec 0 (b - a) with ⟨h1, e1⟩ | ⟨h1, e1⟩ | ⟨h1, e1⟩ <;> rw [e0, e1] <;> omega
theorem implToward (a b : Int) : impl_toward.f a b = some (sgn a b) := by
  unfold impl_toward.f sgn
  by_cases h : a < b
  · rw [if_pos h, if_pos h]
  · rw [if_neg h, if_neg h]
    by_cases h' : a > b
    · rw [if_pos h', if_pos h']
    · rw [if_neg h', if_neg h']
theorem ne_bool {a b : PT} : ((!(a.f0 == b.f0) || (!(a.f1 == b.f1))) = true) ↔ a ≠ b := by
  simp only [Bool.or_eq_true, Bool.not_eq_true', beq_eq_false_iff_ne]
  constructor
  · rintro h rfl
    omega
  · intro h
    by_cases h0 : a.f0 = b.f0
    · exact .inr fun h1 => h (PT.ext h0 h1)
    · exact .inl h0
theorem eq_bool {a b : PT} : ((a.f0 == b.f0 && (a.f1 == b.f1)) = true) ↔ a = b := by
  simp only [Bool.and_eq_true, beq_iff_eq]
  exact ⟨fun h => PT.ext h.1 h.2, fun h => by subst h; exact ⟨rfl, rfl⟩⟩
theorem impl_l1 (xs : List PT) (len i : Int) (b : PT) (hb : okP b = true) : ∀ (n m : Nat) (acc : List PT) (a : PT) (x y : Int), okP a = true → InLine a b → dist a b = n → (n ≠ 0 → x = sgn a.f0 b.f0 ∧ y = sgn a.f1 b.f1) → acc.length + n < 8796093022208 →
    impl_CodeStay.l1 (m + n + 1) acc x y xs len i a.f0 a.f1 b.f0 b.f1 = impl_CodeStay.l0 m (acc ++ leg n a b) xs len (wrap64 (i + 1)) b.f0 b.f1 := by
  intro n
  induction n with
  | zero =>
    intro m acc a x y ha hl hd hxy hacc
    obtain rfl := dist_zero.1 hd
    simp only [impl_CodeStay.l1]
    rw [if_neg (by rw [ne_bool]; simp)]
    simp [leg]
  | succ n ih =>
    intro m acc a x y ha hl hd hxy hacc
    obtain ⟨rfl, rfl⟩ := hxy (by omega)
    obtain ⟨h1, h2, h3, h4⟩ := nxt_dist hl n hd
    have hn := nxt_ok ha hb
    have hn' := hn
    rw [okP_iff] at hn'
    obtain ⟨q, hq⟩ : ∃ q, q = m + n + 1 := ⟨_, rfl⟩
    rw [show m + (n + 1) + 1 = q + 1 by omega]
    simp only [impl_CodeStay.l1]
    rw [if_pos (by rw [ne_bool]; intro e; rw [dist_zero.2 e] at hd; omega), if_pos (by omega)]
    have e0 : wrap64 (a.f0 + sgn a.f0 b.f0) = (nxt a b).f0 := by have e : (nxt a b).f0 = a.f0 + sgn a.f0 b.f0 := rfl; rw [e] at hn' ⊢; exact w_id (by omega) (by omega)
    have e1 : wrap64 (a.f1 + sgn a.f1 b.f1) = (nxt a b).f1 := by have e : (nxt a b).f1 = a.f1 + sgn a.f1 b.f1 := rfl; rw [e] at hn' ⊢; exact w_id (by omega) (by omega)
    rw [e0, e1, pt_eta, hq, ih m (acc ++ [nxt a b]) (nxt a b) _ _ hn h2 h1 (fun hn => ⟨(h4 hn).1.symm, (h4 hn).2.symm⟩) (by simp; omega)]
    simp [leg]
theorem spec_l1 (xs : List PT) (i : Int) (b : PT) (hb : okP b = true) : ∀ (n m : Nat) (acc : List PT) (a : PT), okP a = true → InLine a b → dist a b = n → acc.length + n < 8796093022208 →
    spec_l22Stay.l1 (m + n + 1) xs acc i b.f0 b.f1 a.f0 a.f1 = spec_l22Stay.l0 m xs (acc ++ leg n a b) (wrap64 (i + 1)) := by
  intro n
  induction n with
  | zero =>
    intro m acc a ha hl hd hacc
    obtain rfl := dist_zero.1 hd
    simp only [spec_l22Stay.l1]
    rw [if_neg (by rw [ne_bool]; simp)]
    simp [leg]
  | succ n ih =>
    intro m acc a ha hl hd hacc
    obtain ⟨h1, h2, h3, h4⟩ := nxt_dist hl n hd
    have hn := nxt_ok ha hb
    have hn' := hn
    have ha' := ha
    have hb' := hb
    rw [okP_iff] at hn' ha' hb'
    obtain ⟨q, hq⟩ : ∃ q, q = m + n + 1 := ⟨_, rfl⟩
    rw [show m + (n + 1) + 1 = q + 1 by omega]
    simp only [spec_l22Stay.l1]
    rw [if_pos (by rw [ne_bool]; intro e; rw [dist_zero.2 e] at hd; omega), w_id (x := b.f0 - a.f0) (by omega) (by omega), w_id (x := b.f1 - a.f1) (by omega) (by omega), specSign, specSign, sgn_sub, sgn_sub]
    simp only [Option.bind_some]
    rw [if_pos (by omega)]
    have e0 : wrap64 (a.f0 + sgn a.f0 b.f0) = (nxt a b).f0 := by have e : (nxt a b).f0 = a.f0 + sgn a.f0 b.f0 := rfl; rw [e] at hn' ⊢; exact w_id (by omega) (by omega)
    have e1 : wrap64 (a.f1 + sgn a.f1 b.f1) = (nxt a b).f1 := by have e : (nxt a b).f1 = a.f1 + sgn a.f1 b.f1 := rfl; rw [e] at hn' ⊢; exact w_id (by omega) (by omega)
    rw [e0, e1, pt_eta, hq, ih m (acc ++ [nxt a b]) (nxt a b) hn h2 h1 (by simp; omega)]
    simp [leg]
instance (a b : PT) : Decidable (InLine a b) := by unfold InLine; infer_instance
/-- may one stay on a line from a to b -/
def good (a b : PT) : Bool := okP b && decide (a ≠ b) && decide (InLine a b)
def stayGo : PT → List PT → Option (List PT)
  | _, [] => some []
  | a, b :: r => if good a b = true then (stayGo b r).map (leg (dist a b) a b ++ ·) else none
theorem good_iff {a b : PT} : good a b = true ↔ okP b = true ∧ a ≠ b ∧ InLine a b := by simp [good, and_assoc]
def Ends (acc : List PT) (p : PT) : Prop := 0 < acc.length ∧ g acc (acc.length - 1) = p
theorem g_append_left {l r : List PT} {i : Nat} (h : i < l.length) : g (l ++ r) i = g l i := by simp [g, List.getD_eq_getElem?_getD, List.getElem?_append_left h]
theorem g_append_last (l : List PT) (p : PT) : g (l ++ [p]) l.length = p := by simp [g, List.getD_eq_getElem?_getD]
theorem pathTo_snoc {acc : List PT} {a p : PT} (h : PathTo acc 0) (he : Ends acc a) (hp : okP p = true) (hs : Step a p) : PathTo (acc ++ [p]) 0 ∧ Ends (acc ++ [p]) p := by
  constructor
  · intro j _ hj
    simp only [List.length_append, List.length_cons, List.length_nil] at hj
    rcases Nat.lt_or_ge j acc.length with h1 | h1
    · rw [g_append_left h1, g_append_left (by omega)]
      exact h j (by omega) h1
    · obtain rfl : j = acc.length := by omega
      rw [g_append_last, g_append_left (by have := he.1; omega), he.2]
      exact ⟨hp, fun _ => hs⟩
  · refine ⟨by simp, ?_⟩
    rw [show (acc ++ [p]).length - 1 = acc.length by simp]
    exact g_append_last acc p
theorem pathTo_leg (b : PT) (hb : okP b = true) : ∀ (n : Nat) (acc : List PT) (a : PT), okP a = true → InLine a b → dist a b = n → PathTo acc 0 → Ends acc a → PathTo (acc ++ leg n a b) 0 ∧ Ends (acc ++ leg n a b) b := by
  intro n
  induction n with
  | zero =>
    intro acc a ha hl hd hp he
    obtain rfl := dist_zero.1 hd
    simp only [leg, List.append_nil]
    exact ⟨hp, he⟩
  | succ n ih =>
    intro acc a ha hl hd hp he
    obtain ⟨h1, h2, h3, h4⟩ := nxt_dist hl n hd
    obtain ⟨hp', he'⟩ := pathTo_snoc hp he (nxt_ok ha hb) h3
    have := ih (acc ++ [nxt a b]) (nxt a b) (nxt_ok ha hb) h2 h1 hp' he'
    simpa [leg] using this
def fin (r : Option (List PT)) (acc : List PT) : List PT × Bool :=
  match r with
  | none => ([], false)
  | some l => if (acc ++ l).length ≤ 400 then (acc ++ l, true) else ([], false)
theorem fin_map (r : Option (List PT)) (acc l : List PT) : fin (r.map (l ++ ·)) acc = fin r (acc ++ l) := by
  cases r <;> simp [fin, List.append_assoc]
theorem impl_l0 (r : List PT) (hr : r.length ≤ 400) : ∀ (rem : List PT) (k i : Nat) (acc : List PT) (a : PT), r.drop i = rem → i ≤ r.length → okP a = true → PathTo acc 0 → Ends acc a → acc.length ≤ 1 + 9 * i → 20 * rem.length + 4000 ≤ k →
    impl_CodeStay.l0 k acc r (r.length : Int) (i : Int) a.f0 a.f1 = some (fin (stayGo a rem) acc) := by
  intro rem
  induction rem with
  | nil =>
    intro k i acc a hd hi ha hp he hacc hk
    have hlen : r.length ≤ i := by have := congrArg List.length hd; simp at this; omega
    obtain ⟨k, rfl⟩ : ∃ m, k = m + 1 := ⟨k - 1, by omega⟩
    simp only [impl_CodeStay.l0]
    rw [if_neg (by omega)]
    obtain ⟨b, hb, hb'⟩ := isPath_f acc (by omega) k (by simp at hk; omega)
    rw [hb]
    simp only [Option.bind_some, stayGo, fin, List.append_nil]
    have h0 := he.1
    by_cases h : acc.length ≤ 400
    · rw [if_pos (hb'.2 ⟨by omega, h, hp⟩), if_pos h]
    · rw [if_neg (fun hh => h (hb'.1 hh).2.1), if_neg h]
  | cons b rem ih =>
    intro k i acc a hd hi ha hp he hacc hk
    have hlt : i < r.length := by
      rcases Nat.lt_or_ge i r.length with h | h
      · exact h
      · rw [List.drop_of_length_le h] at hd; cases hd
    have hg : g r i = b := by
      rw [List.drop_eq_getElem_cons hlt] at hd
      rw [g_eq hlt]
      exact (List.cons.inj hd).1
    have hdrop : r.drop (i + 1) = rem := by
      rw [List.drop_eq_getElem_cons hlt] at hd
      exact (List.cons.inj hd).2
    simp only [List.length_cons] at hk
    obtain ⟨k, rfl⟩ : ∃ m, k = m + 2 := ⟨k - 2, by omega⟩
    simp only [impl_CodeStay.l0]
    rw [if_pos (by omega), if_pos (by omega), if_pos (by omega), rd_nat, hg, implOk, pt_eta]
    simp only [Option.bind_some, stayGo]
    have hbad : ∀ x0 x1 y0 y1 : Int, impl_CodeStay.j2 (k + 1) acc r (r.length : Int) (i : Int) true x0 x1 y0 y1 = some ([], false) := fun _ _ _ _ => by simp only [impl_CodeStay.j2, if_true]
    have hgo : good a b = true → impl_CodeStay.j2 (k + 1) acc r (r.length : Int) (i : Int) false a.f0 a.f1 b.f0 b.f1 = some (fin ((stayGo b rem).map (leg (dist a b) a b ++ ·)) acc) := fun hgd => by
      obtain ⟨hb, hne, hl⟩ := good_iff.1 hgd
      have h9 := ok_dist ha hb hl
      simp only [impl_CodeStay.j2, Bool.false_eq_true, if_false]
      rw [implToward, implToward]
      simp only [Option.bind_some]
      obtain ⟨m, hm⟩ : ∃ m, k = m + dist a b + 1 := ⟨k - dist a b - 1, by omega⟩
      obtain ⟨hp', he'⟩ := pathTo_leg b hb _ acc a ha hl rfl hp he
      rw [hm, impl_l1 r _ _ b hb (dist a b) m acc a _ _ ha hl rfl (fun _ => ⟨rfl, rfl⟩) (by omega), w_succ (by omega),
        ih m (i + 1) (acc ++ leg (dist a b) a b) b hdrop (by omega) hb hp' he' (by rw [List.length_append, leg_length]; omega) (by omega), fin_map]
    by_cases hok : okP b = true
    · rw [if_pos hok]
      by_cases heq : a = b
      · subst heq
        rw [if_pos (by rw [eq_bool]), hbad, if_neg (by rw [good_iff]; simp)]
        rfl
      · rw [if_neg (by rw [eq_bool]; exact fun e => heq e.symm)]
        by_cases hx : b.f0 = a.f0
        · have hgd : good a b = true := good_iff.2 ⟨hok, heq, .inl hx.symm⟩
          rw [if_pos hx, hgo hgd, if_pos hgd]
        · rw [if_neg hx]
          by_cases hy : b.f1 = a.f1
          · have hgd : good a b = true := good_iff.2 ⟨hok, heq, .inr hy.symm⟩
            rw [show (b.f1 != a.f1) = false by simp [hy], hgo hgd, if_pos hgd]
          · rw [show (b.f1 != a.f1) = true by simp [hy], hbad, if_neg (by rw [good_iff]; unfold InLine; omega)]
            rfl
    · rw [if_neg hok, hbad, if_neg (by rw [good_iff]; exact fun h => hok h.1)]
      rfl
theorem spec_l0 (r : List PT) (hr : r.length ≤ 400) : ∀ (rem : List PT) (k i : Nat) (acc : List PT), 1 ≤ i → r.drop i = rem → i ≤ r.length → okP (g r (i - 1)) = true → acc.length ≤ 1 + 9 * i → 20 * rem.length + 4000 ≤ k →
    spec_l22Stay.l0 k r acc (i : Int) = some (fin (stayGo (g r (i - 1)) rem) acc) := by
  intro rem
  induction rem with
  | nil =>
    intro k i acc h1 hd hi ha hacc hk
    have hlen : r.length ≤ i := by have := congrArg List.length hd; simp at this; omega
    obtain ⟨k, rfl⟩ : ∃ m, k = m + 1 := ⟨k - 1, by omega⟩
    simp only [spec_l22Stay.l0]
    rw [if_neg (by omega)]
    simp only [stayGo, fin, List.append_nil]
    by_cases h : acc.length ≤ 400
    · rw [if_neg (by omega), if_pos h]
    · rw [if_pos (by omega), if_neg h]
  | cons b rem ih =>
    intro k i acc h1 hd hi ha hacc hk
    have hlt : i < r.length := by
      rcases Nat.lt_or_ge i r.length with h | h
      · exact h
      · rw [List.drop_of_length_le h] at hd; cases hd
    have hg : g r i = b := by
      rw [List.drop_eq_getElem_cons hlt] at hd
      rw [g_eq hlt]
      exact (List.cons.inj hd).1
    have hdrop : r.drop (i + 1) = rem := by
      rw [List.drop_eq_getElem_cons hlt] at hd
      exact (List.cons.inj hd).2
    simp only [List.length_cons] at hk
    obtain ⟨k, rfl⟩ : ∃ m, k = m + 2 := ⟨k - 2, by omega⟩
    simp only [spec_l22Stay.l0]
    rw [if_pos (by omega), if_pos (by omega), w_pred (by omega) (by omega), if_pos (by omega), if_pos (by omega), rd_nat, rd_nat, hg, specOk, pt_eta]
    generalize g r (i - 1) = a at *
    simp only [Option.bind_some, stayGo]
    have hbad : ∀ x0 x1 y0 y1 : Int, spec_l22Stay.j2 (k + 1) r acc (i : Int) true x0 x1 y0 y1 = some ([], false) := fun _ _ _ _ => by simp only [spec_l22Stay.j2, if_true]
    have hgo : good a b = true → spec_l22Stay.j2 (k + 1) r acc (i : Int) false b.f0 b.f1 a.f0 a.f1 = some (fin ((stayGo b rem).map (leg (dist a b) a b ++ ·)) acc) := fun hgd => by
      obtain ⟨hb, hne, hl⟩ := good_iff.1 hgd
      have h9 := ok_dist ha hb hl
      simp only [spec_l22Stay.j2, Bool.false_eq_true, if_false]
      obtain ⟨m, hm⟩ : ∃ m, k = m + dist a b + 1 := ⟨k - dist a b - 1, by omega⟩
      have hih := ih m (i + 1) (acc ++ leg (dist a b) a b) (by omega) hdrop (by omega) (by rw [show i + 1 - 1 = i by omega, hg]; exact hb) (by rw [List.length_append, leg_length]; omega) (by omega)
      rw [show i + 1 - 1 = i by omega, hg] at hih
      rw [hm, spec_l1 r _ b hb (dist a b) m acc a ha hl rfl (by omega), w_succ (by omega), hih, fin_map]
    by_cases hok : okP b = true
    · rw [if_pos hok]
      by_cases heq : a = b
      · subst heq
        rw [if_pos (by rw [eq_bool]), hbad, if_neg (by rw [good_iff]; simp)]
        rfl
      · rw [if_neg (by rw [eq_bool]; exact fun e => heq e.symm)]
        by_cases hx : b.f0 = a.f0
        · have hgd : good a b = true := good_iff.2 ⟨hok, heq, .inl hx.symm⟩
          rw [if_pos hx, hgo hgd, if_pos hgd]
        · rw [if_neg hx]
          by_cases hy : b.f1 = a.f1
          · have hgd : good a b = true := good_iff.2 ⟨hok, heq, .inr hy.symm⟩
            rw [show (b.f1 != a.f1) = false by simp [hy], hgo hgd, if_pos hgd]
          · rw [show (b.f1 != a.f1) = true by simp [hy], hbad, if_neg (by rw [good_iff]; unfold InLine; omega)]
            rfl
    · rw [if_neg hok, hbad, if_neg (by rw [good_iff]; exact fun h => hok h.1)]
      rfl
/-- what CodeStay answers -/
def stay (t : List PT) : List PT × Bool :=
  match t with
  | [] => ([], false)
  | a :: r => if r.length ≤ 399 ∧ okP a = true then fin (stayGo a r) [a] else ([], false)
theorem one_path {a : PT} (ha : okP a = true) : PathTo [a] 0 ∧ Ends [a] a := by
  refine ⟨fun j _ hj => ?_, by simp [Ends, g]⟩
  obtain rfl : j = 0 := by simpa using hj
  exact ⟨by simpa [g] using ha, fun h => absurd h (by omega)⟩
theorem implCodeStay (t : List PT) (hl : t.length < 1000000000000000000) (k : Nat) (hk : 20000 ≤ k) : impl_CodeStay.f k t = some (stay t) := by
  obtain ⟨k, rfl⟩ : ∃ m, k = m + 1 := ⟨k - 1, by omega⟩
  have hbad : impl_CodeStay.j0 (k + 1) t true = some ([], false) := by simp only [impl_CodeStay.j0, if_true]
  unfold impl_CodeStay.f
  match t, hl, hbad with
  | [], hl, hbad =>
    rw [if_pos (by simp), hbad]
    rfl
  | a :: r, hl, hbad =>
    rw [if_neg (by simp only [List.length_cons]; omega)]
    simp only [List.length_cons] at hl
    by_cases h4 : r.length ≤ 399
    · rw [if_neg (by simp only [List.length_cons]; omega), if_pos (by simp only [List.length_cons]; omega), rd_zero, show g (a :: r) 0 = a from rfl, implOk, pt_eta]
      simp only [Option.bind_some, stay]
      by_cases hok : okP a = true
      · rw [if_pos ⟨h4, hok⟩, hok]
        simp only [impl_CodeStay.j0, Bool.not_true, Bool.false_eq_true, if_false]
        rw [if_pos (by simp only [List.length_cons]; omega), if_pos (by simp only [List.length_cons]; omega), rd_zero, show g (a :: r) 0 = a from rfl, pt_eta]
        simp only [Option.bind_some, List.drop_succ_cons, List.drop_zero]
        obtain ⟨hp, he⟩ := one_path hok
        exact impl_l0 r (by omega) r k 0 [a] a rfl (by omega) hok hp he (by simp) (by omega)
      · rw [if_neg (fun h => hok h.2), show okP a = false by simpa using hok]
        exact hbad
    · rw [if_pos (by simp only [List.length_cons]; omega), hbad]
      simp only [stay]
      rw [if_neg (fun h => h4 h.1)]
theorem specStay (t : List PT) (hl : t.length < 1000000000000000000) (k : Nat) (hk : 20000 ≤ k) : spec_l22Stay.f k t = some (stay t) := by
  obtain ⟨k, rfl⟩ : ∃ m, k = m + 1 := ⟨k - 1, by omega⟩
  have hbad : spec_l22Stay.j0 (k + 1) t true = some ([], false) := by simp only [spec_l22Stay.j0, if_true]
  unfold spec_l22Stay.f
  rw [specIn]
  simp only [Option.bind_some]
  match t, hl, hbad with
  | [], hl, hbad =>
    rw [if_neg (by simp), hbad]
    rfl
  | a :: r, hl, hbad =>
    simp only [List.length_cons] at hl
    by_cases h4 : r.length ≤ 399
    · rw [if_pos (by rw [decide_eq_true_eq]; simp only [List.length_cons]; omega), if_pos (by simp only [List.length_cons]; omega), rd_zero, show g (a :: r) 0 = a from rfl, specOk, pt_eta]
      simp only [Option.bind_some, stay]
      by_cases hok : okP a = true
      · rw [if_pos ⟨h4, hok⟩, hok]
        simp only [spec_l22Stay.j0, Bool.not_true, Bool.false_eq_true, if_false]
        rw [if_pos (by simp only [List.length_cons]; omega), rd_zero, show g (a :: r) 0 = a from rfl, pt_eta]
        have := spec_l0 (a :: r) (by simp only [List.length_cons]; omega) r k 1 [a] (by omega) rfl (by simp) hok (by simp) (by omega)
        exact this
      · rw [if_neg (fun h => hok h.2), show okP a = false by simpa using hok]
        exact hbad
    · rw [if_neg (by rw [decide_eq_true_eq]; simp only [List.length_cons]; omega), hbad]
      simp only [stay]
      rw [if_neg (fun h => h4 h.1)]
end Go.Proofs.YtdacpdhpifocbaaDoor.Q

namespace Go.Proofs.YtdacpdhpifocbaaDoor.Q
open Go.RowKit Go.Proofs.YtdacpdhpifocbaaDoor.P Go.Proofs.YtdacpdhpifocbaaDoorW.PrintWords Go.Proofs.YtdacpdhpifocbaaDoorW.PrintLast
set_option linter.unusedVariables false

theorem extend {a b c : PT} {n : Nat} (hl : InLine b c) (hd : dist b c = n + 1) (hs : Step a b) (h0 : (nxt b c).f0 - b.f0 = b.f0 - a.f0) (h1 : (nxt b c).f1 - b.f1 = b.f1 - a.f1) :
    InLine a c ∧ dist a c = n + 2 ∧ nxt a c = b ∧ a ≠ c := by
  have e0 : (nxt b c).f0 = b.f0 + sgn b.f0 c.f0 := rfl
  have e1 : (nxt b c).f1 = b.f1 + sgn b.f1 c.f1 := rfl
  rw [e0] at h0
  rw [e1] at h1
  have key : InLine a c ∧ dist a c = n + 2 ∧ (a.f0 + sgn a.f0 c.f0 = b.f0 ∧ a.f1 + sgn a.f1 c.f1 = b.f1) := by
    unfold dist InLine Step at *
    rcases sgn_spec b.f0 c.f0 with ⟨p, e⟩ | ⟨p, e⟩ | ⟨p, e⟩ <;> rcases sgn_spec b.f1 c.f1 with ⟨p', e'⟩ | ⟨p', e'⟩ | ⟨p', e'⟩ <;> rw [e] at h0 <;> rw [e'] at h1 <;>
      rcases sgn_spec a.f0 c.f0 with ⟨q, f⟩ | ⟨q, f⟩ | ⟨q, f⟩ <;> rcases sgn_spec a.f1 c.f1 with ⟨q', f'⟩ | ⟨q', f'⟩ | ⟨q', f'⟩ <;> rw [f, f'] <;> omega
  refine ⟨key.1, key.2.1, PT.ext key.2.2.1 key.2.2.2, fun e => ?_⟩
  rw [dist_zero.2 e] at key
  omega
theorem step_nxt {a b : PT} (hs : Step a b) : InLine a b ∧ dist a b = 1 ∧ nxt a b = b ∧ a ≠ b := by
  have key : InLine a b ∧ dist a b = 1 ∧ (a.f0 + sgn a.f0 b.f0 = b.f0 ∧ a.f1 + sgn a.f1 b.f1 = b.f1) := by
    unfold dist InLine Step at *
    rcases sgn_spec a.f0 b.f0 with ⟨q, f⟩ | ⟨q, f⟩ | ⟨q, f⟩ <;> rcases sgn_spec a.f1 b.f1 with ⟨q', f'⟩ | ⟨q', f'⟩ | ⟨q', f'⟩ <;> rw [f, f'] <;> omega
  refine ⟨key.1, key.2.1, PT.ext key.2.2.1 key.2.2.2, fun e => ?_⟩
  rw [dist_zero.2 e] at key
  omega
theorem drop_g {l : List PT} {i : Nat} (h : i < l.length) : l.drop i = g l i :: l.drop (i + 1) := by rw [List.drop_eq_getElem_cons h, g_eq h]
/-- From each point of a path on, what is between its turns is the path. -/
theorem stayGo_turns (l : List PT) (hp : PathTo l 0) : ∀ (d i : Nat), l.length - i = d + 1 → stayGo (g l i) (turnsFrom l (i + 1)) = some (l.drop (i + 1)) := by
  intro d
  induction d with
  | zero =>
    intro i hd
    rw [turnsFrom_end l (i + 1) (by omega), List.drop_of_length_le (by omega)]
    rfl
  | succ d ih =>
    intro i hd
    have hs : Step (g l i) (g l (i + 1)) := (hp (i + 1) (by omega) (by omega)).2 (by omega)
    have hb := (hp (i + 1) (by omega) (by omega)).1
    have h := ih (i + 1) (by omega)
    rw [turnsFrom_step l (i + 1) (by omega)]
    by_cases ht : turnAt l (i + 1) = true
    · rw [if_pos ht, List.singleton_append]
      obtain ⟨h1, h2, h3, h4⟩ := step_nxt hs
      simp only [stayGo]
      rw [if_pos (good_iff.2 ⟨hb, h4, h1⟩), h, h2]
      simp only [leg, Option.map_some, h3, List.singleton_append]
      rw [drop_g (show i + 1 < l.length by omega)]
    · rw [if_neg ht, List.nil_append]
      have hlast : i + 1 + 1 < l.length := by
        rcases Nat.lt_or_ge (i + 1 + 1) l.length with h' | h'
        · exact h'
        · exact absurd (show turnAt l (i + 1) = true by simp [turnAt]; omega) ht
      have hg : goesOn (g l i) (g l (i + 1)) (g l (i + 1 + 1)) = true := by
        simp only [turnAt, Bool.or_eq_true, Bool.not_eq_true', not_or] at ht
        simpa using ht.2
      simp only [goesOn, Bool.and_eq_true, beq_iff_eq] at hg
      rw [drop_g hlast] at h
      cases hc : turnsFrom l (i + 1 + 1) with
      | nil =>
        rw [hc] at h
        simp [stayGo] at h
      | cons c t =>
        rw [hc] at h
        simp only [stayGo] at h ⊢
        by_cases hgd : good (g l (i + 1)) c = true
        · rw [if_pos hgd] at h
          obtain ⟨hok, hne, hl⟩ := good_iff.1 hgd
          obtain ⟨n, hn⟩ : ∃ n, dist (g l (i + 1)) c = n + 1 := ⟨dist (g l (i + 1)) c - 1, by
            have : dist (g l (i + 1)) c ≠ 0 := fun e => hne (dist_zero.1 e)
            omega⟩
          obtain ⟨m, hm, hm'⟩ := Option.map_eq_some_iff.1 h
          rw [hn] at hm'
          simp only [leg, List.cons_append] at hm'
          obtain ⟨e1, e2⟩ := List.cons.inj hm'
          obtain ⟨x1, x2, x3, x4⟩ := extend hl hn hs (by rw [e1]; exact hg.1) (by rw [e1]; exact hg.2)
          rw [if_pos (good_iff.2 ⟨hok, x4, x1⟩), hm, x2]
          simp only [Option.map_some]
          rw [drop_g (show i + 1 < l.length by omega), drop_g hlast, ← hm']
          simp [leg, x3, e1]
        · rw [if_neg hgd] at h
          cases h
theorem stay_turns (l : List PT) (hp : IsPath l) : stay (turns l) = (l, true) := by
  obtain ⟨h1, h2, hp⟩ := hp
  have h := stayGo_turns l hp (l.length - 1) 0 (by omega)
  unfold turns
  rw [turnsFrom_step l 0 (by omega), if_pos (by simp [turnAt]), List.singleton_append]
  simp only [stay]
  have hlen : (turnsFrom l (0 + 1)).length ≤ l.length - 1 := by
    unfold turnsFrom
    rw [List.length_map]
    exact Nat.le_trans (List.length_filter_le _ _) (by simp)
  rw [if_pos ⟨by omega, (hp 0 (by omega) (by omega)).1⟩, h]
  have e : [g l 0] ++ l.drop 1 = l := by
    have := drop_g (show 0 < l.length by omega)
    simpa using this.symm
  simp only [fin]
  rw [e, if_pos h2]

/-- The turns on a leg are at its end at most. -/
theorem turns_leg (b : PT) (m : List PT) : ∀ (n : Nat) (acc : List PT) (a : PT), Ends acc a → InLine a b → dist a b = n + 1 →
    turnsFrom (acc ++ leg (n + 1) a b ++ m) acc.length = (if turnAt (acc ++ leg (n + 1) a b ++ m) (acc.length + n) = true then [b] else []) ++ turnsFrom (acc ++ leg (n + 1) a b ++ m) (acc.length + n + 1) := by
  intro n
  induction n with
  | zero =>
    intro acc a he hl hd
    obtain ⟨h1, h2, h3, h4⟩ := nxt_dist hl 0 hd
    rw [dist_zero] at h1
    rw [turnsFrom_step _ acc.length (by simp [leg_length]; omega)]
    have hg : g (acc ++ leg (0 + 1) a b ++ m) acc.length = b := by
      rw [g_append_left (by simp [leg_length])]
      simp only [leg, h1]
      exact g_append_last acc b
    rw [hg]
    simp only [Nat.add_zero]
  | succ n ih =>
    intro acc a he hl hd
    obtain ⟨h1, h2, h3, h4⟩ := nxt_dist hl (n + 1) hd
    have e : acc ++ leg (n + 1 + 1) a b ++ m = (acc ++ [nxt a b]) ++ leg (n + 1) (nxt a b) b ++ m := by simp [leg]
    have he' : Ends (acc ++ [nxt a b]) (nxt a b) := by
      refine ⟨by simp, ?_⟩
      rw [show (acc ++ [nxt a b]).length - 1 = acc.length by simp]
      exact g_append_last acc _
    have h := ih (acc ++ [nxt a b]) (nxt a b) he' h2 h1
    have hlen : ((acc ++ [nxt a b]) ++ leg (n + 1) (nxt a b) b ++ m).length = acc.length + 1 + (n + 1) + m.length := by simp [leg_length]; omega
    have g0 : g ((acc ++ [nxt a b]) ++ leg (n + 1) (nxt a b) b ++ m) (acc.length - 1) = a := by
      have := he.1
      rw [List.append_assoc, List.append_assoc, g_append_left (by omega), he.2]
    have g1 : g ((acc ++ [nxt a b]) ++ leg (n + 1) (nxt a b) b ++ m) acc.length = nxt a b := by
      rw [List.append_assoc, g_append_left (by simp), g_append_last]
    have g2 : g ((acc ++ [nxt a b]) ++ leg (n + 1) (nxt a b) b ++ m) (acc.length + 1) = nxt (nxt a b) b := by
      have e2 : (acc ++ [nxt a b]) ++ leg (n + 1) (nxt a b) b ++ m = ((acc ++ [nxt a b]) ++ [nxt (nxt a b) b]) ++ (leg n (nxt (nxt a b) b) b ++ m) := by simp [leg]
      rw [e2, g_append_left (by simp), show acc.length + 1 = (acc ++ [nxt a b]).length by simp, g_append_last]
    have hnt : turnAt ((acc ++ [nxt a b]) ++ leg (n + 1) (nxt a b) b ++ m) acc.length = false := by
      unfold turnAt
      rw [g0, g1, g2]
      have hdir := h4 (by omega)
      have := he.1
      have x0 : (nxt (nxt a b) b).f0 - (nxt a b).f0 = (nxt a b).f0 - a.f0 := by
        have p0 : (nxt (nxt a b) b).f0 = (nxt a b).f0 + sgn (nxt a b).f0 b.f0 := rfl
        have p1 : (nxt a b).f0 = a.f0 + sgn a.f0 b.f0 := rfl
        rw [p0, hdir.1]
        omega
      have x1 : (nxt (nxt a b) b).f1 - (nxt a b).f1 = (nxt a b).f1 - a.f1 := by
        have p0 : (nxt (nxt a b) b).f1 = (nxt a b).f1 + sgn (nxt a b).f1 b.f1 := rfl
        have p1 : (nxt a b).f1 = a.f1 + sgn a.f1 b.f1 := rfl
        rw [p0, hdir.2]
        omega
      have hgo : goesOn a (nxt a b) (nxt (nxt a b) b) = true := by simp only [goesOn, Bool.and_eq_true, beq_iff_eq]; exact ⟨x0, x1⟩
      rw [hgo, decide_eq_false (by omega), decide_eq_false (by omega)]
      rfl
    rw [e, turnsFrom_step _ acc.length (by omega), hnt, if_neg (by decide), List.nil_append]
    rw [show (acc ++ [nxt a b]).length = acc.length + 1 by simp] at h
    rw [h]
    rw [show acc.length + 1 + n = acc.length + (n + 1) by omega]
/-- The turns of what is between points are some of the points, in order. -/
theorem turns_sub : ∀ (r acc m : List PT) (a : PT), stayGo a r = some m → Ends acc a → List.Sublist (turnsFrom (acc ++ m) acc.length) r := by
  intro r
  induction r with
  | nil =>
    intro acc m a h he
    simp only [stayGo, Option.some.injEq] at h
    subst h
    rw [List.append_nil, turnsFrom_end _ _ (Nat.le_refl _)]
    exact List.Sublist.slnil
  | cons b r ih =>
    intro acc m a h he
    simp only [stayGo] at h
    by_cases hgd : good a b = true
    · rw [if_pos hgd] at h
      obtain ⟨hok, hne, hl⟩ := good_iff.1 hgd
      obtain ⟨n, hn⟩ : ∃ n, dist a b = n + 1 := ⟨dist a b - 1, by
        have : dist a b ≠ 0 := fun e => hne (dist_zero.1 e)
        omega⟩
      obtain ⟨m', hm, rfl⟩ := Option.map_eq_some_iff.1 h
      rw [hn, ← List.append_assoc, turns_leg b m' n acc a he hl hn]
      have he' : Ends (acc ++ leg (n + 1) a b) b := by
        clear h hm ih
        refine ⟨by rw [List.length_append, leg_length]; omega, ?_⟩
        have key : ∀ (n : Nat) (acc : List PT) (a : PT), InLine a b → dist a b = n + 1 → g (acc ++ leg (n + 1) a b) ((acc ++ leg (n + 1) a b).length - 1) = b := by
          intro n
          induction n with
          | zero =>
            intro acc a hl hd
            obtain ⟨h1, _⟩ := nxt_dist hl 0 hd
            rw [dist_zero] at h1
            simp only [leg, h1]
            rw [show (acc ++ [b]).length - 1 = acc.length by simp]
            exact g_append_last acc b
          | succ n ih =>
            intro acc a hl hd
            obtain ⟨h1, h2, _⟩ := nxt_dist hl (n + 1) hd
            have := ih (acc ++ [nxt a b]) (nxt a b) h2 h1
            rw [show acc ++ leg (n + 1 + 1) a b = (acc ++ [nxt a b]) ++ leg (n + 1) (nxt a b) b by simp [leg]]
            exact this
        exact key n acc a hl hn
      have hsub := ih (acc ++ leg (n + 1) a b) m' b hm he'
      rw [show (acc ++ leg (n + 1) a b).length = acc.length + n + 1 by simp [leg_length]; omega] at hsub
      split
      · exact List.Sublist.cons_cons b hsub
      · exact List.Sublist.cons b hsub
    · rw [if_neg hgd] at h
      cases h
theorem stayGo_path : ∀ (r acc m : List PT) (a : PT), stayGo a r = some m → okP a = true → PathTo acc 0 → Ends acc a → PathTo (acc ++ m) 0 := by
  intro r
  induction r with
  | nil =>
    intro acc m a h ha hp he
    simp only [stayGo, Option.some.injEq] at h
    subst h
    simpa using hp
  | cons b r ih =>
    intro acc m a h ha hp he
    simp only [stayGo] at h
    by_cases hgd : good a b = true
    · rw [if_pos hgd] at h
      obtain ⟨hok, hne, hl⟩ := good_iff.1 hgd
      obtain ⟨m', hm, rfl⟩ := Option.map_eq_some_iff.1 h
      obtain ⟨hp', he'⟩ := pathTo_leg b hok _ acc a ha hl rfl hp he
      rw [← List.append_assoc]
      exact ih _ m' b hm hok hp' he'
    · rw [if_neg hgd] at h
      cases h
/-- What CodeStay answers with true. -/
theorem stay_true {t l : List PT} (h : stay t = (l, true)) : IsPath l ∧ List.Sublist (turns l) t := by
  match t, h with
  | [], h => simp [stay] at h
  | a :: r, h =>
    simp only [stay] at h
    by_cases hc : r.length ≤ 399 ∧ okP a = true
    · rw [if_pos hc] at h
      cases hm : stayGo a r with
      | none => rw [hm] at h; simp [fin] at h
      | some m =>
        rw [hm] at h
        simp only [fin] at h
        by_cases h4 : ([a] ++ m).length ≤ 400
        · rw [if_pos h4] at h
          obtain rfl : [a] ++ m = l := (Prod.mk.inj h).1
          obtain ⟨hp, he⟩ := one_path hc.2
          refine ⟨⟨by simp, h4, stayGo_path r [a] m a hm hc.2 hp he⟩, ?_⟩
          unfold turns
          rw [turnsFrom_step _ 0 (by simp), if_pos (by simp [turnAt])]
          exact List.Sublist.cons_cons a (turns_sub r [a] m a hm he)
        · rw [if_neg h4] at h
          simp at h
    · rw [if_neg hc] at h
      simp at h
theorem codeTurns_path {l : List PT} (h : IsPath l) : codeTurns l = turns l := by unfold codeTurns; rw [if_pos h]
end Go.Proofs.YtdacpdhpifocbaaDoor.Q

namespace Go.Proofs.YtdacpdhpifocbaaDoor.Q
open Go.RowKit Go.Proofs.YtdacpdhpifocbaaDoor.P Go.Proofs.YtdacpdhpifocbaaDoor.Ch Go.Proofs.YtdacpdhpifocbaaDoorW.PrintWords Go.Proofs.YtdacpdhpifocbaaDoorW.PrintLast
set_option linter.unusedVariables false

theorem mem_g0 {l : List PT} {p : PT} : p ∈ l ↔ ∃ j, j < l.length ∧ g l j = p := by
  rw [List.mem_iff_getElem]
  exact ⟨fun ⟨j, h, e⟩ => ⟨j, h, by rw [g_eq h]; exact e⟩, fun ⟨j, h, e⟩ => ⟨j, h, by rw [← g_eq h]; exact e⟩⟩
theorem turns_mem {l : List PT} {p : PT} (h : p ∈ turns l) : p ∈ l := by
  unfold turns turnsFrom at h
  obtain ⟨j, hj, rfl⟩ := List.mem_map.1 h
  have := (List.mem_filter.1 hj).1
  rw [List.mem_range'] at this
  obtain ⟨i, hi, rfl⟩ := this
  exact mem_g0.2 ⟨0 + 1 * i, by omega, rfl⟩
theorem turns_le (l : List PT) : (turns l).length ≤ l.length := by
  unfold turns turnsFrom
  rw [List.length_map]
  exact Nat.le_trans (List.length_filter_le _ _) (by simp)
theorem path_ok {l : List PT} (h : IsPath l) : ∀ p ∈ l, okP p = true := fun p hp => by
  obtain ⟨j, hj, rfl⟩ := mem_g0.1 hp
  exact (h.2.2 j (Nat.zero_le _) hj).1
theorem codeTurns_small (l : List PT) : smallPts (codeTurns l) = true := by
  unfold codeTurns
  split
  · rename_i h
    simp only [smallPts, Bool.and_eq_true, List.all_eq_true, decide_eq_true_eq]
    refine ⟨Nat.le_trans (turns_le l) h.2.1, fun p hp => ?_⟩
    have := okP_iff.1 (path_ok h p (turns_mem hp))
    omega
  · rfl
/-- the text of a path, or none -/
noncomputable def cwText (l : List PT) : ByteArray := ⟨(wlines 0 (codeTurns l)).toArray⟩
theorem implCodeWrite (l : List PT) (hl : l.length < 1000000000000000000) (k : Nat) (hk : l.length + 2 ≤ k) : impl_CodeWrite.f k l = some (cwText l) := by
  unfold impl_CodeWrite.f cwText
  rw [implCodeTurns l hl k hk]
  simp only [Option.bind_some]
  rw [if_pos (codeTurns_small l)]
theorem dec1 (x : Int) (h0 : 0 ≤ x) (h9 : x ≤ 9) (k : Nat) (hk : 1 ≤ k) : spec_l6Dec.f k x = some ⟨#[UInt8.ofNat (48 + x.toNat)]⟩ := by
  obtain ⟨k, rfl⟩ : ∃ m, k = m + 1 := ⟨k - 1, by omega⟩
  simp only [spec_l6Dec.f]
  rw [if_neg (by omega), if_neg (by omega), if_pos (by omega), w_id (by omega) (by omega)]
  congr 1
  unfold strOfNums
  simp only [List.map_cons, List.map_nil]
  congr 3
  rw [show (48 + x) % 256 = ((48 + x.toNat : Nat) : Int) by omega, Int.toNat_natCast]
theorem line_app (b : ByteArray) (i : Nat) (p : PT) (a : UInt8) (ha : a = if i = 0 then 48 else 49) : ((((((b ++ (⟨#[71, a]⟩ : ByteArray)) ++ (⟨#[32, 88]⟩ : ByteArray)) ++ (⟨#[UInt8.ofNat (48 + p.f0.toNat)]⟩ : ByteArray)) ++ (⟨#[32, 89]⟩ : ByteArray)) ++ (⟨#[UInt8.ofNat (48 + p.f1.toNat)]⟩ : ByteArray)) ++ (⟨#[10]⟩ : ByteArray)) = b ++ ⟨(lineL i p.f0.toNat p.f1.toNat).toArray⟩ := by
  subst ha
  apply ByteArray.ext
  simp [ByteArray.data_append, lineL, Array.append_assoc]
theorem l22Write_l0 (t : List PT) (ht : t.length ≤ 400) (hok : ∀ p ∈ t, okP p = true) : ∀ (d k i : Nat) (b : ByteArray), t.length - i = d → i ≤ t.length → d + 1 < k → b.size ≤ 9 * i →
    spec_l22Write.l0 k t b (i : Int) = some (b ++ ⟨(wlines i (t.drop i)).toArray⟩) := by
  intro d
  induction d with
  | zero =>
    intro k i b hd hi hk hb
    obtain ⟨k, rfl⟩ : ∃ m, k = m + 1 := ⟨k - 1, by omega⟩
    simp only [spec_l22Write.l0]
    rw [if_neg (by omega), List.drop_eq_nil_of_le (by omega)]
    congr 1
    apply ByteArray.ext
    simp [wlines, ByteArray.data_append]
  | succ d ih =>
    intro k i b hd hi hk hb
    obtain ⟨k, rfl⟩ : ∃ m, k = m + 1 := ⟨k - 1, by omega⟩
    have ok := okP_iff.1 (hok _ (mem_g0.2 ⟨i, by omega, rfl⟩))
    have hd0 := dec1 (g t i).f0 (by omega) (by omega) k (by omega)
    have hd1 := dec1 (g t i).f1 (by omega) (by omega) k (by omega)
    have sz : ∀ (x : ByteArray) (y : Array UInt8), (x ++ (⟨y⟩ : ByteArray)).size = x.size + y.size := fun x y => by rw [ByteArray.size_append]; rfl
    have sz1 : ∀ x : UInt8, (⟨#[x]⟩ : ByteArray).size = 1 := fun _ => rfl
    have key : ∀ a : UInt8, a = (if i = 0 then 48 else 49) → spec_l22Write.l0 k t ((((((b ++ (⟨#[71, a]⟩ : ByteArray)) ++ (⟨#[32, 88]⟩ : ByteArray)) ++ (⟨#[UInt8.ofNat (48 + (g t i).f0.toNat)]⟩ : ByteArray)) ++ (⟨#[32, 89]⟩ : ByteArray)) ++ (⟨#[UInt8.ofNat (48 + (g t i).f1.toNat)]⟩ : ByteArray)) ++ (⟨#[10]⟩ : ByteArray)) (wrap64 ((i : Int) + 1)) = some (b ++ ⟨(wlines i (t.drop i)).toArray⟩) := fun a ha => by
      rw [line_app b i (g t i) a ha, w_succ (by omega), ih k (i + 1) _ (by omega) (by omega) (by omega) (by rw [sz]; simp [lineL]; omega)]
      rw [List.drop_eq_getElem_cons (show i < t.length by omega), ← g_eq]
      congr 1
      apply ByteArray.ext
      simp [wlines, ByteArray.data_append, Array.append_assoc]
    simp only [spec_l22Write.l0]
    rw [if_pos (by omega), rd_nat, hd0, hd1]
    simp only [Option.bind_some, sz, sz1, List.size_toArray, List.length_cons, List.length_nil]
    by_cases h0 : i = 0
    · rw [if_pos (by omega), if_pos (by omega), if_pos (by omega), if_pos (by omega), if_pos (by omega), if_pos (by omega), if_pos (by omega), if_pos (by omega)]
      exact key 48 (by rw [if_pos h0])
    · rw [if_neg (by omega), if_pos (by omega), if_pos (by omega), if_pos (by omega), if_pos (by omega), if_pos (by omega), if_pos (by omega), if_pos (by omega)]
      exact key 49 (by rw [if_neg h0])
theorem specl22Write (l : List PT) (hp : IsPath l) (k : Nat) (hk : l.length + 3 ≤ k) : spec_l22Write.f k l = some (cwText l) := by
  unfold spec_l22Write.f cwText
  rw [l22Turns_f l hp k (by omega)]
  simp only [Option.bind_some]
  have := l22Write_l0 (turns l) (Nat.le_trans (turns_le l) hp.2.1) (fun p h => path_ok hp p (turns_mem h)) (turns l).length k 0 ⟨#[]⟩ (by omega) (by omega) (by have := turns_le l; omega) (by decide)
  rw [show ((0 : Nat) : Int) = 0 from rfl] at this
  rw [this, List.drop_zero, codeTurns_path hp]
  congr 1
  try (apply ByteArray.ext; simp [ByteArray.data_append])
theorem lineL_inj {i x y x' y' : Nat} (hx : x < 10) (hy : y < 10) (hx' : x' < 10) (hy' : y' < 10) (h : lineL i x y = lineL i x' y') : x = x' ∧ y = y' := by
  simp only [lineL, List.cons.injEq, true_and, and_true] at h
  obtain ⟨h1, h2⟩ := h
  have e : ∀ n : Nat, n < 10 → (UInt8.ofNat (48 + n)).toNat = 48 + n := fun n hn => by simp [UInt8.toNat_ofNat']; omega
  have e1 := congrArg UInt8.toNat h1
  have e2 := congrArg UInt8.toNat h2
  rw [e _ hx, e _ hx'] at e1
  rw [e _ hy, e _ hy'] at e2
  omega
theorem wlines_inj : ∀ (a b : List PT) (i : Nat), (∀ p ∈ a, okP p = true) → (∀ p ∈ b, okP p = true) → wlines i a = wlines i b → a = b
  | [], [], _, _, _, _ => rfl
  | [], q :: b, i, _, _, h => by simp [wlines, lineL] at h
  | p :: a, [], i, _, _, h => by simp [wlines, lineL] at h
  | p :: a, q :: b, i, ha, hb, h => by
    simp only [wlines] at h
    obtain ⟨h1, h2⟩ := List.append_inj h rfl
    have op := okP_iff.1 (ha p (by simp))
    have oq := okP_iff.1 (hb q (by simp))
    obtain ⟨e0, e1⟩ := lineL_inj (by omega) (by omega) (by omega) (by omega) h1
    have := wlines_inj a b (i + 1) (fun r hr => ha r (by simp [hr])) (fun r hr => hb r (by simp [hr])) h2
    rw [this, PT.ext (a := p) (b := q) (by omega) (by omega)]
/-- TWO PATHS OF ONE TEXT ARE ONE. -/
theorem cwText_inj {a b : List PT} (ha : IsPath a) (hb : IsPath b) (h : cwText a = cwText b) : a = b := by
  unfold cwText at h
  rw [codeTurns_path ha, codeTurns_path hb] at h
  have h' : (wlines 0 (turns a)).toArray = (wlines 0 (turns b)).toArray := congrArg ByteArray.data h
  have := wlines_inj _ _ 0 (fun p hp => path_ok ha p (turns_mem hp)) (fun p hp => path_ok hb p (turns_mem hp)) (List.toArray_inj h')
  have ea := stay_turns a ha
  rw [this, stay_turns b hb] at ea
  exact (Prod.ext_iff.1 ea).1.symm
end Go.Proofs.YtdacpdhpifocbaaDoor.Q

namespace Go.Proofs.YtdacpdhpifocbaaDoor.Q
open Go.RowKit Go.Proofs.YtdacpdhpifocbaaDoor.P Go.Proofs.YtdacpdhpifocbaaDoor.Ch Go.Proofs.YtdacpdhpifocbaaDoorW.PrintWords Go.Proofs.YtdacpdhpifocbaaDoorW.PrintLast
set_option linter.unusedVariables false

/-! ### a text that is cut at a byte -/
def bx (l : List UInt8) : ByteArray := ⟨l.toArray⟩
theorem bx_size (l : List UInt8) : (bx l).size = l.length := rfl
theorem bx_list (l : List UInt8) : (bx l).data.toList = l := rfl
theorem bx_inj {a b : List UInt8} (h : bx a = bx b) : a = b := congrArg (fun x : ByteArray => x.data.toList) h
theorem bx_of (s : ByteArray) : s = bx s.data.toList := rfl
def splitA (c : UInt8) (s : ByteArray) : List ByteArray := Lib.splitB ⟨#[c]⟩ 0 (Lib.countB s ⟨#[c]⟩) s
theorem indexByte_app (c : UInt8) : ∀ (a r : List UInt8), c ∉ a → Lib.indexByte (a ++ c :: r) c = a.length
  | [], r, _ => by simp [Lib.indexByte]
  | b :: a, r, h => by
    have hb : ¬ (b == c) = true := fun e => h (by simp [beq_iff_eq.1 e])
    rw [List.cons_append, Lib.indexByte, if_neg hb, indexByte_app c a r (fun e => h (by simp [e]))]
    have : ¬ (((a.length : Int)) == -1) = true := by simp
    rw [if_neg this]; simp
theorem indexByte_not (c : UInt8) : ∀ (a : List UInt8), c ∉ a → Lib.indexByte a c = -1
  | [], _ => rfl
  | b :: a, h => by
    have hb : ¬ (b == c) = true := fun e => h (by simp [beq_iff_eq.1 e])
    rw [Lib.indexByte, if_neg hb, indexByte_not c a (fun e => h (by simp [e]))]
    rfl
theorem splitA_not (c : UInt8) (a : List UInt8) (h : c ∉ a) : splitA c (bx a) = [bx a] := by
  unfold splitA
  exact Lib.splitB_miss _ _ _ _ (by rw [← index_one]; exact indexByte_not c a h)
theorem extract_bx (l : List UInt8) (i j : Nat) : (bx l).extract i j = bx ((l.drop i).take (j - i)) := by
  apply ByteArray.ext
  apply Array.ext'
  simp [bx, ByteArray.data_extract, Array.toList_extract]
theorem splitA_hit (c : UInt8) (a r : List UInt8) (h : c ∉ a) : splitA c (bx (a ++ c :: r)) = bx a :: splitA c (bx r) := by
  have hi : Lib.indexB (bx (a ++ c :: r)) ⟨#[c]⟩ = a.length := by rw [← index_one]; exact indexByte_app c a r h
  have e : (bx (a ++ c :: r)).extract (a.length + (⟨#[c]⟩ : ByteArray).size) (bx (a ++ c :: r)).size = bx r := by
    rw [extract_bx, bx_size]
    congr 1
    rw [show (⟨#[c]⟩ : ByteArray).size = 1 from rfl]
    simp
    exact List.take_of_length_le (by omega)
  have hc := Lib.countB_hit (bx (a ++ c :: r)) ⟨#[c]⟩ a.length (Nat.le_refl 1) hi
  rw [e] at hc
  unfold splitA
  rw [hc, Nat.add_comm 1, Lib.splitB_hit _ _ _ _ _ hi, e, extract_bx]
  congr 2
  simp
theorem splitB_small (c : UInt8) : ∀ (k : Nat) (s p : ByteArray), p ∈ Lib.splitB ⟨#[c]⟩ 0 k s → p.size ≤ s.size
  | 0, s, p, h => by rw [Lib.splitB_zero] at h; rw [List.mem_singleton.1 h]; exact Nat.le_refl _
  | k + 1, s, p, h => by
    rcases Lib.indexB_cases s ⟨#[c]⟩ with hix | ⟨i, hix, hroom⟩
    · rw [Lib.splitB_miss _ _ _ _ hix] at h; rw [List.mem_singleton.1 h]; exact Nat.le_refl _
    · rw [Lib.splitB_hit _ _ _ _ _ hix] at h
      rcases List.mem_cons.1 h with rfl | h
      · rw [ByteArray.size_extract]; omega
      · have := splitB_small c k _ p h
        rw [ByteArray.size_extract] at this; omega
theorem splitA_small (c : UInt8) (s p : ByteArray) (h : p ∈ splitA c s) : p.size ≤ s.size := splitB_small c _ s p h
theorem splitA_len (c : UInt8) (s : ByteArray) : (splitA c s).length ≤ s.size + 1 := by
  have h1 : 1 ≤ (⟨#[c]⟩ : ByteArray).size := Nat.le_refl 1
  have := Lib.splitB_all ⟨#[c]⟩ h1 0 _ s rfl
  have := Lib.countB_le ⟨#[c]⟩ h1 s.size s (Nat.le_refl _)
  unfold splitA
  omega
theorem splitF (c : UInt8) (s : ByteArray) (h : s.size < 4294967281) : strings_Split.f s ⟨#[c]⟩ = some (splitA c s) := by
  unfold strings_Split.f
  rw [if_pos ⟨rfl, h⟩]
  rfl

/-! ### what both do with the turns -/
/-- Turns that have been read, of a text. -/
noncomputable def rdWith (o : Option (List PT)) (s : ByteArray) : List PT × Bool :=
  match o with
  | none => ([], false)
  | some t => if (stay t).2 = true ∧ cwText (stay t).1 = s then ((stay t).1, true) else ([], false)
theorem stay_path {t : List PT} (h : (stay t).2 = true) : IsPath (stay t).1 := (stay_true (t := t) (l := (stay t).1) (by rw [← h])).1
/-- THE PATH OF A TEXT, or none. -/
noncomputable def crd (s : ByteArray) : List PT × Bool := open Classical in if h : ∃ p, IsPath p ∧ cwText p = s then (h.choose, true) else ([], false)
theorem crd_path {p : List PT} (h : IsPath p) : crd (cwText p) = (p, true) := by
  have e : ∃ q, IsPath q ∧ cwText q = cwText p := ⟨p, h, rfl⟩
  unfold crd
  rw [dif_pos e]
  rw [cwText_inj e.choose_spec.1 h e.choose_spec.2]
theorem crd_none {s : ByteArray} (h : ¬ ∃ p, IsPath p ∧ cwText p = s) : crd s = ([], false) := by unfold crd; rw [dif_neg h]
theorem rdWith_eq {o : Option (List PT)} {s : ByteArray} (h : ∀ p, IsPath p → cwText p = s → o = some (turns p)) : rdWith o s = crd s := by
  by_cases e : ∃ p, IsPath p ∧ cwText p = s
  · obtain ⟨p, hp, rfl⟩ := e
    rw [crd_path hp, h p hp rfl]
    unfold rdWith
    simp [stay_turns p hp]
  · rw [crd_none e]
    unfold rdWith
    split
    · rfl
    · rename_i t
      rw [if_neg (fun hh => e ⟨_, stay_path hh.1, hh.2⟩)]
theorem list_beq {a b : ByteArray} : (a.toList = b.toList) ↔ a = b := by
  refine ⟨fun h => ?_, fun h => by rw [h]⟩
  rw [Go.ByteArray.toList_eq, Go.ByteArray.toList_eq] at h
  exact ByteArray.ext (Array.ext' h)

/-! ### a line -/
def tr (x : ByteArray) : Option PT := match impl_turnOf.f 1 x with | some (a, b, true) => some ⟨a, b⟩ | _ => none
theorem figure_f (a : Int) : ∃ x b, impl_figureOf.f a = some (x, b) := by
  unfold impl_figureOf.f
  split
  · exact ⟨_, _, rfl⟩
  · split
    · exact ⟨_, _, rfl⟩
    · exact ⟨_, _, rfl⟩
theorem turnOf_f (x : ByteArray) (h : x.size < 4294967281) (k : Nat) (hk : 1 ≤ k) : ∃ a b c, impl_turnOf.f k x = some (a, b, c) ∧ tr x = if c = true then some ⟨a, b⟩ else none := by
  obtain ⟨k, rfl⟩ : ∃ m, k = m + 1 := ⟨k - 1, by omega⟩
  have e : impl_turnOf.f (k + 1) x = impl_turnOf.f 1 x := rfl
  have ok : ∃ a b c, impl_turnOf.f (k + 1) x = some (a, b, c) := by
    unfold impl_turnOf.f
    rw [splitF 32 x h, Option.bind_some]
    generalize splitA 32 x = y
    by_cases h3 : (y.length : Int) = 3
    · rw [if_pos h3, if_pos (by omega)]
      by_cases h2 : ((rdOf ByteArray.empty y 1).size : Int) = 2
      · rw [if_pos h2, if_pos (by omega), impl_turnOf.j0]
        by_cases h4 : (((rdOf ByteArray.empty y 2).size : Int) != 2) = true
        · rw [if_pos h4]; exact ⟨_, _, _, rfl⟩
        · rw [if_neg h4]
          have h5 : ((rdOf ByteArray.empty y 2).size : Int) = 2 := by simpa using h4
          obtain ⟨x1, b1, e1⟩ := figure_f (bt (rdOf ByteArray.empty y 1) 1)
          obtain ⟨x2, b2, e2⟩ := figure_f (bt (rdOf ByteArray.empty y 2) 1)
          rw [if_pos (by omega), if_pos (by omega), e1, Option.bind_some, if_pos (by omega), if_pos (by omega), e2, Option.bind_some]
          cases b1
          · exact ⟨_, _, _, if_neg (fun e => Bool.noConfusion e)⟩
          · exact ⟨_, _, _, if_pos rfl⟩
      · rw [if_neg h2, impl_turnOf.j0, if_pos rfl]; exact ⟨_, _, _, rfl⟩
    · rw [if_neg h3, impl_turnOf.j0, if_pos rfl]; exact ⟨_, _, _, rfl⟩
  obtain ⟨a, b, c, h1⟩ := ok
  refine ⟨a, b, c, h1, ?_⟩
  unfold tr
  rw [← e, h1]
  cases c <;> rfl
theorem rdOf_nat (l : List ByteArray) (i : Nat) : rdOf ByteArray.empty l (i : Int) = l.getD i ByteArray.empty := by simp [rdOf]
theorem drop_d {l : List ByteArray} {i : Nat} (h : i < l.length) : l.drop i = l.getD i ByteArray.empty :: l.drop (i + 1) := by
  rw [List.drop_eq_getElem_cons h]; simp [List.getD_eq_getElem?_getD, h]
theorem mapM_nil {f : ByteArray → Option PT} : ([] : List ByteArray).mapM f = some [] := rfl
theorem mapM_cons {f : ByteArray → Option PT} (x : ByteArray) (l : List ByteArray) : (x :: l).mapM f = match f x with | none => none | some p => match l.mapM f with | none => none | some t => some (p :: t) := by
  rw [List.mapM_cons]
  cases f x with
  | none => rfl
  | some p => cases l.mapM f <;> rfl
def pre (acc : List PT) (o : Option (List PT)) : Option (List PT) := match o with | none => none | some t => some (acc ++ t)
theorem codeRead_l0 (s : ByteArray) (ls : List ByteArray) (hn : ls.length ≤ 5000) (hs : ∀ p ∈ ls, p.size < 4294967281) : ∀ (d k i : Nat) (acc : List PT), ls.length - i = d → i ≤ ls.length → d + 30000 ≤ k → acc.length ≤ i →
    impl_CodeRead.l0 k s acc ls (ls.length : Int) (i : Int) = some (rdWith (pre acc ((ls.drop i).mapM tr)) s) := by
  intro d
  induction d with
  | zero =>
    intro k i acc hd hi hk ha
    obtain ⟨k, rfl⟩ : ∃ m, k = m + 1 := ⟨k - 1, by omega⟩
    simp only [impl_CodeRead.l0]
    rw [if_neg (by omega), List.drop_eq_nil_of_le (by omega), mapM_nil, implCodeStay acc (by omega) k (by omega)]
    simp only [Option.bind_some, pre, List.append_nil, rdWith]
    by_cases h2 : (stay acc).2 = true
    · have hp := stay_path h2
      rw [if_pos h2, implCodeWrite _ (by have := hp.2.1; omega) k (by have := hp.2.1; omega)]
      simp only [Option.bind_some]
      by_cases h3 : cwText (stay acc).1 = s
      · rw [if_pos (list_beq.2 h3), if_pos ⟨h2, h3⟩]
      · rw [if_neg (fun e => h3 (list_beq.1 e)), if_neg (fun e => h3 e.2)]
    · rw [if_neg h2, if_neg (fun e => h2 e.1)]
  | succ d ih =>
    intro k i acc hd hi hk ha
    obtain ⟨k, rfl⟩ : ∃ m, k = m + 1 := ⟨k - 1, by omega⟩
    have hx : (ls.getD i ByteArray.empty).size < 4294967281 := by
      rw [show ls.getD i ByteArray.empty = ls[i]'(by omega) by simp [List.getD_eq_getElem?_getD, show i < ls.length by omega]]
      exact hs _ (List.getElem_mem _)
    obtain ⟨a, b, c, e1, e2⟩ := turnOf_f _ hx k (by omega)
    simp only [impl_CodeRead.l0]
    rw [if_pos (by omega), if_pos (by omega), if_pos (by omega), rdOf_nat, e1]
    simp only [Option.bind_some]
    rw [drop_d (by omega), mapM_cons, e2]
    cases c with
    | false => rfl
    | true =>
      rw [if_pos rfl, if_pos rfl, if_pos (by omega), w_succ (by omega), ih k (i + 1) _ (by omega) (by omega) (by omega) (by rw [List.length_append]; simp; omega)]
      cases h : (ls.drop (i + 1)).mapM tr with
      | none => rfl
      | some t => simp [pre]
/-! ### the text of a path, line by line -/
def bodyL (i : Nat) (p : PT) : List UInt8 := [71, if i = 0 then 48 else 49, 32, 88, UInt8.ofNat (48 + p.f0.toNat), 32, 89, UInt8.ofNat (48 + p.f1.toNat)]
def bodies : Nat → List PT → List ByteArray
  | _, [] => []
  | i, p :: l => bx (bodyL i p) :: bodies (i + 1) l
theorem lineL_body (i : Nat) (p : PT) : lineL i p.f0.toNat p.f1.toNat = bodyL i p ++ [10] := rfl
theorem dig {n : Int} (h0 : 0 ≤ n) (h9 : n ≤ 9) : ((UInt8.ofNat (48 + n.toNat)).toNat : Int) = 48 + n := by simp [UInt8.toNat_ofNat']; omega
theorem dig_ne {n : Int} (h0 : 0 ≤ n) (h9 : n ≤ 9) (c : UInt8) (hc : c.toNat < 48) : UInt8.ofNat (48 + n.toNat) ≠ c := fun e => by
  have := congrArg UInt8.toNat e
  have := dig h0 h9
  omega
theorem body_no (i : Nat) {p : PT} (h : okP p = true) : (10 : UInt8) ∉ bodyL i p := by
  have ok := okP_iff.1 h
  have h0 := dig_ne ok.1 ok.2.1 10 (by decide)
  have h1 := dig_ne ok.2.2.1 ok.2.2.2 10 (by decide)
  unfold bodyL
  intro hm
  simp only [List.mem_cons, List.not_mem_nil, or_false] at hm
  rcases hm with h | h | h | h | h | h | h | h
  · exact absurd h (by decide)
  · split at h <;> exact absurd h (by decide)
  · exact absurd h (by decide)
  · exact absurd h (by decide)
  · exact h0 h.symm
  · exact absurd h (by decide)
  · exact absurd h (by decide)
  · exact h1 h.symm
theorem fig (n : Int) (h0 : 0 ≤ n) (h9 : n ≤ 9) : impl_figureOf.f (48 + n) = some (n, true) := by
  unfold impl_figureOf.f
  rw [if_neg (by omega), if_neg (by omega)]
  congr 2; omega
theorem no2 {c a x : UInt8} (h0 : a ≠ c) (h : x ≠ c) : c ∉ [a, x] := by simp [h0.symm, h.symm]
theorem tr_body (i : Nat) {p : PT} (h : okP p = true) : tr (bx (bodyL i p)) = some p := by
  have ok := okP_iff.1 h
  have h0 := dig_ne ok.1 ok.2.1 32 (by decide)
  have h1 := dig_ne ok.2.2.1 ok.2.2.2 32 (by decide)
  have hs : splitA 32 (bx (bodyL i p)) = [bx [71, if i = 0 then 48 else 49], bx [88, UInt8.ofNat (48 + p.f0.toNat)], bx [89, UInt8.ofNat (48 + p.f1.toNat)]] := by
    have e : bodyL i p = [71, if i = 0 then 48 else 49] ++ 32 :: ([88, UInt8.ofNat (48 + p.f0.toNat)] ++ 32 :: [89, UInt8.ofNat (48 + p.f1.toNat)]) := rfl
    rw [e, splitA_hit _ _ _ (by split <;> decide), splitA_hit _ _ _ (no2 (by decide) h0), splitA_not _ _ (no2 (by decide) h1)]
  have b1 : bt (bx [88, UInt8.ofNat (48 + p.f0.toNat)]) 1 = 48 + p.f0 := by rw [← dig ok.1 ok.2.1]; rfl
  have b2 : bt (bx [89, UInt8.ofNat (48 + p.f1.toNat)]) 1 = 48 + p.f1 := by rw [← dig ok.2.2.1 ok.2.2.2]; rfl
  unfold tr impl_turnOf.f
  rw [splitF 32 _ (by rw [bx_size]; simp [bodyL])]
  simp only [Option.bind_some, hs]
  generalize UInt8.ofNat (48 + p.f0.toNat) = u at b1 ⊢
  generalize UInt8.ofNat (48 + p.f1.toNat) = v at b2 ⊢
  simp only [impl_turnOf.j0, List.length_cons, List.length_nil, rdOf, List.getD_eq_getElem?_getD]
  simp [bx_size, b1, b2, fig _ ok.1 ok.2.1, fig _ ok.2.2.1 ok.2.2.2]
theorem tr_bodies : ∀ (t : List PT) (i : Nat), (∀ p ∈ t, okP p = true) → (bodies i t).mapM tr = some t
  | [], _, _ => rfl
  | p :: t, i, h => by
    rw [bodies, mapM_cons, tr_body i (h p (by simp)), tr_bodies t (i + 1) (fun q hq => h q (by simp [hq]))]
/-- the text without its last byte, cut at line ends: the lines -/
theorem splitA_lines : ∀ (t : List PT) (p : PT) (i : Nat), (∀ q ∈ p :: t, okP q = true) → ∃ r, wlines i (p :: t) = r ++ [10] ∧ splitA 10 (bx r) = bodies i (p :: t)
  | [], p, i, h => ⟨bodyL i p, by simp [wlines, lineL_body], by rw [splitA_not _ _ (body_no i (h p (by simp)))]; rfl⟩
  | q :: t, p, i, h => by
    obtain ⟨r, e1, e2⟩ := splitA_lines t q (i + 1) (fun x hx => h x (by simp at hx ⊢; exact .inr hx))
    refine ⟨bodyL i p ++ 10 :: r, ?_, ?_⟩
    · rw [wlines, e1, lineL_body]; simp
    · rw [splitA_hit _ _ _ (body_no i (h p (by simp))), e2]; rfl
theorem wlines_len : ∀ (t : List PT) (i : Nat), (wlines i t).length = 9 * t.length
  | [], _ => rfl
  | p :: t, i => by rw [wlines, List.length_append, wlines_len t (i + 1)]; simp [lineL]; omega
theorem cwText_path' {p : List PT} (h : IsPath p) : cwText p = bx (wlines 0 (turns p)) := by unfold cwText; rw [codeTurns_path h]; rfl
theorem cwText_size {p : List PT} (h : IsPath p) : (cwText p).size = 9 * (turns p).length := by rw [cwText_path' h, bx_size, wlines_len]
theorem turns_ne {p : List PT} (h : IsPath p) : ∃ t, turns p = g p 0 :: t := by
  unfold turns
  rw [turnsFrom_step p 0 h.1, if_pos (by simp [turnAt])]
  exact ⟨_, rfl⟩
/-! ### the program's CodeRead -/
theorem hasSuffix_f (s : ByteArray) (hs : s.size ≤ 1000000) : ∃ b, strings_HasSuffix.f s ⟨#[10]⟩ = some b ∧ (b = true ↔ ∃ r, s = bx (r ++ [10])) := by
  unfold strings_HasSuffix.f stringslite_HasSuffix.f
  rw [show (⟨#[10]⟩ : ByteArray).size = 1 from rfl]
  by_cases h0 : s.size = 0
  · rw [if_neg (by omega)]
    simp only [Option.bind_some]
    refine ⟨_, rfl, fun h => absurd h (by decide), ?_⟩
    rintro ⟨r, rfl⟩
    rw [bx_size] at h0; simp at h0
  · rw [if_pos (by omega), w_id (by omega) (by omega), if_pos (by omega), if_pos (by omega)]
    simp only [Option.bind_some]
    refine ⟨_, rfl, ?_⟩
    rw [show (((s.size : Int) - ((1 : Nat) : Int)).toNat) = s.size - 1 by omega]
    rw [beq_iff_eq, list_beq]
    have hl : s.data.toList.length = s.size := by rw [Array.length_toList]; rfl
    constructor
    · intro e
      have e' : (s.data.toList.drop (s.size - 1)).take (s.size - (s.size - 1)) = [10] := by
        have := congrArg (fun x : ByteArray => x.data.toList) e
        simp only at this
        rw [bx_of s, extract_bx, bx_list, bx_size, hl] at this
        exact this
      refine ⟨s.data.toList.take (s.size - 1), ?_⟩
      rw [List.take_of_length_le (by rw [List.length_drop]; omega)] at e'
      rw [← e', List.take_append_drop]
      exact bx_of s
    · rintro ⟨r, rfl⟩
      rw [extract_bx, bx_size]
      simp
      rfl
theorem trimSuffix_f (r : List UInt8) (hs : r.length ≤ 999999) : strings_TrimSuffix.f (bx (r ++ [10])) ⟨#[10]⟩ = some (bx r) := by
  obtain ⟨b0, hh, hb⟩ := hasSuffix_f (bx (r ++ [10])) (by rw [bx_size, List.length_append]; simp; omega)
  rw [hb.2 ⟨r, rfl⟩] at hh
  unfold strings_HasSuffix.f at hh
  unfold strings_TrimSuffix.f stringslite_TrimSuffix.f
  cases h1 : stringslite_HasSuffix.f (bx (r ++ [10])) ⟨#[10]⟩ with
  | none => rw [h1] at hh; cases hh
  | some b =>
    rw [h1] at hh
    simp only [Option.bind_some] at hh ⊢
    rw [Option.some.inj hh, if_pos rfl, show (⟨#[10]⟩ : ByteArray).size = 1 from rfl, bx_size, List.length_append, List.length_singleton]
    rw [w_id (by omega) (by omega), if_pos (by omega), if_pos (by omega)]
    simp only [Option.bind_some]
    congr 1
    rw [extract_bx, show ((((r.length + 1 : Nat) : Int) - ((1 : Nat) : Int)).toNat) = r.length by omega]
    simp
theorem implCodeRead (s : ByteArray) (k : Nat) (hk : 40000 ≤ k) : impl_CodeRead.f k s = some (crd s) := by
  unfold impl_CodeRead.f
  by_cases h0 : (s.size : Int) > 4000
  · rw [if_pos h0]
    obtain ⟨k, rfl⟩ : ∃ m, k = m + 1 := ⟨k - 1, by omega⟩
    simp only [impl_CodeRead.j0]
    rw [if_pos trivial, crd_none]
    rintro ⟨p, hp, rfl⟩
    rw [cwText_size hp] at h0
    have := turns_le p
    have := hp.2.1
    omega
  · obtain ⟨b, hb, hb'⟩ := hasSuffix_f s (by omega)
    rw [if_neg h0, hb]
    simp only [Option.bind_some]
    obtain ⟨k, rfl⟩ : ∃ m, k = m + 1 := ⟨k - 1, by omega⟩
    simp only [impl_CodeRead.j0]
    by_cases h1 : ∃ r, s = bx (r ++ [10])
    · obtain ⟨r, rfl⟩ := h1
      rw [bx_size, List.length_append, List.length_singleton] at h0
      rw [hb'.2 ⟨r, rfl⟩, if_neg (by simp), trimSuffix_f r (by omega)]
      simp only [Option.bind_some]
      rw [splitF 10 (bx r) (by rw [bx_size]; omega)]
      simp only [Option.bind_some]
      have hlen := splitA_len 10 (bx r)
      rw [bx_size] at hlen
      have := codeRead_l0 (bx (r ++ [10])) (splitA 10 (bx r)) (by omega) (fun p hp => by have := splitA_small 10 _ p hp; rw [bx_size] at this; omega) (splitA 10 (bx r)).length k 0 [] (by omega) (by omega) (by omega) (by simp)
      rw [show ((0 : Nat) : Int) = 0 from rfl, List.drop_zero] at this
      rw [this]
      congr 1
      have e0 : ∀ o, pre [] o = o := fun o => by cases o <;> rfl
      rw [e0]
      refine rdWith_eq fun p hp he => ?_
      obtain ⟨t, ht⟩ := turns_ne hp
      have hok : ∀ q ∈ turns p, okP q = true := fun q hq => path_ok hp q (turns_mem hq)
      rw [ht] at hok
      obtain ⟨r', e1, e2⟩ := splitA_lines t (g p 0) 0 hok
      rw [cwText_path' hp, ht, e1] at he
      have := bx_inj he
      have : r' = r := List.append_inj_left' this rfl
      subst this
      rw [e2, tr_bodies _ _ hok, ht]
    · rw [show b = false from Bool.eq_false_iff.2 fun e => h1 (hb'.1 e), if_pos (by rfl), crd_none]
      rintro ⟨p, hp, rfl⟩
      obtain ⟨t, ht⟩ := turns_ne hp
      have hok : ∀ q ∈ turns p, okP q = true := fun q hq => path_ok hp q (turns_mem hq)
      rw [ht] at hok
      obtain ⟨r', e1, e2⟩ := splitA_lines t (g p 0) 0 hok
      exact h1 ⟨r', by rw [cwText_path' hp, ht, e1]⟩
/-! ### the reference's CodeRead -/
def sp (x : ByteArray) : Option PT := if x.size = 8 ∧ (48 ≤ bt x 4 ∧ bt x 4 ≤ 57) ∧ (48 ≤ bt x 7 ∧ bt x 7 ≤ 57) then some ⟨(bt x 4 - 48) % 256, (bt x 7 - 48) % 256⟩ else none
theorem drop_last_step {l : List ByteArray} {i : Nat} (h : i + 1 < l.length) : (l.drop i).dropLast = l.getD i ByteArray.empty :: (l.drop (i + 1)).dropLast := by
  rw [drop_d (by omega), drop_d h]
  simp [List.dropLast]
theorem specRead_l0 (s : ByteArray) (ls : List ByteArray) (hn : ls.length ≤ 5000) (hn1 : 1 ≤ ls.length) : ∀ (d k i : Nat) (acc : List PT), ls.length - 1 - i = d → i + 1 ≤ ls.length → d + 30000 ≤ k → acc.length ≤ i →
    spec_CodeRead.l0 k s ls acc (i : Int) = some (rdWith (pre acc ((ls.drop i).dropLast.mapM sp)) s) := by
  intro d
  induction d with
  | zero =>
    intro k i acc hd hi hk ha
    obtain ⟨k, rfl⟩ : ∃ m, k = m + 1 := ⟨k - 1, by omega⟩
    have e0 : (ls.drop i).dropLast = [] := by
      apply List.eq_nil_of_length_eq_zero
      rw [List.length_dropLast, List.length_drop]; omega
    simp only [spec_CodeRead.l0]
    rw [w_succ (by omega), if_neg (by omega), e0, mapM_nil, specStay acc (by omega) k (by omega)]
    simp only [Option.bind_some, pre, List.append_nil, rdWith]
    by_cases h2 : (stay acc).2 = true
    · have hp := stay_path h2
      rw [if_pos h2, specl22Write _ hp k (by have := hp.2.1; omega)]
      simp only [Option.bind_some]
      by_cases h3 : cwText (stay acc).1 = s
      · rw [if_pos (list_beq.2 h3), if_pos ⟨h2, h3⟩]
      · rw [if_neg (fun e => h3 (list_beq.1 e)), if_neg (fun e => h3 e.2)]
    · rw [if_neg h2, if_neg (fun e => h2 e.1)]
  | succ d ih =>
    intro k i acc hd hi hk ha
    obtain ⟨k, rfl⟩ : ∃ m, k = m + 1 := ⟨k - 1, by omega⟩
    have r4 := bt_range (ls.getD i ByteArray.empty) 4
    have r7 := bt_range (ls.getD i ByteArray.empty) 7
    simp only [spec_CodeRead.l0]
    rw [w_succ (by omega), if_pos (by omega), if_pos (by omega), if_pos (by omega), rdOf_nat, drop_last_step (by omega), mapM_cons]
    unfold sp
    by_cases h8 : (ls.getD i ByteArray.empty).size = 8
    · rw [if_pos (by omega), if_pos (by omega), w_id (by omega) (by omega), specIn]
      simp only [Option.bind_some]
      by_cases h4 : 48 ≤ bt (ls.getD i ByteArray.empty) 4 ∧ bt (ls.getD i ByteArray.empty) 4 ≤ 57
      · rw [if_pos (by simp only [decide_eq_true_eq]; omega), if_pos (by omega), w_id (by omega) (by omega), specIn]
        simp only [Option.bind_some]
        by_cases h7 : 48 ≤ bt (ls.getD i ByteArray.empty) 7 ∧ bt (ls.getD i ByteArray.empty) 7 ≤ 57
        · rw [if_pos (by simp only [decide_eq_true_eq]; omega), if_pos (by omega), if_pos ⟨h8, h4, h7⟩, ih k (i + 1) _ (by omega) (by omega) (by omega) (by rw [List.length_append]; simp; omega)]
          unfold sp
          simp only
          cases h : ((ls.drop (i + 1)).dropLast).mapM (fun x => if x.size = 8 ∧ (48 ≤ bt x 4 ∧ bt x 4 ≤ 57) ∧ (48 ≤ bt x 7 ∧ bt x 7 ≤ 57) then some (⟨(bt x 4 - 48) % 256, (bt x 7 - 48) % 256⟩ : PT) else none) with
          | none => rfl
          | some t => simp [pre]
        · rw [if_neg (by simp only [decide_eq_true_eq]; omega), if_neg (fun e => h7 e.2.2)]
          rfl
      · rw [if_neg (by simp only [decide_eq_true_eq]; omega), if_neg (fun e => h4 e.2.1)]
        rfl
    · rw [if_neg (by omega), if_neg (fun e => h8 e.1)]
      rfl
theorem cut_fold (c : UInt8) : ∀ (a : List UInt8) (P : List ByteArray) (x : List UInt8), c ∉ a → a.foldl (cutStep (c.toNat : Int)) (P ++ [bx x]) = P ++ [bx (x ++ a)]
  | [], P, x, _ => by simp
  | b :: a, P, x, h => by
    have hb : ¬ ((b.toNat : Int) = (c.toNat : Int)) := fun e => h (by
      have : b.toNat = c.toNat := by omega
      simp [UInt8.toNat_inj.1 this])
    rw [List.foldl_cons]
    have e : cutStep (c.toNat : Int) (P ++ [bx x]) b = P ++ [bx (x ++ [b])] := by
      unfold cutStep
      rw [if_neg hb]
      simp [List.getD_eq_getElem?_getD]
      apply ByteArray.ext; simp [bx, ByteArray.data_append]
    rw [e, cut_fold c a P (x ++ [b]) (fun h' => h (by simp [h']))]
    simp
theorem cut_lines : ∀ (t : List PT) (i : Nat) (P : List ByteArray), (∀ q ∈ t, okP q = true) → (wlines i t).foldl (cutStep 10) (P ++ [bx []]) = P ++ bodies i t ++ [bx []]
  | [], i, P, _ => by simp [wlines, bodies]
  | p :: t, i, P, h => by
    rw [wlines, lineL_body, List.foldl_append, List.foldl_append]
    have := cut_fold 10 (bodyL i p) P [] (body_no i (h p (by simp)))
    rw [show (((10 : UInt8).toNat : Nat) : Int) = 10 from rfl] at this
    rw [this]
    simp only [List.foldl_cons, List.foldl_nil, List.nil_append]
    have e : cutStep 10 (P ++ [bx (bodyL i p)]) 10 = (P ++ [bx (bodyL i p)]) ++ [bx []] := by
      unfold cutStep
      rw [if_pos (by decide)]
      rfl
    rw [e, cut_lines t (i + 1) _ (fun q hq => h q (by simp [hq]))]
    simp [bodies]
theorem sp_body (i : Nat) {p : PT} (h : okP p = true) : sp (bx (bodyL i p)) = some p := by
  have ok := okP_iff.1 h
  have b1 : bt (bx (bodyL i p)) 4 = 48 + p.f0 := by rw [← dig ok.1 ok.2.1]; rfl
  have b2 : bt (bx (bodyL i p)) 7 = 48 + p.f1 := by rw [← dig ok.2.2.1 ok.2.2.2]; rfl
  unfold sp
  rw [b1, b2, if_pos ⟨rfl, by omega, by omega⟩]
  congr 1
  exact PT.ext (by show (48 + p.f0 - 48) % 256 = p.f0; omega) (by show (48 + p.f1 - 48) % 256 = p.f1; omega)
theorem sp_bodies : ∀ (t : List PT) (i : Nat), (∀ p ∈ t, okP p = true) → (bodies i t).mapM sp = some t
  | [], _, _ => rfl
  | p :: t, i, h => by
    rw [bodies, mapM_cons, sp_body i (h p (by simp)), sp_bodies t (i + 1) (fun q hq => h q (by simp [hq]))]
theorem specCodeRead (s : ByteArray) (k : Nat) (hk : 40000 ≤ k) : spec_CodeRead.f k s = some (crd s) := by
  unfold spec_CodeRead.f
  by_cases h0 : (s.size : Int) > 4000
  · rw [if_pos h0, crd_none]
    rintro ⟨p, hp, rfl⟩
    rw [cwText_size hp] at h0
    have := turns_le p
    have := hp.2.1
    omega
  · rw [if_neg h0]
    unfold spec_l3Cut.f
    rw [if_pos (by omega)]
    simp only [Option.bind_some]
    have hl : s.data.toList.length = s.size := by rw [Array.length_toList]; rfl
    have hc := cutAt_len 10 s.data.toList
    have := specRead_l0 s (cutAt 10 s.data.toList) (by omega) hc.1 _ k 0 [] rfl (by omega) (by omega) (by simp)
    rw [show ((0 : Nat) : Int) = 0 from rfl, List.drop_zero] at this
    rw [this]
    congr 1
    have e0 : ∀ o, pre [] o = o := fun o => by cases o <;> rfl
    rw [e0]
    refine rdWith_eq fun p hp he => ?_
    subst he
    have hok : ∀ q ∈ turns p, okP q = true := fun q hq => path_ok hp q (turns_mem hq)
    rw [cwText_path' hp, bx_list]
    have := cut_lines (turns p) 0 [] hok
    rw [List.nil_append, List.nil_append] at this
    unfold cutAt
    rw [show (⟨#[]⟩ : ByteArray) = bx [] from rfl, this, List.dropLast_concat, sp_bodies _ _ hok]
end Go.Proofs.YtdacpdhpifocbaaDoor.Q

namespace Go.Proofs.YtdacpdhpifocbaaDoor.Q
open Go.RowKit Go.Proofs.YtdacpdhpifocbaaDoor.P Go.Proofs.YtdacpdhpifocbaaDoor.Ch Go.Proofs.YtdacpdhpifocbaaDoorW.PrintWords Go.Proofs.YtdacpdhpifocbaaDoorW.PrintLast
set_option linter.unusedVariables false
/-! ### drawn -/
theorem crd_cases (s : ByteArray) : crd s = ([], false) ∨ ∃ p, IsPath p ∧ cwText p = s ∧ crd s = (p, true) := by
  by_cases h : ∃ p, IsPath p ∧ cwText p = s
  · obtain ⟨p, hp, rfl⟩ := h
    exact .inr ⟨p, hp, rfl, crd_path hp⟩
  · exact .inl (crd_none h)
/-! ### a path without its last leg -/
end Go.Proofs.YtdacpdhpifocbaaDoor.Q

namespace Go.Proofs.YtdacpdhpifocbaaDoor.Q
open Go.RowKit Go.Proofs.YtdacpdhpifocbaaDoor.P Go.Proofs.YtdacpdhpifocbaaDoorW.PrintWords Go.Proofs.YtdacpdhpifocbaaDoorW.PrintLast
set_option linter.unusedVariables false

theorem ext_g {a b : List PT} (h : a.length = b.length) (h' : ∀ j, j < a.length → g a j = g b j) : a = b := by
  apply List.ext_getElem h
  intro i h1 h2
  have := h' i h1
  rwa [g_eq h1, g_eq h2] at this
theorem take_set {α : Type} (l : List α) (i : Nat) (v : α) (h : i < l.length) : (l.set i v).take (i + 1) = l.take i ++ [v] := by
  rw [List.take_succ_eq_append_getElem (by simpa using h)]
  congr 1
  · rw [List.take_set, List.set_eq_of_length_le (by simp; omega)]
  · simp
theorem eqPt_f (a b : PT) : laws_eqPt.f a.f0 a.f1 b.f0 b.f1 = some (decide (a = b)) := by
  unfold laws_eqPt.f
  by_cases h0 : a.f0 = b.f0
  · by_cases h1 : a.f1 = b.f1
    · rw [if_pos h0, if_pos h1, decide_eq_true (PT.ext h0 h1)]
    · rw [if_pos h0, if_neg h1, decide_eq_false (fun h => h1 (by rw [h]))]
  · rw [if_neg h0, decide_eq_false (fun h => h0 (by rw [h]))]
theorem eqPtS_l0 (a b : List PT) (hl : a.length < 1000000000000000000) (hab : a.length = b.length) : ∀ (d k i : Nat), a.length - i = d → i ≤ a.length → d < k →
    ∃ r, laws_eqPtS.l0 k a b (i : Int) = some r ∧ (r = true ↔ ∀ j, i ≤ j → j < a.length → g a j = g b j) := by
  intro d
  induction d with
  | zero =>
    intro k i hd hi hk
    obtain ⟨k, rfl⟩ : ∃ m, k = m + 1 := ⟨k - 1, by omega⟩
    refine ⟨true, ?_, by simp only [true_iff]; intro j h1 h2; omega⟩
    simp only [laws_eqPtS.l0]
    rw [if_neg (by omega)]
  | succ d ih =>
    intro k i hd hi hk
    obtain ⟨k, rfl⟩ : ∃ m, k = m + 1 := ⟨k - 1, by omega⟩
    simp only [laws_eqPtS.l0]
    rw [if_pos (by omega), if_pos (by omega), if_pos (by omega), rd_nat, rd_nat, eqPt_f]
    simp only [Option.bind_some, decide_eq_true_eq]
    by_cases h : g a i = g b i
    · rw [if_pos h, w_succ (by omega)]
      obtain ⟨r, hr, hr'⟩ := ih k (i + 1) (by omega) (by omega) (by omega)
      refine ⟨r, hr, hr'.trans ⟨fun q j h1 h2 => ?_, fun q j h1 h2 => q j (by omega) h2⟩⟩
      rcases Nat.eq_or_lt_of_le h1 with e | e
      · subst e; exact h
      · exact q j e h2
    · rw [if_neg h]
      exact ⟨false, rfl, by simp only [Bool.false_eq_true, false_iff]; exact fun q => h (q i (Nat.le_refl _) (by omega))⟩
theorem eqPtS_f (a b : List PT) (hl : a.length < 1000000000000000000) (k : Nat) (hk : a.length < k) : laws_eqPtS.f k a b = some (decide (a = b)) := by
  unfold laws_eqPtS.f
  by_cases h : a.length = b.length
  · rw [if_pos (by omega)]
    obtain ⟨r, hr, hr'⟩ := eqPtS_l0 a b hl h a.length k 0 (by omega) (by omega) (by omega)
    rw [show ((0 : Nat) : Int) = 0 from rfl] at hr
    rw [hr]
    congr 1
    rw [Bool.eq_iff_iff, hr', decide_eq_true_eq]
    exact ⟨fun q => ext_g h (fun j hj => q j (by omega) hj), fun q j _ _ => by rw [q]⟩
  · rw [if_neg (by omega), decide_eq_false (fun e => h (by rw [e]))]
theorem eqPtS_self (a : List PT) (hl : a.length < 1000000000000000000) (k : Nat) (hk : a.length < k) : laws_eqPtS.f k a a = some true := by rw [eqPtS_f a a hl k hk]; simp
/-- what marking lays -/
def marks (c : Int) (n : Nat) : List PT := (List.range n).map fun (j : Nat) => ⟨c + 2 * (j : Int), c + 2 * (j : Int) + 1⟩
theorem marks_succ (c : Int) (n : Nat) : marks c (n + 1) = ⟨c, c + 1⟩ :: marks (c + 2) n := by
  unfold marks
  rw [List.range_succ_eq_map, List.map_cons, List.map_map]
  congr 1
  · simp
  · apply List.map_congr_left
    intro j _
    simp only [Function.comp, PT]
    congr 1
    · omega
    · omega
theorem marks_length (c : Int) (n : Nat) : (marks c n).length = n := by simp [marks]
theorem markPtS_l0 : ∀ (d k i : Nat) (x : List PT) (c : Int), x.length - i = d → i ≤ x.length → d < k → x.length < 1000000000000000000 → 0 ≤ c → c < 2000000000000000000 - 2 * (x.length - i : Nat) →
    laws_markPtS.l0 k x c (i : Int) = some (c + 2 * (d : Int), x.take i ++ marks c d) := by
  intro d
  induction d with
  | zero =>
    intro k i x c hd hi hk hl h0 h1
    obtain ⟨k, rfl⟩ : ∃ m, k = m + 1 := ⟨k - 1, by omega⟩
    simp only [laws_markPtS.l0]
    rw [if_neg (by omega), List.take_of_length_le (by omega)]
    simp [marks]
  | succ d ih =>
    intro k i x c hd hi hk hl h0 h1
    obtain ⟨k, rfl⟩ : ∃ m, k = m + 1 := ⟨k - 1, by omega⟩
    simp only [laws_markPtS.l0, Option.bind_some]
    rw [if_pos (by omega), if_pos (by omega), w_succ (by omega), w_id (x := c + 1) (by omega) (by omega), w_id (x := c + 1 + 1) (by omega) (by omega)]
    simp only [Int.toNat_natCast, List.set_set]
    rw [ih k (i + 1) _ (c + 1 + 1) (by simp; omega) (by simp; omega) (by omega) (by simpa using hl) (by omega) (by simp only [List.length_set]; omega)]
    congr 1
    refine Prod.ext (by simp only; omega) ?_
    simp only
    rw [take_set _ _ _ (by omega), List.append_assoc, marks_succ, show c + 1 + 1 = c + 2 by omega]
    simp [rd_T35, show i < x.length by omega]
theorem markPtS_f (x : List PT) (hl : x.length < 100000000000000000) (k : Nat) (hk : x.length < k) : laws_markPtS.f k x 1 = some (1 + 2 * (x.length : Int), marks 1 x.length) := by
  have := markPtS_l0 x.length k 0 x 1 (by omega) (by omega) hk (by omega) (by omega) (by omega)
  unfold laws_markPtS.f
  rw [show (0 : Int) = ((0 : Nat) : Int) from rfl, this]
  simp
theorem heldPtS_l0 : ∀ (d k i : Nat) (x : List PT) (c : Int), x.length - i = d → i ≤ x.length → d < k → x.length < 1000000000000000000 → 0 ≤ c → c < 2000000000000000000 - 2 * (x.length - i : Nat) → x.drop i = marks c d →
    laws_heldPtS.l0 k x c (i : Int) = some (c + 2 * (d : Int)) := by
  intro d
  induction d with
  | zero =>
    intro k i x c hd hi hk hl h0 h1 hx
    obtain ⟨k, rfl⟩ : ∃ m, k = m + 1 := ⟨k - 1, by omega⟩
    simp only [laws_heldPtS.l0]
    rw [if_neg (by omega)]
    simp
  | succ d ih =>
    intro k i x c hd hi hk hl h0 h1 hx
    obtain ⟨k, rfl⟩ : ∃ m, k = m + 1 := ⟨k - 1, by omega⟩
    rw [marks_succ, List.drop_eq_getElem_cons (show i < x.length by omega)] at hx
    obtain ⟨hx0, hx1⟩ := List.cons.inj hx
    simp only [laws_heldPtS.l0]
    rw [if_pos (by omega), if_pos (by omega), rd_nat, g_eq (by omega), hx0, if_pos rfl, w_id (x := c + 1) (by omega) (by omega), if_pos rfl, w_succ (by omega), w_id (x := c + 1 + 1) (by omega) (by omega), show c + 1 + 1 = c + 2 by omega,
      ih k (i + 1) x (c + 2) (by omega) (by omega) (by omega) hl (by omega) (by omega) hx1]
    congr 1
    omega
theorem heldPtS_f (n : Nat) (hl : n < 100000000000000000) (k : Nat) (hk : n < k) : laws_heldPtS.f k (marks 1 n) 1 = some (1 + 2 * (n : Int)) := by
  have := heldPtS_l0 n k 0 (marks 1 n) 1 (by rw [marks_length]; omega) (by omega) hk (by rw [marks_length]; omega) (by omega) (by rw [marks_length]; omega) (by simp)
  unfold laws_heldPtS.f
  rw [show (0 : Int) = ((0 : Nat) : Int) from rfl, this]
end Go.Proofs.YtdacpdhpifocbaaDoor.Q

namespace Go.Proofs.YtdacpdhpifocbaaDoor.Pure
open Go.RowKit Go.Proofs.YtdacpdhpifocbaaDoor.P Go.Proofs.YtdacpdhpifocbaaDoor.Q Go.Proofs.YtdacpdhpifocbaaDoor.Ch Go.Proofs.YtdacpdhpifocbaaDoorW.PrintWords Go.Proofs.YtdacpdhpifocbaaDoorW.PrintLast
set_option linter.unusedVariables false
theorem FnExactCodeRead : laws_FnExactCodeRead.Pure := by
  intro s _
  refine ⟨50000, ?_⟩
  unfold laws_FnExactCodeRead.f
  by_cases b0 : (s.size : Int) > 1048576
  · rw [if_pos b0]
  · obtain ⟨p, b, e, hp⟩ : ∃ p b, crd s = (p, b) ∧ p.length ≤ 400 := by
      rcases crd_cases s with e | ⟨p, hp, hps, e⟩
      · exact ⟨_, _, e, by simp⟩
      · exact ⟨_, _, e, hp.2.1⟩
    rw [if_neg b0, specCodeRead _ _ (by omega), Option.bind_some, implCodeRead _ _ (by omega), Option.bind_some, e]
    simp only
    rw [eqPtS_self _ (by omega) _ (by omega), Option.bind_some, if_pos rfl, show (50000 : Nat) = 49999 + 1 from rfl, laws_FnExactCodeRead.j0, if_neg (by simp), markPtS_f _ (by omega) _ (by omega), Option.bind_some]
    simp only
    rw [heldPtS_f _ (by omega) _ (by omega), Option.bind_some, if_neg (by omega), if_pos rfl, implCodeRead _ _ (by omega), Option.bind_some, e]
    simp only
    rw [eqPtS_self _ (by omega) _ (by omega), Option.bind_some, if_pos rfl, show (49999 : Nat) = 49998 + 1 from rfl, laws_FnExactCodeRead.j1, if_neg (by simp), heldPtS_f _ (by omega) _ (by omega), Option.bind_some, if_neg (by omega), if_pos rfl]
end Go.Proofs.YtdacpdhpifocbaaDoor.Pure

namespace Go.Proofs.YtdacpdhpifocbaaDoor.fnExactCodeRead
open Go.ChangeShapes Go.WideShapes Go.ChangeAt Go.RowKit
open Go.ChangeMaps (open_string shut_string)
set_option linter.unusedVariables false
theorem own : ownKnob Tryd.prog.godebug = none := by kernel_rfl
set_option maxRecDepth 100000 in
theorem lifted (os : Os) (started : os.Started) (H : Type) (enc : TypeId × Value → H) :
    ReturnsInHanded {} Tryd.checked os 8 .any (fun w args => (Rows.fnExactCodeReadSpec.pre enc Tryd.prog Tryd.f8 Rows.fnExactCodeReadRow.domain false w args ∧ laidMetH Tryd.prog Rows.fnExactCodeReadRow.laid w) ∧ sizedMet enc Tryd.prog Tryd.f8 (OpenSpec.ofChange Rows.fnExactCodeReadSpec) false w args) (Rows.fnExactCodeReadSpec.post enc Tryd.prog Tryd.f8 false true false false) := by
  refine returnsInHanded_of_change_and (C := Tryd.checked) (X := fun w _ => laidMetH Tryd.prog Rows.fnExactCodeReadRow.laid w) (fun _ _ _ hh h => h.of_heap hh) own started (by kernel_rfl) Tryd.func8
    (ChangeSpec.witness_shaped (enc := enc) (C := Tryd.checked) (os := os) (X := fun w _ => laidMetH Tryd.prog Rows.fnExactCodeReadRow.laid w) false (World.laidAll Tryd.prog os Rows.fnExactCodeReadRow.laid) #[.string ByteArray.empty] 8 (World.laidAll_os _ _ _) (World.shaped_of_ZipB (by kernel_rfl) (by kernel_rfl)) (by kernel_rfl) (by kernel_rfl) (by kernel_rfl)
      (by rw [MakeChecks.laidMetH_plain _ _ _ (by kernel_rfl)]; exact laidMet_laidAll _ (by kernel_rfl) (by kernel_rfl))) ?_
  intro W base args ds gs before hval0 hW hcnd hsz0 _ _
  have hsz : (DataW.weightsEach Tryd.prog (Tryd.f8.params.toList ++ Rows.fnExactCodeReadSpec.plain.varTypes Tryd.prog) (ds ++ gs)).all (· ≤ reachBytes) = true := hsz0
  have hval : ∀ (j : Nat) t v, Tryd.f8.params[j]? = some t → args[j]? = some v → Value.okWide Tryd.prog W .any base t v := hval0
  have hW' := hW
  obtain ⟨p, q, hA0, hV, rfl, hfz, hnd⟩ := hW
  have hA : DataW.TrodAll enc Tryd.prog W 0 (fun _ => true) true Tryd.f8.params.toList args.toList ds p := hA0
  rw [Tryd.params8] at hA hval hsz
  obtain ⟨v0, vs0, d0, ds0, p0, q0, hargs, rfl, rfl, h0, r0⟩ := trodAll_cons hA
  obtain ⟨rfl, rfl, rfl⟩ := trodAll_nil r0
  obtain rfl : args = #[v0] := by cases args; simp_all
  obtain ⟨rfl, rfl⟩ := trodVars_none hV
  obtain ⟨a0, rfl, rfl, rfl, y0⟩ := open_string Tryd.underlying9 (hval 0 9 v0 rfl rfl) h0
  have w0 : a0.size ≤ 140737488351232 := by
    have z := sized_string hsz (j := 0) (t := 9) rfl rfl
    rw [Array.length_toList] at z
    exact z
  clear hA0 hval0 hsz0 hsz
  refine (P.laws_FnExactCodeRead.walk Pure.FnExactCodeRead a0 W w0).mono fun e W' ⟨he, bel⟩ => ?_
  subst he
  exact ⟨_, rfl, _, _, _, [], _, [], hW', trodAll_mk1 (shut_bool Tryd.underlying4 _), (trodAll_cons_mk (shut_string Tryd.underlying9 y0) trodAll_mk0), rfl, bel.frame _, fun h => by cases h⟩
theorem over : Rows.fnExactCodeReadRow.holds Tryd.pinned (OpenSpec.ofChange Rows.fnExactCodeReadSpec) :=
  OpenClaim.holds_of_wide 8 Tryd.f8 rfl rfl rfl rfl rfl rfl rfl ⟨rfl, rfl, rfl, rfl, rfl⟩ rfl rfl rfl rfl rfl (by kernel_rfl) Tryd.func8 (by kernel_rfl)
    (of_decide_eq_true (by kernel_rfl)) (by unfold Func.isWrapper; first | (rw [if_pos (by decide +kernel)]; kernel_rfl) | (rw [if_neg (by decide +kernel)]; exact ⟨rfl, rfl⟩))
    (fun os started H enc _ => lifted os started H enc)
theorem proved : Rows.FnExactCodeReadSaid := over
#print axioms proved
end Go.Proofs.YtdacpdhpifocbaaDoor.fnExactCodeRead
namespace Go.Proofs.YtdacpdhpifocbaaDoor
/-- The row, under a short name, for the claim. -/
theorem fnExactCodeRead_holds : Rows.FnExactCodeReadSaid := fnExactCodeRead.proved
end Go.Proofs.YtdacpdhpifocbaaDoor

