/- Part 5 of what CodeCut rests on: contracts of the program's functions and plain facts (the print's texts and the session's own, put together). -/
import Derived.Test.YtdacpdhpifocbaaDoorBCodeCut3
namespace Go.Proofs.YtdacpdhpifocbaaDoor.P
open Go.RowKit Go.Proofs.YtdacpdhpifocbaaDoorW.PrintWords Go.Proofs.YtdacpdhpifocbaaDoorW.PrintLast Go.Proofs.YtdacpdhpifocbaaDoorW.PrintMore
attribute [local go_sem] max2_int min2_int max_two min_two max_three min_three max_four min_four   -- for this text's walks alone
set_option linter.unusedVariables false
set_option linter.unusedSimpArgs false

attribute [local go_sem high] eqA35
/-! ### impl_CodeStay: function 20 -/
mutual
def impl_CodeStay.j0 : Nat → List (S35) → Bool → Option ((List (S35)) × Bool)
  | 0, _, _ => none
  | k + 1, x0, x24 => if x24 = true then (some (([] : List (S35)), false)) else (if 0 < (x0.length : Int) then (if 1 ≤ (x0.length : Int) then ((some (x0.drop 1 : List (S35))).bind fun y108 => (impl_CodeStay.l0 k (([(⟨(rd_T35 x0 0).f0, (rd_T35 x0 0).f1⟩ : S35)] : List (S35))) y108 (y108.length : Int) 0 ((rd_T35 x0 0).f0) ((rd_T35 x0 0).f1))) else (none)) else (none))
def impl_CodeStay.l0 : Nat → List (S35) → List (S35) → Int → Int → Int → Int → Option ((List (S35)) × Bool)
  | 0, _, _, _, _, _, _ => none
  | k + 1, x5, x31, x32, x33, x105000, x105001 => if x33 < x32 then (if 0 ≤ x33 then (if x33 < (x31.length : Int) then ((impl_PtOk.f ((rd_T35 x31 x33).f0) ((rd_T35 x31 x33).f1)).bind fun t115 => (if t115 = true then (if (((rd_T35 x31 x33).f0) == x105000 && (((rd_T35 x31 x33).f1) == x105001)) = true then (impl_CodeStay.j2 k x5 x31 x32 x33 true x105000 x105001 ((rd_T35 x31 x33).f0) ((rd_T35 x31 x33).f1)) else (if ((rd_T35 x31 x33).f0) = x105000 then (impl_CodeStay.j2 k x5 x31 x32 x33 false x105000 x105001 ((rd_T35 x31 x33).f0) ((rd_T35 x31 x33).f1)) else (impl_CodeStay.j2 k x5 x31 x32 x33 (((rd_T35 x31 x33).f1) != x105001) x105000 x105001 ((rd_T35 x31 x33).f0) ((rd_T35 x31 x33).f1)))) else (impl_CodeStay.j2 k x5 x31 x32 x33 true x105000 x105001 ((rd_T35 x31 x33).f0) ((rd_T35 x31 x33).f1)))) else (none)) else (none)) else ((impl_isPath.f k x5).bind fun t112 => (if t112 = true then (some (x5, true)) else (some (([] : List (S35)), false))))
def impl_CodeStay.j2 : Nat → List (S35) → List (S35) → Int → Int → Bool → Int → Int → Int → Int → Option ((List (S35)) × Bool)
  | 0, _, _, _, _, _, _, _, _, _ => none
  | k + 1, x5, x31, x32, x33, x58, x105000, x105001, x115000, x115001 => if x58 = true then (some (([] : List (S35)), false)) else ((impl_toward.f x105000 x115000).bind fun t116 => ((impl_toward.f x105001 x115001).bind fun t117 => (impl_CodeStay.l1 k x5 t116 t117 x31 x32 x33 x105000 x105001 x115000 x115001)))
def impl_CodeStay.l1 : Nat → List (S35) → Int → Int → List (S35) → Int → Int → Int → Int → Int → Int → Option ((List (S35)) × Bool)
  | 0, _, _, _, _, _, _, _, _, _, _ => none
  | k + 1, x5, x8, x9, x31, x32, x33, x105000, x105001, x115000, x115001 => if (!(x105000 == x115000) || (!(x105001 == x115001))) = true then (if x5.length < 8796093022208 then (impl_CodeStay.l1 k (x5 ++ [(⟨wrap64 (x105000 + x8), wrap64 (x105001 + x9)⟩ : S35)]) x8 x9 x31 x32 x33 (wrap64 (x105000 + x8)) (wrap64 (x105001 + x9)) x115000 x115001) else (none)) else (impl_CodeStay.l0 k x5 x31 x32 (wrap64 (x33 + 1)) x105000 x105001)
end
def impl_CodeStay.f (k : Nat) (l0 : List (S35)) : Option ((List (S35)) × Bool) := if (l0.length : Int) < 1 then (impl_CodeStay.j0 k l0 true) else (if (l0.length : Int) > 400 then (impl_CodeStay.j0 k l0 true) else (if 0 < (l0.length : Int) then ((impl_PtOk.f ((rd_T35 l0 0).f0) ((rd_T35 l0 0).f1)).bind fun t102 => (impl_CodeStay.j0 k l0 (!t102))) else (none)))
theorem impl_CodeStay.mono_l : ∀ k, (∀ y0 y1, LeO (impl_CodeStay.j0 k y0 y1) (impl_CodeStay.j0 (k + 1) y0 y1)) ∧ (∀ y0 y1 y2 y3 y4 y5, LeO (impl_CodeStay.l0 k y0 y1 y2 y3 y4 y5) (impl_CodeStay.l0 (k + 1) y0 y1 y2 y3 y4 y5)) ∧ (∀ y0 y1 y2 y3 y4 y5 y6 y7 y8, LeO (impl_CodeStay.j2 k y0 y1 y2 y3 y4 y5 y6 y7 y8) (impl_CodeStay.j2 (k + 1) y0 y1 y2 y3 y4 y5 y6 y7 y8)) ∧ (∀ y0 y1 y2 y3 y4 y5 y6 y7 y8 y9, LeO (impl_CodeStay.l1 k y0 y1 y2 y3 y4 y5 y6 y7 y8 y9) (impl_CodeStay.l1 (k + 1) y0 y1 y2 y3 y4 y5 y6 y7 y8 y9))
  | 0 => ⟨fun _ _ r h => by simp [impl_CodeStay.j0] at h, fun _ _ _ _ _ _ r h => by simp [impl_CodeStay.l0] at h, fun _ _ _ _ _ _ _ _ _ r h => by simp [impl_CodeStay.j2] at h, fun _ _ _ _ _ _ _ _ _ _ r h => by simp [impl_CodeStay.l1] at h⟩
  | k + 1 => by
    obtain ⟨ih0, ih1, ih2, ih3⟩ := impl_CodeStay.mono_l k
    refine ⟨?_, ?_, ?_, ?_⟩
    · intro y0 y1
      unfold impl_CodeStay.j0
      repeat' first
      | (with_reducible exact ih0 _ _)
      | (with_reducible exact ih1 _ _ _ _ _ _)
      | (with_reducible exact ih2 _ _ _ _ _ _ _ _ _)
      | (with_reducible exact ih3 _ _ _ _ _ _ _ _ _ _)
      | (with_reducible exact impl_isPath.mono _ _)
      | (with_reducible exact LeO.refl _)
      | (with_reducible exact LeO.none _)
      | (with_reducible refine LeO.ite ?_ ?_)
      | (with_reducible refine LeO.bind ?_ (fun _ => ?_))
      | exact ih0 _ _
      | exact ih1 _ _ _ _ _ _
      | exact ih2 _ _ _ _ _ _ _ _ _
      | exact ih3 _ _ _ _ _ _ _ _ _ _
      | exact impl_isPath.mono _ _
      | exact LeO.none _
      | refine LeO.ite ?_ ?_
      | refine LeO.bind ?_ (fun _ => ?_)
    · intro y0 y1 y2 y3 y4 y5
      unfold impl_CodeStay.l0
      repeat' first
      | (with_reducible exact ih0 _ _)
      | (with_reducible exact ih1 _ _ _ _ _ _)
      | (with_reducible exact ih2 _ _ _ _ _ _ _ _ _)
      | (with_reducible exact ih3 _ _ _ _ _ _ _ _ _ _)
      | (with_reducible exact impl_isPath.mono _ _)
      | (with_reducible exact LeO.refl _)
      | (with_reducible exact LeO.none _)
      | (with_reducible refine LeO.ite ?_ ?_)
      | (with_reducible refine LeO.bind ?_ (fun _ => ?_))
      | exact ih0 _ _
      | exact ih1 _ _ _ _ _ _
      | exact ih2 _ _ _ _ _ _ _ _ _
      | exact ih3 _ _ _ _ _ _ _ _ _ _
      | exact impl_isPath.mono _ _
      | exact LeO.none _
      | refine LeO.ite ?_ ?_
      | refine LeO.bind ?_ (fun _ => ?_)
    · intro y0 y1 y2 y3 y4 y5 y6 y7 y8
      unfold impl_CodeStay.j2
      repeat' first
      | (with_reducible exact ih0 _ _)
      | (with_reducible exact ih1 _ _ _ _ _ _)
      | (with_reducible exact ih2 _ _ _ _ _ _ _ _ _)
      | (with_reducible exact ih3 _ _ _ _ _ _ _ _ _ _)
      | (with_reducible exact impl_isPath.mono _ _)
      | (with_reducible exact LeO.refl _)
      | (with_reducible exact LeO.none _)
      | (with_reducible refine LeO.ite ?_ ?_)
      | (with_reducible refine LeO.bind ?_ (fun _ => ?_))
      | exact ih0 _ _
      | exact ih1 _ _ _ _ _ _
      | exact ih2 _ _ _ _ _ _ _ _ _
      | exact ih3 _ _ _ _ _ _ _ _ _ _
      | exact impl_isPath.mono _ _
      | exact LeO.none _
      | refine LeO.ite ?_ ?_
      | refine LeO.bind ?_ (fun _ => ?_)
    · intro y0 y1 y2 y3 y4 y5 y6 y7 y8 y9
      unfold impl_CodeStay.l1
      repeat' first
      | (with_reducible exact ih0 _ _)
      | (with_reducible exact ih1 _ _ _ _ _ _)
      | (with_reducible exact ih2 _ _ _ _ _ _ _ _ _)
      | (with_reducible exact ih3 _ _ _ _ _ _ _ _ _ _)
      | (with_reducible exact impl_isPath.mono _ _)
      | (with_reducible exact LeO.refl _)
      | (with_reducible exact LeO.none _)
      | (with_reducible refine LeO.ite ?_ ?_)
      | (with_reducible refine LeO.bind ?_ (fun _ => ?_))
      | exact ih0 _ _
      | exact ih1 _ _ _ _ _ _
      | exact ih2 _ _ _ _ _ _ _ _ _
      | exact ih3 _ _ _ _ _ _ _ _ _ _
      | exact impl_isPath.mono _ _
      | exact LeO.none _
      | refine LeO.ite ?_ ?_
      | refine LeO.bind ?_ (fun _ => ?_)
theorem impl_CodeStay.mono : ∀ a0 k, LeO (impl_CodeStay.f k a0) (impl_CodeStay.f (k + 1) a0) := by
  intro a0 k
  obtain ⟨ih0, ih1, ih2, ih3⟩ := impl_CodeStay.mono_l k
  unfold impl_CodeStay.f
  repeat' first
      | (with_reducible exact ih0 _ _)
      | (with_reducible exact ih1 _ _ _ _ _ _)
      | (with_reducible exact ih2 _ _ _ _ _ _ _ _ _)
      | (with_reducible exact ih3 _ _ _ _ _ _ _ _ _ _)
      | (with_reducible exact impl_isPath.mono _ _)
      | (with_reducible exact LeO.refl _)
      | (with_reducible exact LeO.none _)
      | (with_reducible refine LeO.ite ?_ ?_)
      | (with_reducible refine LeO.bind ?_ (fun _ => ?_))
      | exact ih0 _ _
      | exact ih1 _ _ _ _ _ _
      | exact ih2 _ _ _ _ _ _ _ _ _
      | exact ih3 _ _ _ _ _ _ _ _ _ _
      | exact impl_isPath.mono _ _
      | exact LeO.none _
      | refine LeO.ite ?_ ?_
      | refine LeO.bind ?_ (fun _ => ?_)
set_option maxHeartbeats 8000000 in
set_option maxRecDepth 100000 in
theorem impl_CodeStay.calls (k : Nat) (A0 : Option Addr) (c0 : Nat) (l0 : List (S35)) (r1 : List (S35)) (r2 : Bool) (w : World) (hr0 : Kd.C k35 w A0 l0.length l0) (hc0 : l0.length ≤ c0) (h : impl_CodeStay.f k l0 = some (r1, r2)) :
  Calls Tryd.prog 20 #[.slice A0 l0.length c0] w fun e w' => ∃ v0_ : Value, e = .returned (.tuple #[v0_, .bool r2]) ∧ Kd.R k35 35 w' w.heap.size (fun _ => True) v0_ r1 ∧ Below w.heap.size w w' := by
 have hu35 := Tryd.underlying35; have HR0 := Aside0.mk hr0; have HC0 := Aside0.mk hc0; clear hr0 hc0; have HB := Aside0.mk (Below.refl w.heap.size w); have H : (if (l0.length : Int) < 1 then (impl_CodeStay.j0 k l0 true) else (if (l0.length : Int) > 400 then (impl_CodeStay.j0 k l0 true) else (if 0 < (l0.length : Int) then ((impl_PtOk.f ((rd_T35 l0 0).f0) ((rd_T35 l0 0).f1)).bind fun t102 => (impl_CodeStay.j0 k l0 (!t102))) else (none)))) = some (r1, r2) := h; clear h; have HC2 := Aside0.mk H; clear H; go_enter Tryd.func20, Tryd.ntmps20; go_upto_region 1 with (fail)
 repeat (go_quiet (fail); go_upto_region 1 with (fail))
 go_cut [24] (fun v24 wc => ∃ (kq : Nat) (x24_1 : Bool), v24 = .bool x24_1 ∧ Aside0 (impl_CodeStay.j0 kq l0 x24_1 = some (r1, r2)) ∧ Aside0 (kq ≤ k) ∧ Aside0 (Below w.heap.size w wc))
 case first =>
  have H := HC2.out; clear HC2
  by_cases c3 : (l0.length : Int) < 1
  ·rw [if_pos c3] at H
   have c3b0 : decide ((l0.length : Int) < 1) = true := decide_eq_true c3; have c3b1 : decide (l0.length < 1) = true := decide_eq_true (by omega); clear c3; (first | rw [c3b0] | (simp only [i64_w, i32_w]; rw [c3b0]) | skip); have H' := Aside0.mk H; clear H; go_wp2
   repeat (go_quiet (fail); try go_wp2)
   go_meet
   case rel => exact ⟨_, (true), (by first | rfl | (simp; done) | (simp [*]; done)), H', ⟨by first | omega | exact Nat.le_refl _⟩, ⟨(bC0 HB)⟩⟩
  ·rw [if_neg c3] at H
   have c3b0 : decide ((l0.length : Int) < 1) = false := decide_eq_false c3; have c3b1 : decide (l0.length < 1) = false := decide_eq_false (by omega); clear c3; (first | rw [c3b0] | (simp only [i64_w, i32_w]; rw [c3b0]) | skip)
   by_cases c4 : (l0.length : Int) > 400
   ·rw [if_pos c4] at H
    have c4b0 : decide (400 < (l0.length : Int)) = true := decide_eq_true c4; have c4b1 : decide (400 < l0.length) = true := decide_eq_true (by omega); clear c4; have H' := Aside0.mk H; clear H; go_wp2
    repeat (go_quiet (fail); try go_wp2)
    go_meet
    case rel => exact ⟨_, (true), (by first | rfl | (simp; done) | (simp [*]; done)), H', ⟨by first | omega | exact Nat.le_refl _⟩, ⟨(bC0 HB)⟩⟩
   ·rw [if_neg c4] at H
    have c4b0 : decide (400 < (l0.length : Int)) = false := decide_eq_false c4; have c4b1 : decide (400 < l0.length) = false := decide_eq_false (by omega); clear c4
    by_cases c5 : 0 < (l0.length : Int)
    ·rw [if_pos c5] at H
     have c5b0 : decide (0 < (l0.length : Int)) = true := decide_eq_true c5; have c5b1 : decide (0 < l0.length) = true := decide_eq_true (by omega); clear c5; replace H := Option.bind_eq_some_iff.mp H; obtain ⟨t102, A60, H⟩ := H; replace H : (impl_CodeStay.j0 k l0 (!t102)) = some (r1, r2) := H; have A6 := Aside0.mk A60; clear A60; have H' := Aside0.mk H; clear H; have p101 : 0 ≤ (0 : Int) := (by omega); have q101 : 0 < (l0.length : Int) := of_decide_eq_true bX; obtain ⟨ad101, e101, hx101_0, hx101_1⟩ := at_T35 HR0.out 0 p101 q101
     cases e101
     have qi101 : (0 < l0.length) = True := eq_true (by omega); (try rw [show ((0 : Int)).toNat = 0 from rfl] at hx101_0); (try rw [show 0 * 2 = 0 from rfl] at hx101_0); (try rw [Addr.add_zero'] at hx101_0); (try rw [show ((0 : Int)).toNat = 0 from rfl] at hx101_1); (try rw [show 0 * 2 = 0 from rfl] at hx101_1); (try rw [Addr.add_zero'] at hx101_1); replace hx101_0 := (HB.out.cell (World.block_lt_of_cell? w _ hx101_0)).trans hx101_0; replace hx101_1 := (HB.out.cell (World.block_lt_of_cell? w _ hx101_1)).trans hx101_1; replace p101 := eq_true p101; replace q101 := eq_true q101; go_wp2_with (first | (go_at_call 40; (with_reducible refine (impl_PtOk.calls ((rd_T35 l0 0).f0) ((rd_T35 l0 0).f1) t102 _ A6.out).mono ?_); rintro e w7 ⟨rfl, hb⟩; have n0_ := Aside0.mk (below_step (bC0 HB) hb); clear HB; have HB := n0_; clear n0_; (try clear hb); (try clear hb2); (try clear hk); (try clear hi)))
     repeat (go_quiet (first | (go_at_call 40; (with_reducible refine (impl_PtOk.calls ((rd_T35 l0 0).f0) ((rd_T35 l0 0).f1) t102 _ A6.out).mono ?_); rintro e w7 ⟨rfl, hb⟩; have n0_ := Aside0.mk (below_step (bC0 HB) hb); clear HB; have HB := n0_; clear n0_; (try clear hb); (try clear hb2); (try clear hk); (try clear hi))); try go_wp2_with (first | (go_at_call 40; (with_reducible refine (impl_PtOk.calls ((rd_T35 l0 0).f0) ((rd_T35 l0 0).f1) t102 _ A6.out).mono ?_); rintro e w7 ⟨rfl, hb⟩; have n0_ := Aside0.mk (below_step (bC0 HB) hb); clear HB; have HB := n0_; clear n0_; (try clear hb); (try clear hb2); (try clear hk); (try clear hi))))
     go_meet
     case rel => exact ⟨_, (!t102), (by first | rfl | (simp; done) | (simp [*]; done)), H', ⟨by first | omega | exact Nat.le_refl _⟩, ⟨(bC0 HB)⟩⟩
    ·rw [if_neg c5] at H; exact absurd H (by simp)
 case rest =>
  clear HC2
  try clear p1
  try clear q1
  try clear hx1
  try clear qi1
  try clear c2
  try clear p2
  try clear c3
  try clear c3b0
  try clear c3b1
  try clear c4
  try clear c4b0
  try clear c4b1
  try clear c5
  try clear c5b0
  try clear c5b1
  try clear hx101_0
  try clear hx101_1
  try clear p101
  try clear q101
  obtain ⟨kq, x24_1, rfl, HA, HJ1, HB⟩ := hcut
  cases kq with
  | zero => exact absurd HA.out (by simp [impl_CodeStay.j0])
  | succ kj1 =>
   have H := HA.out; clear HA; simp only [impl_CodeStay.j0] at H
   by_cases c8 : x24_1 = true
   ·subst c8
    have H1 : (some (([] : List (S35)), false)) = some (r1, r2) := by rw [if_pos rfl] at H; exact H
    clear H; have H := H1; clear H1; simp only [Option.some.injEq, Prod.mk.injEq] at H; obtain ⟨rfl, rfl⟩ := H; go_wp2
    repeat (go_quiet (fail); try go_wp2)
    go_ret2
    exact ⟨_, bE, by first | exact Kd.R_nil _ _ _ _ _ | exact Kd.N_nil _ _ _ _ _ | exact Kd.V_nil _ _ _ _ _ | exact Kd.Q_nil _ _ _ _ _ | exact Kd.S_nil _ _ _ _ _, (bC0 HB)⟩
   ·replace c8 := Bool.eq_false_iff.mpr c8
    subst c8
    have H1 : (if 0 < (l0.length : Int) then (if 1 ≤ (l0.length : Int) then ((some (l0.drop 1 : List (S35))).bind fun y108 => (impl_CodeStay.l0 kj1 (([(⟨(rd_T35 l0 0).f0, (rd_T35 l0 0).f1⟩ : S35)] : List (S35))) y108 (y108.length : Int) 0 ((rd_T35 l0 0).f0) ((rd_T35 l0 0).f1))) else (none)) else (none)) = some (r1, r2) := by rw [if_neg (show ¬ (false = true) by decide)] at H; exact H
    clear H; have H := H1; clear H1
    by_cases c9 : 0 < (l0.length : Int)
    ·rw [if_pos c9] at H
     have c9b0 : decide (0 < (l0.length : Int)) = true := decide_eq_true c9; have c9b1 : decide (0 < l0.length) = true := decide_eq_true (by omega); clear c9; obtain ⟨y105, hy105⟩ : ∃ y_ : List (S35), y_ = (([(⟨(rd_T35 l0 0).f0, (rd_T35 l0 0).f1⟩ : S35)] : List (S35))) := ⟨_, rfl⟩
     replace H : (if 1 ≤ (l0.length : Int) then ((some (l0.drop 1 : List (S35))).bind fun y108 => (impl_CodeStay.l0 kj1 y105 y108 (y108.length : Int) 0 ((rd_T35 l0 0).f0) ((rd_T35 l0 0).f1))) else (none)) = some (r1, r2) := by first | (rw [hy105]; with_reducible exact H) | (have H2_ := (Option.bind_some _ _).symm.trans H; rw [hy105]; with_reducible exact H2_) | (have H2_ := (Option.bind_some _ _).symm.trans H; with_reducible exact H2_) | with_reducible exact H | (rw [hy105]; exact H) | exact H
     have Ny105 := Aside0.mk hy105; clear hy105
     by_cases c10 : 1 ≤ (l0.length : Int)
     ·rw [if_pos c10] at H
      have c10b0 := eq_true c10; have c10b1 : decide (1 ≤ (l0.length : Int)) = true := decide_eq_true c10; clear c10; obtain ⟨y108, hy108⟩ : ∃ y_ : List (S35), y_ = (l0.drop 1) := ⟨_, rfl⟩
      replace H : (impl_CodeStay.l0 kj1 y105 y108 (y108.length : Int) 0 ((rd_T35 l0 0).f0) ((rd_T35 l0 0).f1)) = some (r1, r2) := by first | (rw [hy108]; with_reducible exact H) | (have H2_ := (Option.bind_some _ _).symm.trans H; rw [hy108]; with_reducible exact H2_) | (have H2_ := (Option.bind_some _ _).symm.trans H; with_reducible exact H2_) | with_reducible exact H | (rw [hy108]; exact H) | exact H
      have Ny108 := Aside0.mk hy108; clear hy108; have H' := Aside0.mk H; clear H; have p103 : 0 ≤ (0 : Int) := (by omega); have q103 : 0 < (l0.length : Int) := of_decide_eq_true bX; obtain ⟨ad103, e103, hx103_0, hx103_1⟩ := at_T35 HR0.out 0 p103 q103
      cases e103
      have qi103 : (0 < l0.length) = True := eq_true (by omega); (try rw [show ((0 : Int)).toNat = 0 from rfl] at hx103_0); (try rw [show 0 * 2 = 0 from rfl] at hx103_0); (try rw [Addr.add_zero'] at hx103_0); (try rw [show ((0 : Int)).toNat = 0 from rfl] at hx103_1); (try rw [show 0 * 2 = 0 from rfl] at hx103_1); (try rw [Addr.add_zero'] at hx103_1); replace hx103_0 := (HB.out.cell (World.block_lt_of_cell? w _ hx103_0)).trans hx103_0; replace hx103_1 := (HB.out.cell (World.block_lt_of_cell? w _ hx103_1)).trans hx103_1; replace p103 := eq_true p103; replace q103 := eq_true q103; go_wp2_with (first | ((with_reducible refine gate_dst (N := 4) rfl ?_); (try (refine gate_guard (by rfl) ?_; dsimp only)); refine box_event ?hg (N := 4) ?hd (cs := #[.int .i64 0, .int .i64 0]) (t := 35) ?hr ?_; (case hd => rfl); (case hg => rfl); (case hr => first | (go_simp; done) | (go_simp; rfl)); intro gb104 hg w11 hbox hb; have n0_ := Aside0.mk (below_step (bC0 HB) hb); have n1_ := Aside0.mk (hbox); have n2_ := Aside0.mk ((by rw [hg]; exact (below_size (bC0 HB)) : w.heap.size ≤ gb104)); have n3_ := Aside0.mk ((by rw [hg]; exact (below_size (bC0 HB)) : w.heap.size ≤ gb104)); clear HB; have HB := n0_; have BK104 := n1_; have GW104 := n2_; have GE104 := n3_; clear n0_ n1_ n2_ n3_; clear hb hbox hg; have hcz12_0 : w11.cell? ⟨gb104, 0, none⟩ = some (.int .i64 0) := (blk_cell BK104.out 0).trans rfl; have hcz12_1 : w11.cell? ⟨gb104, 1, none⟩ = some (.int .i64 0) := (blk_cell BK104.out 1).trans rfl; have hfz12_0 := blk_frozen BK104.out 0; have hfz12_1 := blk_frozen BK104.out 1) | ((with_reducible refine gate_dst (N := 29) rfl ?_); (try (refine gate_guard (by rfl) ?_; dsimp only)); refine Kd.R_lit k35 _ 35 ?hg (N := 29) ?hd (xs := ([(⟨(rd_T35 l0 0).f0, (rd_T35 l0 0).f1⟩ : S35)] : List (S35))) (inner := [.int .i64 ((rd_T35 l0 0).f0), .int .i64 ((rd_T35 l0 0).f1)]) (ok := fun _ => True) (okp := fun _ => True) ?hr ?hp (fun _ hk => hk) trivial (Below.refl _ _) (Nat.le_refl _) (by simp) ?_; (case hd => rfl); (case hg => rfl); (case hr => first | (go_simp; done) | (go_simp; rfl)); (case hp => exact (Reps.c2 (show Kd.M k35 _ _ _ (⟨(rd_T35 l0 0).f0, (rd_T35 l0 0).f1⟩ : S35) [.int .i64 ((rd_T35 l0 0).f0), .int .i64 ((rd_T35 l0 0).f1)] from (k35_mkM _ _ _ (⟨(rd_T35 l0 0).f0, (rd_T35 l0 0).f1⟩ : S35) )) (Reps.none _ _))); intro v106 w13 ho14 hb hg_ hnew_; clear hg_ hnew_; (first | rw [← Ny105.out] at ho14 | (simp only [Int.reduceToNat] at ho14; rw [← Ny105.out] at ho14)); have n0_ := Aside0.mk (Kd.R_lower (Kd.R_newB ho14 (g := gb104) (o := .cells #[.int .i64 ((rd_T35 l0 0).f0), .int .i64 ((rd_T35 l0 0).f1)] 35 (0, 0)) (by (with_reducible repeat (first | refine blk_drewN ?_ _ | refine blk_drew ?_ | refine blk_alloc ?_ _)); refine blk_put (cs := #[.int .i64 ((rd_T35 l0 0).f0), .int .i64 0]) ?_ 1 _ rfl; (with_reducible repeat (first | refine blk_drewN ?_ _ | refine blk_drew ?_ | refine blk_alloc ?_ _)); refine blk_put (cs := #[.int .i64 0, .int .i64 0]) ?_ 0 _ rfl; (with_reducible repeat (first | refine blk_drewN ?_ _ | refine blk_drew ?_ | refine blk_alloc ?_ _)); exact BK104.out)) (below_size (bC1 HB GE104.out))); have n1_ := Aside0.mk (blk_below (g := gb104) (o := .cells #[.int .i64 ((rd_T35 l0 0).f0), .int .i64 ((rd_T35 l0 0).f1)] 35 (0, 0)) (by (with_reducible repeat (first | refine blk_drewN ?_ _ | refine blk_drew ?_ | refine blk_alloc ?_ _)); refine blk_put (cs := #[.int .i64 ((rd_T35 l0 0).f0), .int .i64 0]) ?_ 1 _ rfl; (with_reducible repeat (first | refine blk_drewN ?_ _ | refine blk_drew ?_ | refine blk_alloc ?_ _)); refine blk_put (cs := #[.int .i64 0, .int .i64 0]) ?_ 0 _ rfl; (with_reducible repeat (first | refine blk_drewN ?_ _ | refine blk_drew ?_ | refine blk_alloc ?_ _)); exact BK104.out) hb); have n2_ := Aside0.mk (below_step (bC1 HB GE104.out) hb); clear BK104; clear HB; have HO107 := n0_; have BK104 := n1_; have HB := n2_; clear n0_ n1_ n2_; clear hb ho14; have q15 : (1 : Int) ≤ ((l0.length : Int) : Int) := of_decide_eq_true bX; obtain ⟨i015, hi015, _, hsz15, _⟩ := info_parts info35; have hroom15 : l0.length ≤ c0 := HC0.out; have hC15 : Kd.C k35 _ (some ad103) l0.length l0 := HR0.out; have hcut15 := cut_from (P := Tryd.prog) 25 35 .i64 Tryd.underlying25 hi015 2 hsz15 (some ad103) l0.length c0 1 (by omega) q15; have hr15 := Kd.C_drop (m := (1 : Int).toNat) (c := c0) hC15 (by omega) hroom15; obtain ⟨A15, hA15⟩ : ∃ A1, A1 = (if c0 = (1 : Int).toNat then (some ad103) else ((some ad103) : Option Addr).map (·.add ((1 : Int).toNat * 2))) := ⟨_, rfl⟩; obtain ⟨c15, hc15⟩ : ∃ c1, c1 = c0 - (1 : Int).toNat := ⟨_, rfl⟩; have hy15 : y108.length = l0.length - (1 : Int).toNat := (by rw [Ny108.out, List.length_drop] <;> omega); rw [show (l0).drop (1 : Int).toNat = y108 from Ny108.out.symm] at hr15; replace hr15 : Kd.C k35 _ A15 y108.length y108 := (by rw [hA15]; exact hr15); rw [← hy15, ← hA15, ← hc15] at hcut15; have HR111 := Aside0.mk hr15; have HC111 := Aside0.mk (show y108.length ≤ c15 from by rw [hy15, hc15]; exact Nat.sub_le_sub_right hroom15 _); clear hr15 hC15 hroom15 hi015 hsz15 hc15; have KY15 := Aside0.mk hy15; have KA15 := Aside0.mk hA15; clear hy15 hA15; replace q15 := eq_true q15))
      repeat (go_quiet (first | ((with_reducible refine gate_dst (N := 4) rfl ?_); (try (refine gate_guard (by rfl) ?_; dsimp only)); refine box_event ?hg (N := 4) ?hd (cs := #[.int .i64 0, .int .i64 0]) (t := 35) ?hr ?_; (case hd => rfl); (case hg => rfl); (case hr => first | (go_simp; done) | (go_simp; rfl)); intro gb104 hg w11 hbox hb; have n0_ := Aside0.mk (below_step (bC0 HB) hb); have n1_ := Aside0.mk (hbox); have n2_ := Aside0.mk ((by rw [hg]; exact (below_size (bC0 HB)) : w.heap.size ≤ gb104)); have n3_ := Aside0.mk ((by rw [hg]; exact (below_size (bC0 HB)) : w.heap.size ≤ gb104)); clear HB; have HB := n0_; have BK104 := n1_; have GW104 := n2_; have GE104 := n3_; clear n0_ n1_ n2_ n3_; clear hb hbox hg; have hcz12_0 : w11.cell? ⟨gb104, 0, none⟩ = some (.int .i64 0) := (blk_cell BK104.out 0).trans rfl; have hcz12_1 : w11.cell? ⟨gb104, 1, none⟩ = some (.int .i64 0) := (blk_cell BK104.out 1).trans rfl; have hfz12_0 := blk_frozen BK104.out 0; have hfz12_1 := blk_frozen BK104.out 1) | ((with_reducible refine gate_dst (N := 29) rfl ?_); (try (refine gate_guard (by rfl) ?_; dsimp only)); refine Kd.R_lit k35 _ 35 ?hg (N := 29) ?hd (xs := ([(⟨(rd_T35 l0 0).f0, (rd_T35 l0 0).f1⟩ : S35)] : List (S35))) (inner := [.int .i64 ((rd_T35 l0 0).f0), .int .i64 ((rd_T35 l0 0).f1)]) (ok := fun _ => True) (okp := fun _ => True) ?hr ?hp (fun _ hk => hk) trivial (Below.refl _ _) (Nat.le_refl _) (by simp) ?_; (case hd => rfl); (case hg => rfl); (case hr => first | (go_simp; done) | (go_simp; rfl)); (case hp => exact (Reps.c2 (show Kd.M k35 _ _ _ (⟨(rd_T35 l0 0).f0, (rd_T35 l0 0).f1⟩ : S35) [.int .i64 ((rd_T35 l0 0).f0), .int .i64 ((rd_T35 l0 0).f1)] from (k35_mkM _ _ _ (⟨(rd_T35 l0 0).f0, (rd_T35 l0 0).f1⟩ : S35) )) (Reps.none _ _))); intro v106 w13 ho14 hb hg_ hnew_; clear hg_ hnew_; (first | rw [← Ny105.out] at ho14 | (simp only [Int.reduceToNat] at ho14; rw [← Ny105.out] at ho14)); have n0_ := Aside0.mk (Kd.R_lower (Kd.R_newB ho14 (g := gb104) (o := .cells #[.int .i64 ((rd_T35 l0 0).f0), .int .i64 ((rd_T35 l0 0).f1)] 35 (0, 0)) (by (with_reducible repeat (first | refine blk_drewN ?_ _ | refine blk_drew ?_ | refine blk_alloc ?_ _)); refine blk_put (cs := #[.int .i64 ((rd_T35 l0 0).f0), .int .i64 0]) ?_ 1 _ rfl; (with_reducible repeat (first | refine blk_drewN ?_ _ | refine blk_drew ?_ | refine blk_alloc ?_ _)); refine blk_put (cs := #[.int .i64 0, .int .i64 0]) ?_ 0 _ rfl; (with_reducible repeat (first | refine blk_drewN ?_ _ | refine blk_drew ?_ | refine blk_alloc ?_ _)); exact BK104.out)) (below_size (bC1 HB GE104.out))); have n1_ := Aside0.mk (blk_below (g := gb104) (o := .cells #[.int .i64 ((rd_T35 l0 0).f0), .int .i64 ((rd_T35 l0 0).f1)] 35 (0, 0)) (by (with_reducible repeat (first | refine blk_drewN ?_ _ | refine blk_drew ?_ | refine blk_alloc ?_ _)); refine blk_put (cs := #[.int .i64 ((rd_T35 l0 0).f0), .int .i64 0]) ?_ 1 _ rfl; (with_reducible repeat (first | refine blk_drewN ?_ _ | refine blk_drew ?_ | refine blk_alloc ?_ _)); refine blk_put (cs := #[.int .i64 0, .int .i64 0]) ?_ 0 _ rfl; (with_reducible repeat (first | refine blk_drewN ?_ _ | refine blk_drew ?_ | refine blk_alloc ?_ _)); exact BK104.out) hb); have n2_ := Aside0.mk (below_step (bC1 HB GE104.out) hb); clear BK104; clear HB; have HO107 := n0_; have BK104 := n1_; have HB := n2_; clear n0_ n1_ n2_; clear hb ho14; have q15 : (1 : Int) ≤ ((l0.length : Int) : Int) := of_decide_eq_true bX; obtain ⟨i015, hi015, _, hsz15, _⟩ := info_parts info35; have hroom15 : l0.length ≤ c0 := HC0.out; have hC15 : Kd.C k35 _ (some ad103) l0.length l0 := HR0.out; have hcut15 := cut_from (P := Tryd.prog) 25 35 .i64 Tryd.underlying25 hi015 2 hsz15 (some ad103) l0.length c0 1 (by omega) q15; have hr15 := Kd.C_drop (m := (1 : Int).toNat) (c := c0) hC15 (by omega) hroom15; obtain ⟨A15, hA15⟩ : ∃ A1, A1 = (if c0 = (1 : Int).toNat then (some ad103) else ((some ad103) : Option Addr).map (·.add ((1 : Int).toNat * 2))) := ⟨_, rfl⟩; obtain ⟨c15, hc15⟩ : ∃ c1, c1 = c0 - (1 : Int).toNat := ⟨_, rfl⟩; have hy15 : y108.length = l0.length - (1 : Int).toNat := (by rw [Ny108.out, List.length_drop] <;> omega); rw [show (l0).drop (1 : Int).toNat = y108 from Ny108.out.symm] at hr15; replace hr15 : Kd.C k35 _ A15 y108.length y108 := (by rw [hA15]; exact hr15); rw [← hy15, ← hA15, ← hc15] at hcut15; have HR111 := Aside0.mk hr15; have HC111 := Aside0.mk (show y108.length ≤ c15 from by rw [hy15, hc15]; exact Nat.sub_le_sub_right hroom15 _); clear hr15 hC15 hroom15 hi015 hsz15 hc15; have KY15 := Aside0.mk hy15; have KA15 := Aside0.mk hA15; clear hy15 hA15; replace q15 := eq_true q15)); try go_wp2_with (first | ((with_reducible refine gate_dst (N := 4) rfl ?_); (try (refine gate_guard (by rfl) ?_; dsimp only)); refine box_event ?hg (N := 4) ?hd (cs := #[.int .i64 0, .int .i64 0]) (t := 35) ?hr ?_; (case hd => rfl); (case hg => rfl); (case hr => first | (go_simp; done) | (go_simp; rfl)); intro gb104 hg w11 hbox hb; have n0_ := Aside0.mk (below_step (bC0 HB) hb); have n1_ := Aside0.mk (hbox); have n2_ := Aside0.mk ((by rw [hg]; exact (below_size (bC0 HB)) : w.heap.size ≤ gb104)); have n3_ := Aside0.mk ((by rw [hg]; exact (below_size (bC0 HB)) : w.heap.size ≤ gb104)); clear HB; have HB := n0_; have BK104 := n1_; have GW104 := n2_; have GE104 := n3_; clear n0_ n1_ n2_ n3_; clear hb hbox hg; have hcz12_0 : w11.cell? ⟨gb104, 0, none⟩ = some (.int .i64 0) := (blk_cell BK104.out 0).trans rfl; have hcz12_1 : w11.cell? ⟨gb104, 1, none⟩ = some (.int .i64 0) := (blk_cell BK104.out 1).trans rfl; have hfz12_0 := blk_frozen BK104.out 0; have hfz12_1 := blk_frozen BK104.out 1) | ((with_reducible refine gate_dst (N := 29) rfl ?_); (try (refine gate_guard (by rfl) ?_; dsimp only)); refine Kd.R_lit k35 _ 35 ?hg (N := 29) ?hd (xs := ([(⟨(rd_T35 l0 0).f0, (rd_T35 l0 0).f1⟩ : S35)] : List (S35))) (inner := [.int .i64 ((rd_T35 l0 0).f0), .int .i64 ((rd_T35 l0 0).f1)]) (ok := fun _ => True) (okp := fun _ => True) ?hr ?hp (fun _ hk => hk) trivial (Below.refl _ _) (Nat.le_refl _) (by simp) ?_; (case hd => rfl); (case hg => rfl); (case hr => first | (go_simp; done) | (go_simp; rfl)); (case hp => exact (Reps.c2 (show Kd.M k35 _ _ _ (⟨(rd_T35 l0 0).f0, (rd_T35 l0 0).f1⟩ : S35) [.int .i64 ((rd_T35 l0 0).f0), .int .i64 ((rd_T35 l0 0).f1)] from (k35_mkM _ _ _ (⟨(rd_T35 l0 0).f0, (rd_T35 l0 0).f1⟩ : S35) )) (Reps.none _ _))); intro v106 w13 ho14 hb hg_ hnew_; clear hg_ hnew_; (first | rw [← Ny105.out] at ho14 | (simp only [Int.reduceToNat] at ho14; rw [← Ny105.out] at ho14)); have n0_ := Aside0.mk (Kd.R_lower (Kd.R_newB ho14 (g := gb104) (o := .cells #[.int .i64 ((rd_T35 l0 0).f0), .int .i64 ((rd_T35 l0 0).f1)] 35 (0, 0)) (by (with_reducible repeat (first | refine blk_drewN ?_ _ | refine blk_drew ?_ | refine blk_alloc ?_ _)); refine blk_put (cs := #[.int .i64 ((rd_T35 l0 0).f0), .int .i64 0]) ?_ 1 _ rfl; (with_reducible repeat (first | refine blk_drewN ?_ _ | refine blk_drew ?_ | refine blk_alloc ?_ _)); refine blk_put (cs := #[.int .i64 0, .int .i64 0]) ?_ 0 _ rfl; (with_reducible repeat (first | refine blk_drewN ?_ _ | refine blk_drew ?_ | refine blk_alloc ?_ _)); exact BK104.out)) (below_size (bC1 HB GE104.out))); have n1_ := Aside0.mk (blk_below (g := gb104) (o := .cells #[.int .i64 ((rd_T35 l0 0).f0), .int .i64 ((rd_T35 l0 0).f1)] 35 (0, 0)) (by (with_reducible repeat (first | refine blk_drewN ?_ _ | refine blk_drew ?_ | refine blk_alloc ?_ _)); refine blk_put (cs := #[.int .i64 ((rd_T35 l0 0).f0), .int .i64 0]) ?_ 1 _ rfl; (with_reducible repeat (first | refine blk_drewN ?_ _ | refine blk_drew ?_ | refine blk_alloc ?_ _)); refine blk_put (cs := #[.int .i64 0, .int .i64 0]) ?_ 0 _ rfl; (with_reducible repeat (first | refine blk_drewN ?_ _ | refine blk_drew ?_ | refine blk_alloc ?_ _)); exact BK104.out) hb); have n2_ := Aside0.mk (below_step (bC1 HB GE104.out) hb); clear BK104; clear HB; have HO107 := n0_; have BK104 := n1_; have HB := n2_; clear n0_ n1_ n2_; clear hb ho14; have q15 : (1 : Int) ≤ ((l0.length : Int) : Int) := of_decide_eq_true bX; obtain ⟨i015, hi015, _, hsz15, _⟩ := info_parts info35; have hroom15 : l0.length ≤ c0 := HC0.out; have hC15 : Kd.C k35 _ (some ad103) l0.length l0 := HR0.out; have hcut15 := cut_from (P := Tryd.prog) 25 35 .i64 Tryd.underlying25 hi015 2 hsz15 (some ad103) l0.length c0 1 (by omega) q15; have hr15 := Kd.C_drop (m := (1 : Int).toNat) (c := c0) hC15 (by omega) hroom15; obtain ⟨A15, hA15⟩ : ∃ A1, A1 = (if c0 = (1 : Int).toNat then (some ad103) else ((some ad103) : Option Addr).map (·.add ((1 : Int).toNat * 2))) := ⟨_, rfl⟩; obtain ⟨c15, hc15⟩ : ∃ c1, c1 = c0 - (1 : Int).toNat := ⟨_, rfl⟩; have hy15 : y108.length = l0.length - (1 : Int).toNat := (by rw [Ny108.out, List.length_drop] <;> omega); rw [show (l0).drop (1 : Int).toNat = y108 from Ny108.out.symm] at hr15; replace hr15 : Kd.C k35 _ A15 y108.length y108 := (by rw [hA15]; exact hr15); rw [← hy15, ← hA15, ← hc15] at hcut15; have HR111 := Aside0.mk hr15; have HC111 := Aside0.mk (show y108.length ≤ c15 from by rw [hy15, hc15]; exact Nat.sub_le_sub_right hroom15 _); clear hr15 hC15 hroom15 hi015 hsz15 hc15; have KY15 := Aside0.mk hy15; have KA15 := Aside0.mk hA15; clear hy15 hA15; replace q15 := eq_true q15)))
      go_loopg [5, 33] kj1 (fun kq v5 v33 w' => ∃ (x5_2 : List (S35)) (x33_2 : Int) (x105000_2 : Int) (x105001_2 : Int), v33 = .int .i64 x33_2 ∧ Aside0 (impl_CodeStay.l0 kq x5_2 y108 (y108.length : Int) x33_2 x105000_2 x105001_2 = some (r1, r2)) ∧ Aside0 (kq ≤ kj1) ∧ Aside0 (Kd.R k35 35 w' w.heap.size (fun k_ => k_ ≠ gb104) v5 x5_2) ∧ Aside0 (w'.heap[gb104]? = some (.cells #[.int .i64 x105000_2, .int .i64 x105001_2] 35 (0, 0))) ∧ Aside0 (Below w.heap.size w w'))
      case atStart => exact ⟨(y105), (0), ((rd_T35 l0 0).f0), ((rd_T35 l0 0).f1), (by first | rfl | (simp; done) | (simp [*]; done)), H', ⟨Nat.le_refl _⟩, ⟨by (with_reducible repeat (first | apply Kd.R_alloc | apply Kd.R_drewN | apply Kd.R_drew)); exact Kd.R_mono HO107.out (fun _ hk => hk.2)⟩, ⟨by (with_reducible repeat (first | refine blk_drewN ?_ _ | refine blk_drew ?_ | refine blk_alloc ?_ _)); exact BK104.out⟩, ⟨(bC1 HB GE104.out)⟩⟩
      case round =>
       clear H'
       try clear c1
       try clear p1
       try clear q1
       try clear hx1
       try clear qi1
       try clear c2
       try clear p2
       try clear c3
       try clear c3b0
       try clear c3b1
       try clear c4
       try clear c4b0
       try clear c4b1
       try clear c5
       try clear c5b0
       try clear c5b1
       try clear c8
       try clear c9
       try clear c9b0
       try clear c9b1
       try clear c10
       try clear c10b0
       try clear c10b1
       try clear p10
       try clear q10
       try clear hx10
       try clear qi10
       try clear c15
       try clear q15
       try clear hcz12_0
       try clear hcz12_1
       try clear hfz12_0
       try clear hfz12_1
       try clear hx101_0
       try clear hx101_1
       try clear hx103_0
       try clear hx103_1
       try clear p1
       try clear p101
       try clear p103
       try clear p2
       try clear q1
       try clear q101
       try clear q103
       try clear q15
       obtain ⟨x5_2, x33_2, x105000_2, x105001_2, rfl, HA, HK2, HO_5, BK104, HB⟩ := hrel
       cases gk with
       | zero => exact absurd HA.out (by simp [impl_CodeStay.l0])
       | succ k2 =>
        have H := HA.out; clear HA; simp only [impl_CodeStay.l0] at H
        by_cases c16 : x33_2 < (y108.length : Int)
        ·rw [if_pos c16] at H
         have c16b0 : decide (x33_2 < (y108.length : Int)) = true := decide_eq_true c16; clear c16
         by_cases c17 : 0 ≤ x33_2
         ·rw [if_pos c17] at H
          have c17b0 : decide (0 ≤ x33_2) = true := decide_eq_true c17; clear c17
          by_cases c18 : x33_2 < (y108.length : Int)
          ·rw [if_pos c18] at H
           have c18b0 : decide (x33_2 < (y108.length : Int)) = true := decide_eq_true c18; clear c18; have HC19 := Aside0.mk H; clear H; have p113 : 0 ≤ (x33_2 : Int) := of_decide_eq_true bX; have q113 : x33_2 < (y108.length : Int) := of_decide_eq_true bX; obtain ⟨ad113, e113, hx113_0, hx113_1⟩ := at_T35 HR111.out x33_2 p113 q113
           cases e113
           replace hx113_0 := (HB.out.cell (World.block_lt_of_cell? w _ hx113_0)).trans hx113_0; replace hx113_1 := (HB.out.cell (World.block_lt_of_cell? w _ hx113_1)).trans hx113_1; replace p113 := eq_true p113; replace q113 := eq_true q113; go_upto_region 8 with (first | ((with_reducible refine gate_dst (N := 7) rfl ?_); (try (refine gate_guard (by rfl) ?_; dsimp only)); refine box_event ?hg (N := 7) ?hd (cs := #[.int .i64 0, .int .i64 0]) (t := 35) ?hr ?_; (case hd => rfl); (case hg => rfl); (case hr => first | (go_simp; done) | (go_simp; rfl)); intro gb114 hg w20 hbox hb; have n0_ := Aside0.mk (Kd.R_below (Kd.R_elderB (bR HO_5) gb114 (Nat.le_of_eq hg.symm)) hb); have n1_ := Aside0.mk (blk_below (g := gb104) (o := .cells #[.int .i64 x105000_2, .int .i64 x105001_2] 35 (0, 0)) (bA BK104) hb); have n2_ := Aside0.mk (below_step (bC1 HB GE104.out) hb); have n3_ := Aside0.mk (hbox); have n4_ := Aside0.mk ((by rw [hg]; exact (below_size (bC1 HB GE104.out)) : w.heap.size ≤ gb114)); have n5_ := Aside0.mk ((by rw [hg]; exact (below_size (bC1 HB GE104.out)) : w.heap.size ≤ gb114)); have n6_ := Aside0.mk ((by rw [hg]; exact Nat.ne_of_lt (blk_lt (g := gb104) (o := .cells #[.int .i64 x105000_2, .int .i64 x105001_2] 35 (0, 0)) (bA BK104)) : gb104 ≠ gb114)); have n7_ := Aside0.mk ((by rw [hg]; exact Nat.ne_of_gt (blk_lt (g := gb104) (o := .cells #[.int .i64 x105000_2, .int .i64 x105001_2] 35 (0, 0)) (bA BK104)) : gb114 ≠ gb104)); clear HO_5; clear BK104; clear HB; have HO_5 := n0_; have BK104 := n1_; have HB := n2_; have BK114 := n3_; have GW114 := n4_; have GE114 := n5_; have NB104_114 := n6_; have NB114_104 := n7_; clear n0_ n1_ n2_ n3_ n4_ n5_ n6_ n7_; clear hb hbox hg; have hnb21 := NB114_104.out; have hnc21 := NB104_114.out; have hcz22_0 : w20.cell? ⟨gb114, 0, none⟩ = some (.int .i64 0) := (blk_cell BK114.out 0).trans rfl; have hcz22_1 : w20.cell? ⟨gb114, 1, none⟩ = some (.int .i64 0) := (blk_cell BK114.out 1).trans rfl; have hfz22_0 := blk_frozen BK114.out 0; have hfz22_1 := blk_frozen BK114.out 1))
           repeat (go_quiet (first | ((with_reducible refine gate_dst (N := 7) rfl ?_); (try (refine gate_guard (by rfl) ?_; dsimp only)); refine box_event ?hg (N := 7) ?hd (cs := #[.int .i64 0, .int .i64 0]) (t := 35) ?hr ?_; (case hd => rfl); (case hg => rfl); (case hr => first | (go_simp; done) | (go_simp; rfl)); intro gb114 hg w20 hbox hb; have n0_ := Aside0.mk (Kd.R_below (Kd.R_elderB (bR HO_5) gb114 (Nat.le_of_eq hg.symm)) hb); have n1_ := Aside0.mk (blk_below (g := gb104) (o := .cells #[.int .i64 x105000_2, .int .i64 x105001_2] 35 (0, 0)) (bA BK104) hb); have n2_ := Aside0.mk (below_step (bC1 HB GE104.out) hb); have n3_ := Aside0.mk (hbox); have n4_ := Aside0.mk ((by rw [hg]; exact (below_size (bC1 HB GE104.out)) : w.heap.size ≤ gb114)); have n5_ := Aside0.mk ((by rw [hg]; exact (below_size (bC1 HB GE104.out)) : w.heap.size ≤ gb114)); have n6_ := Aside0.mk ((by rw [hg]; exact Nat.ne_of_lt (blk_lt (g := gb104) (o := .cells #[.int .i64 x105000_2, .int .i64 x105001_2] 35 (0, 0)) (bA BK104)) : gb104 ≠ gb114)); have n7_ := Aside0.mk ((by rw [hg]; exact Nat.ne_of_gt (blk_lt (g := gb104) (o := .cells #[.int .i64 x105000_2, .int .i64 x105001_2] 35 (0, 0)) (bA BK104)) : gb114 ≠ gb104)); clear HO_5; clear BK104; clear HB; have HO_5 := n0_; have BK104 := n1_; have HB := n2_; have BK114 := n3_; have GW114 := n4_; have GE114 := n5_; have NB104_114 := n6_; have NB114_104 := n7_; clear n0_ n1_ n2_ n3_ n4_ n5_ n6_ n7_; clear hb hbox hg; have hnb21 := NB114_104.out; have hnc21 := NB104_114.out; have hcz22_0 : w20.cell? ⟨gb114, 0, none⟩ = some (.int .i64 0) := (blk_cell BK114.out 0).trans rfl; have hcz22_1 : w20.cell? ⟨gb114, 1, none⟩ = some (.int .i64 0) := (blk_cell BK114.out 1).trans rfl; have hfz22_0 := blk_frozen BK114.out 0; have hfz22_1 := blk_frozen BK114.out 1)); go_upto_region 8 with (first | ((with_reducible refine gate_dst (N := 7) rfl ?_); (try (refine gate_guard (by rfl) ?_; dsimp only)); refine box_event ?hg (N := 7) ?hd (cs := #[.int .i64 0, .int .i64 0]) (t := 35) ?hr ?_; (case hd => rfl); (case hg => rfl); (case hr => first | (go_simp; done) | (go_simp; rfl)); intro gb114 hg w20 hbox hb; have n0_ := Aside0.mk (Kd.R_below (Kd.R_elderB (bR HO_5) gb114 (Nat.le_of_eq hg.symm)) hb); have n1_ := Aside0.mk (blk_below (g := gb104) (o := .cells #[.int .i64 x105000_2, .int .i64 x105001_2] 35 (0, 0)) (bA BK104) hb); have n2_ := Aside0.mk (below_step (bC1 HB GE104.out) hb); have n3_ := Aside0.mk (hbox); have n4_ := Aside0.mk ((by rw [hg]; exact (below_size (bC1 HB GE104.out)) : w.heap.size ≤ gb114)); have n5_ := Aside0.mk ((by rw [hg]; exact (below_size (bC1 HB GE104.out)) : w.heap.size ≤ gb114)); have n6_ := Aside0.mk ((by rw [hg]; exact Nat.ne_of_lt (blk_lt (g := gb104) (o := .cells #[.int .i64 x105000_2, .int .i64 x105001_2] 35 (0, 0)) (bA BK104)) : gb104 ≠ gb114)); have n7_ := Aside0.mk ((by rw [hg]; exact Nat.ne_of_gt (blk_lt (g := gb104) (o := .cells #[.int .i64 x105000_2, .int .i64 x105001_2] 35 (0, 0)) (bA BK104)) : gb114 ≠ gb104)); clear HO_5; clear BK104; clear HB; have HO_5 := n0_; have BK104 := n1_; have HB := n2_; have BK114 := n3_; have GW114 := n4_; have GE114 := n5_; have NB104_114 := n6_; have NB114_104 := n7_; clear n0_ n1_ n2_ n3_ n4_ n5_ n6_ n7_; clear hb hbox hg; have hnb21 := NB114_104.out; have hnc21 := NB104_114.out; have hcz22_0 : w20.cell? ⟨gb114, 0, none⟩ = some (.int .i64 0) := (blk_cell BK114.out 0).trans rfl; have hcz22_1 : w20.cell? ⟨gb114, 1, none⟩ = some (.int .i64 0) := (blk_cell BK114.out 1).trans rfl; have hfz22_0 := blk_frozen BK114.out 0; have hfz22_1 := blk_frozen BK114.out 1)))
           (try simp only [Act.put, List.setIfInBounds_toArray, List.set_cons_zero, List.set_cons_succ]); go_cut [58] (fun v58 wc => ∃ (kq : Nat) (x58_18 : Bool), v58 = .bool x58_18 ∧ Aside0 (impl_CodeStay.j2 kq x5_2 y108 (y108.length : Int) x33_2 x58_18 x105000_2 x105001_2 ((rd_T35 y108 x33_2).f0) ((rd_T35 y108 x33_2).f1) = some (r1, r2)) ∧ Aside0 (kq ≤ k2) ∧ Aside0 (Kd.R k35 35 wc w.heap.size (fun k_ => k_ ≠ gb104 ∧ k_ ≠ gb114) u5 x5_2) ∧ Aside0 (wc.heap[gb104]? = some (.cells #[.int .i64 x105000_2, .int .i64 x105001_2] 35 (0, 0))) ∧ Aside0 (wc.heap[gb114]? = some (.cells #[.int .i64 ((rd_T35 y108 x33_2).f0), .int .i64 ((rd_T35 y108 x33_2).f1)] 35 (0, 0))) ∧ Aside0 (Below w.heap.size w wc))
           case first =>
            have H := HC19.out; clear HC19; replace H := Option.bind_eq_some_iff.mp H; obtain ⟨t115, A230, H⟩ := H; replace H : (if t115 = true then (if (((rd_T35 y108 x33_2).f0) == x105000_2 && (((rd_T35 y108 x33_2).f1) == x105001_2)) = true then (impl_CodeStay.j2 k2 x5_2 y108 (y108.length : Int) x33_2 true x105000_2 x105001_2 ((rd_T35 y108 x33_2).f0) ((rd_T35 y108 x33_2).f1)) else (if ((rd_T35 y108 x33_2).f0) = x105000_2 then (impl_CodeStay.j2 k2 x5_2 y108 (y108.length : Int) x33_2 false x105000_2 x105001_2 ((rd_T35 y108 x33_2).f0) ((rd_T35 y108 x33_2).f1)) else (impl_CodeStay.j2 k2 x5_2 y108 (y108.length : Int) x33_2 (((rd_T35 y108 x33_2).f1) != x105001_2) x105000_2 x105001_2 ((rd_T35 y108 x33_2).f0) ((rd_T35 y108 x33_2).f1)))) else (impl_CodeStay.j2 k2 x5_2 y108 (y108.length : Int) x33_2 true x105000_2 x105001_2 ((rd_T35 y108 x33_2).f0) ((rd_T35 y108 x33_2).f1))) = some (r1, r2) := H; have A23 := Aside0.mk A230; clear A230
            by_cases c24 : t115 = true
            ·subst c24
             have H1 : (if (((rd_T35 y108 x33_2).f0) == x105000_2 && (((rd_T35 y108 x33_2).f1) == x105001_2)) = true then (impl_CodeStay.j2 k2 x5_2 y108 (y108.length : Int) x33_2 true x105000_2 x105001_2 ((rd_T35 y108 x33_2).f0) ((rd_T35 y108 x33_2).f1)) else (if ((rd_T35 y108 x33_2).f0) = x105000_2 then (impl_CodeStay.j2 k2 x5_2 y108 (y108.length : Int) x33_2 false x105000_2 x105001_2 ((rd_T35 y108 x33_2).f0) ((rd_T35 y108 x33_2).f1)) else (impl_CodeStay.j2 k2 x5_2 y108 (y108.length : Int) x33_2 (((rd_T35 y108 x33_2).f1) != x105001_2) x105000_2 x105001_2 ((rd_T35 y108 x33_2).f0) ((rd_T35 y108 x33_2).f1)))) = some (r1, r2) := by rw [if_pos rfl] at H; exact H
             clear H; have H := H1; clear H1
             by_cases c25 : (((rd_T35 y108 x33_2).f0) == x105000_2 && (((rd_T35 y108 x33_2).f1) == x105001_2)) = true
             ·rw [if_pos c25] at H
              have c25b0 : (((rd_T35 y108 x33_2).f0) == x105000_2 && (((rd_T35 y108 x33_2).f1) == x105001_2)) = true := c25; (try (have c25b1 : decide (((rd_T35 y108 x33_2).f0) = x105000_2 && (((rd_T35 y108 x33_2).f1) == x105001_2)) = true := by simpa using c25)); (try (have c25b2 : (((rd_T35 y108 x33_2).f0) == x105000_2 && (((rd_T35 y108 x33_2).f1) == x105001_2)) = true := by simpa using c25)); clear c25; (first | rw [c25b0] | (simp only [i64_w, i32_w]; rw [c25b0]) | skip); have H' := Aside0.mk H; clear H; have hnb26 := NB114_104.out; have hnc26 := NB104_114.out; have hcz27_0 : w20.cell? ⟨gb114, 0, none⟩ = some (.int .i64 0) := (blk_cell BK114.out 0).trans rfl; have hcz27_1 : w20.cell? ⟨gb114, 1, none⟩ = some (.int .i64 0) := (blk_cell BK114.out 1).trans rfl; have hfz27_0 := blk_frozen BK114.out 0; have hfz27_1 := blk_frozen BK114.out 1; go_wp2_with (first | (go_at_call 40; (with_reducible refine (impl_PtOk.calls ((rd_T35 y108 x33_2).f0) ((rd_T35 y108 x33_2).f1) true _ A23.out).mono ?_); rintro e w28 ⟨rfl, hb⟩; have n0_ := Aside0.mk (Kd.R_below (by (with_reducible repeat (first | apply Kd.R_alloc | apply Kd.R_drewN | apply Kd.R_drew)); exact (Kd.R_mono (Kd.R_far (p := ⟨gb114, 1, none⟩) (Kd.R_far (p := ⟨gb114, 0, none⟩) (Kd.R_mono HO_5.out (fun k_ hk => (⟨hk, hk.2⟩ : _ ∧ k_ ≠ gb114))) (fun _ hk => hk.2) (.int .i64 ((rd_T35 y108 x33_2).f0))) (fun _ hk => hk.2) (.int .i64 ((rd_T35 y108 x33_2).f1))) (fun _ h_ => h_.1))) hb); have n1_ := Aside0.mk (blk_below (g := gb104) (o := .cells #[.int .i64 x105000_2, .int .i64 x105001_2] 35 (0, 0)) (by (with_reducible repeat (first | refine blk_drewN ?_ _ | refine blk_drew ?_ | refine blk_alloc ?_ _)); refine blk_far ?_ NB104_114.out _; (with_reducible repeat (first | refine blk_drewN ?_ _ | refine blk_drew ?_ | refine blk_alloc ?_ _)); refine blk_far ?_ NB104_114.out _; (with_reducible repeat (first | refine blk_drewN ?_ _ | refine blk_drew ?_ | refine blk_alloc ?_ _)); exact BK104.out) hb); have n2_ := Aside0.mk (blk_below (g := gb114) (o := .cells #[.int .i64 ((rd_T35 y108 x33_2).f0), .int .i64 ((rd_T35 y108 x33_2).f1)] 35 (0, 0)) (by (with_reducible repeat (first | refine blk_drewN ?_ _ | refine blk_drew ?_ | refine blk_alloc ?_ _)); refine blk_put (cs := #[.int .i64 ((rd_T35 y108 x33_2).f0), .int .i64 0]) ?_ 1 _ rfl; (with_reducible repeat (first | refine blk_drewN ?_ _ | refine blk_drew ?_ | refine blk_alloc ?_ _)); refine blk_put (cs := #[.int .i64 0, .int .i64 0]) ?_ 0 _ rfl; (with_reducible repeat (first | refine blk_drewN ?_ _ | refine blk_drew ?_ | refine blk_alloc ?_ _)); exact BK114.out) hb); have n3_ := Aside0.mk (below_step (bC2 HB GE104.out GE114.out) hb); clear HO_5; clear BK104; clear BK114; clear HB; have HO_5 := n0_; have BK104 := n1_; have BK114 := n2_; have HB := n3_; clear n0_ n1_ n2_ n3_; (try clear hb); (try clear hb2); (try clear hk); (try clear hi); have hcz29_0 : w28.cell? ⟨gb114, 0, none⟩ = some (.int .i64 ((rd_T35 y108 x33_2).f0)) := (blk_cell BK114.out 0).trans rfl; have hcz29_1 : w28.cell? ⟨gb114, 1, none⟩ = some (.int .i64 ((rd_T35 y108 x33_2).f1)) := (blk_cell BK114.out 1).trans rfl; have hfz29_0 := blk_frozen BK114.out 0; have hfz29_1 := blk_frozen BK114.out 1; have hcz30_0 : w28.cell? ⟨gb104, 0, none⟩ = some (.int .i64 x105000_2) := (blk_cell BK104.out 0).trans rfl; have hcz30_1 : w28.cell? ⟨gb104, 1, none⟩ = some (.int .i64 x105001_2) := (blk_cell BK104.out 1).trans rfl; have hfz30_0 := blk_frozen BK104.out 0; have hfz30_1 := blk_frozen BK104.out 1))
              repeat (go_quiet (first | (go_at_call 40; (with_reducible refine (impl_PtOk.calls ((rd_T35 y108 x33_2).f0) ((rd_T35 y108 x33_2).f1) true _ A23.out).mono ?_); rintro e w28 ⟨rfl, hb⟩; have n0_ := Aside0.mk (Kd.R_below (by (with_reducible repeat (first | apply Kd.R_alloc | apply Kd.R_drewN | apply Kd.R_drew)); exact (Kd.R_mono (Kd.R_far (p := ⟨gb114, 1, none⟩) (Kd.R_far (p := ⟨gb114, 0, none⟩) (Kd.R_mono HO_5.out (fun k_ hk => (⟨hk, hk.2⟩ : _ ∧ k_ ≠ gb114))) (fun _ hk => hk.2) (.int .i64 ((rd_T35 y108 x33_2).f0))) (fun _ hk => hk.2) (.int .i64 ((rd_T35 y108 x33_2).f1))) (fun _ h_ => h_.1))) hb); have n1_ := Aside0.mk (blk_below (g := gb104) (o := .cells #[.int .i64 x105000_2, .int .i64 x105001_2] 35 (0, 0)) (by (with_reducible repeat (first | refine blk_drewN ?_ _ | refine blk_drew ?_ | refine blk_alloc ?_ _)); refine blk_far ?_ NB104_114.out _; (with_reducible repeat (first | refine blk_drewN ?_ _ | refine blk_drew ?_ | refine blk_alloc ?_ _)); refine blk_far ?_ NB104_114.out _; (with_reducible repeat (first | refine blk_drewN ?_ _ | refine blk_drew ?_ | refine blk_alloc ?_ _)); exact BK104.out) hb); have n2_ := Aside0.mk (blk_below (g := gb114) (o := .cells #[.int .i64 ((rd_T35 y108 x33_2).f0), .int .i64 ((rd_T35 y108 x33_2).f1)] 35 (0, 0)) (by (with_reducible repeat (first | refine blk_drewN ?_ _ | refine blk_drew ?_ | refine blk_alloc ?_ _)); refine blk_put (cs := #[.int .i64 ((rd_T35 y108 x33_2).f0), .int .i64 0]) ?_ 1 _ rfl; (with_reducible repeat (first | refine blk_drewN ?_ _ | refine blk_drew ?_ | refine blk_alloc ?_ _)); refine blk_put (cs := #[.int .i64 0, .int .i64 0]) ?_ 0 _ rfl; (with_reducible repeat (first | refine blk_drewN ?_ _ | refine blk_drew ?_ | refine blk_alloc ?_ _)); exact BK114.out) hb); have n3_ := Aside0.mk (below_step (bC2 HB GE104.out GE114.out) hb); clear HO_5; clear BK104; clear BK114; clear HB; have HO_5 := n0_; have BK104 := n1_; have BK114 := n2_; have HB := n3_; clear n0_ n1_ n2_ n3_; (try clear hb); (try clear hb2); (try clear hk); (try clear hi); have hcz29_0 : w28.cell? ⟨gb114, 0, none⟩ = some (.int .i64 ((rd_T35 y108 x33_2).f0)) := (blk_cell BK114.out 0).trans rfl; have hcz29_1 : w28.cell? ⟨gb114, 1, none⟩ = some (.int .i64 ((rd_T35 y108 x33_2).f1)) := (blk_cell BK114.out 1).trans rfl; have hfz29_0 := blk_frozen BK114.out 0; have hfz29_1 := blk_frozen BK114.out 1; have hcz30_0 : w28.cell? ⟨gb104, 0, none⟩ = some (.int .i64 x105000_2) := (blk_cell BK104.out 0).trans rfl; have hcz30_1 : w28.cell? ⟨gb104, 1, none⟩ = some (.int .i64 x105001_2) := (blk_cell BK104.out 1).trans rfl; have hfz30_0 := blk_frozen BK104.out 0; have hfz30_1 := blk_frozen BK104.out 1)); try go_wp2_with (first | (go_at_call 40; (with_reducible refine (impl_PtOk.calls ((rd_T35 y108 x33_2).f0) ((rd_T35 y108 x33_2).f1) true _ A23.out).mono ?_); rintro e w28 ⟨rfl, hb⟩; have n0_ := Aside0.mk (Kd.R_below (by (with_reducible repeat (first | apply Kd.R_alloc | apply Kd.R_drewN | apply Kd.R_drew)); exact (Kd.R_mono (Kd.R_far (p := ⟨gb114, 1, none⟩) (Kd.R_far (p := ⟨gb114, 0, none⟩) (Kd.R_mono HO_5.out (fun k_ hk => (⟨hk, hk.2⟩ : _ ∧ k_ ≠ gb114))) (fun _ hk => hk.2) (.int .i64 ((rd_T35 y108 x33_2).f0))) (fun _ hk => hk.2) (.int .i64 ((rd_T35 y108 x33_2).f1))) (fun _ h_ => h_.1))) hb); have n1_ := Aside0.mk (blk_below (g := gb104) (o := .cells #[.int .i64 x105000_2, .int .i64 x105001_2] 35 (0, 0)) (by (with_reducible repeat (first | refine blk_drewN ?_ _ | refine blk_drew ?_ | refine blk_alloc ?_ _)); refine blk_far ?_ NB104_114.out _; (with_reducible repeat (first | refine blk_drewN ?_ _ | refine blk_drew ?_ | refine blk_alloc ?_ _)); refine blk_far ?_ NB104_114.out _; (with_reducible repeat (first | refine blk_drewN ?_ _ | refine blk_drew ?_ | refine blk_alloc ?_ _)); exact BK104.out) hb); have n2_ := Aside0.mk (blk_below (g := gb114) (o := .cells #[.int .i64 ((rd_T35 y108 x33_2).f0), .int .i64 ((rd_T35 y108 x33_2).f1)] 35 (0, 0)) (by (with_reducible repeat (first | refine blk_drewN ?_ _ | refine blk_drew ?_ | refine blk_alloc ?_ _)); refine blk_put (cs := #[.int .i64 ((rd_T35 y108 x33_2).f0), .int .i64 0]) ?_ 1 _ rfl; (with_reducible repeat (first | refine blk_drewN ?_ _ | refine blk_drew ?_ | refine blk_alloc ?_ _)); refine blk_put (cs := #[.int .i64 0, .int .i64 0]) ?_ 0 _ rfl; (with_reducible repeat (first | refine blk_drewN ?_ _ | refine blk_drew ?_ | refine blk_alloc ?_ _)); exact BK114.out) hb); have n3_ := Aside0.mk (below_step (bC2 HB GE104.out GE114.out) hb); clear HO_5; clear BK104; clear BK114; clear HB; have HO_5 := n0_; have BK104 := n1_; have BK114 := n2_; have HB := n3_; clear n0_ n1_ n2_ n3_; (try clear hb); (try clear hb2); (try clear hk); (try clear hi); have hcz29_0 : w28.cell? ⟨gb114, 0, none⟩ = some (.int .i64 ((rd_T35 y108 x33_2).f0)) := (blk_cell BK114.out 0).trans rfl; have hcz29_1 : w28.cell? ⟨gb114, 1, none⟩ = some (.int .i64 ((rd_T35 y108 x33_2).f1)) := (blk_cell BK114.out 1).trans rfl; have hfz29_0 := blk_frozen BK114.out 0; have hfz29_1 := blk_frozen BK114.out 1; have hcz30_0 : w28.cell? ⟨gb104, 0, none⟩ = some (.int .i64 x105000_2) := (blk_cell BK104.out 0).trans rfl; have hcz30_1 : w28.cell? ⟨gb104, 1, none⟩ = some (.int .i64 x105001_2) := (blk_cell BK104.out 1).trans rfl; have hfz30_0 := blk_frozen BK104.out 0; have hfz30_1 := blk_frozen BK104.out 1)))
              go_meet
              case rel => exact ⟨_, (true), (by first | rfl | (simp; done) | (simp [*]; done)), H', ⟨by have := HJ1.out; have := HK2.out; first | omega | exact Nat.le_refl _⟩, ⟨by (with_reducible repeat (first | apply Kd.R_alloc | apply Kd.R_drewN | apply Kd.R_drew)); exact HO_5.out⟩, ⟨by (with_reducible repeat (first | refine blk_drewN ?_ _ | refine blk_drew ?_ | refine blk_alloc ?_ _)); exact BK104.out⟩, ⟨by (with_reducible repeat (first | refine blk_drewN ?_ _ | refine blk_drew ?_ | refine blk_alloc ?_ _)); exact BK114.out⟩, ⟨(bC2 HB GE104.out GE114.out)⟩⟩
             ·rw [if_neg c25] at H
              have c25b0 : (((rd_T35 y108 x33_2).f0) == x105000_2 && (((rd_T35 y108 x33_2).f1) == x105001_2)) = false := by simpa using c25
              (try (have c25b1 : decide (((rd_T35 y108 x33_2).f0) = x105000_2 && (((rd_T35 y108 x33_2).f1) == x105001_2)) = false := by simpa using c25)); (try (have c25b2 : (((rd_T35 y108 x33_2).f0) == x105000_2 && (((rd_T35 y108 x33_2).f1) == x105001_2)) = false := by simpa using c25)); (try (have c25b3 : ¬ (((rd_T35 y108 x33_2).f0) = x105000_2 && (((rd_T35 y108 x33_2).f1) == x105001_2)) := by simpa using c25)); clear c25; (first | rw [c25b0] | (simp only [i64_w, i32_w]; rw [c25b0]) | skip)
              by_cases c31 : ((rd_T35 y108 x33_2).f0) = x105000_2
              ·rw [if_pos c31] at H
               have c31b0 : (((rd_T35 y108 x33_2).f0) == x105000_2) = true := beq_iff_eq.mpr c31; (try (have c31x := c25b0; rw [c31b0, Bool.true_and] at c31x)); have c31b1 : (((rd_T35 y108 x33_2).f0) != x105000_2) = false := bne_eq_false_iff_eq.mpr c31; clear c31; have H' := Aside0.mk H; clear H; have hnb32 := NB114_104.out; have hnc32 := NB104_114.out; have hcz33_0 : w20.cell? ⟨gb114, 0, none⟩ = some (.int .i64 0) := (blk_cell BK114.out 0).trans rfl; have hcz33_1 : w20.cell? ⟨gb114, 1, none⟩ = some (.int .i64 0) := (blk_cell BK114.out 1).trans rfl; have hfz33_0 := blk_frozen BK114.out 0; have hfz33_1 := blk_frozen BK114.out 1; go_wp2_with (first | (go_at_call 40; (with_reducible refine (impl_PtOk.calls ((rd_T35 y108 x33_2).f0) ((rd_T35 y108 x33_2).f1) true _ A23.out).mono ?_); rintro e w34 ⟨rfl, hb⟩; have n0_ := Aside0.mk (Kd.R_below (by (with_reducible repeat (first | apply Kd.R_alloc | apply Kd.R_drewN | apply Kd.R_drew)); exact (Kd.R_mono (Kd.R_far (p := ⟨gb114, 1, none⟩) (Kd.R_far (p := ⟨gb114, 0, none⟩) (Kd.R_mono HO_5.out (fun k_ hk => (⟨hk, hk.2⟩ : _ ∧ k_ ≠ gb114))) (fun _ hk => hk.2) (.int .i64 ((rd_T35 y108 x33_2).f0))) (fun _ hk => hk.2) (.int .i64 ((rd_T35 y108 x33_2).f1))) (fun _ h_ => h_.1))) hb); have n1_ := Aside0.mk (blk_below (g := gb104) (o := .cells #[.int .i64 x105000_2, .int .i64 x105001_2] 35 (0, 0)) (by (with_reducible repeat (first | refine blk_drewN ?_ _ | refine blk_drew ?_ | refine blk_alloc ?_ _)); refine blk_far ?_ NB104_114.out _; (with_reducible repeat (first | refine blk_drewN ?_ _ | refine blk_drew ?_ | refine blk_alloc ?_ _)); refine blk_far ?_ NB104_114.out _; (with_reducible repeat (first | refine blk_drewN ?_ _ | refine blk_drew ?_ | refine blk_alloc ?_ _)); exact BK104.out) hb); have n2_ := Aside0.mk (blk_below (g := gb114) (o := .cells #[.int .i64 ((rd_T35 y108 x33_2).f0), .int .i64 ((rd_T35 y108 x33_2).f1)] 35 (0, 0)) (by (with_reducible repeat (first | refine blk_drewN ?_ _ | refine blk_drew ?_ | refine blk_alloc ?_ _)); refine blk_put (cs := #[.int .i64 ((rd_T35 y108 x33_2).f0), .int .i64 0]) ?_ 1 _ rfl; (with_reducible repeat (first | refine blk_drewN ?_ _ | refine blk_drew ?_ | refine blk_alloc ?_ _)); refine blk_put (cs := #[.int .i64 0, .int .i64 0]) ?_ 0 _ rfl; (with_reducible repeat (first | refine blk_drewN ?_ _ | refine blk_drew ?_ | refine blk_alloc ?_ _)); exact BK114.out) hb); have n3_ := Aside0.mk (below_step (bC2 HB GE104.out GE114.out) hb); clear HO_5; clear BK104; clear BK114; clear HB; have HO_5 := n0_; have BK104 := n1_; have BK114 := n2_; have HB := n3_; clear n0_ n1_ n2_ n3_; (try clear hb); (try clear hb2); (try clear hk); (try clear hi); have hcz35_0 : w34.cell? ⟨gb114, 0, none⟩ = some (.int .i64 ((rd_T35 y108 x33_2).f0)) := (blk_cell BK114.out 0).trans rfl; have hcz35_1 : w34.cell? ⟨gb114, 1, none⟩ = some (.int .i64 ((rd_T35 y108 x33_2).f1)) := (blk_cell BK114.out 1).trans rfl; have hfz35_0 := blk_frozen BK114.out 0; have hfz35_1 := blk_frozen BK114.out 1; have hcz36_0 : w34.cell? ⟨gb104, 0, none⟩ = some (.int .i64 x105000_2) := (blk_cell BK104.out 0).trans rfl; have hcz36_1 : w34.cell? ⟨gb104, 1, none⟩ = some (.int .i64 x105001_2) := (blk_cell BK104.out 1).trans rfl; have hfz36_0 := blk_frozen BK104.out 0; have hfz36_1 := blk_frozen BK104.out 1))
               repeat (go_quiet (first | (go_at_call 40; (with_reducible refine (impl_PtOk.calls ((rd_T35 y108 x33_2).f0) ((rd_T35 y108 x33_2).f1) true _ A23.out).mono ?_); rintro e w34 ⟨rfl, hb⟩; have n0_ := Aside0.mk (Kd.R_below (by (with_reducible repeat (first | apply Kd.R_alloc | apply Kd.R_drewN | apply Kd.R_drew)); exact (Kd.R_mono (Kd.R_far (p := ⟨gb114, 1, none⟩) (Kd.R_far (p := ⟨gb114, 0, none⟩) (Kd.R_mono HO_5.out (fun k_ hk => (⟨hk, hk.2⟩ : _ ∧ k_ ≠ gb114))) (fun _ hk => hk.2) (.int .i64 ((rd_T35 y108 x33_2).f0))) (fun _ hk => hk.2) (.int .i64 ((rd_T35 y108 x33_2).f1))) (fun _ h_ => h_.1))) hb); have n1_ := Aside0.mk (blk_below (g := gb104) (o := .cells #[.int .i64 x105000_2, .int .i64 x105001_2] 35 (0, 0)) (by (with_reducible repeat (first | refine blk_drewN ?_ _ | refine blk_drew ?_ | refine blk_alloc ?_ _)); refine blk_far ?_ NB104_114.out _; (with_reducible repeat (first | refine blk_drewN ?_ _ | refine blk_drew ?_ | refine blk_alloc ?_ _)); refine blk_far ?_ NB104_114.out _; (with_reducible repeat (first | refine blk_drewN ?_ _ | refine blk_drew ?_ | refine blk_alloc ?_ _)); exact BK104.out) hb); have n2_ := Aside0.mk (blk_below (g := gb114) (o := .cells #[.int .i64 ((rd_T35 y108 x33_2).f0), .int .i64 ((rd_T35 y108 x33_2).f1)] 35 (0, 0)) (by (with_reducible repeat (first | refine blk_drewN ?_ _ | refine blk_drew ?_ | refine blk_alloc ?_ _)); refine blk_put (cs := #[.int .i64 ((rd_T35 y108 x33_2).f0), .int .i64 0]) ?_ 1 _ rfl; (with_reducible repeat (first | refine blk_drewN ?_ _ | refine blk_drew ?_ | refine blk_alloc ?_ _)); refine blk_put (cs := #[.int .i64 0, .int .i64 0]) ?_ 0 _ rfl; (with_reducible repeat (first | refine blk_drewN ?_ _ | refine blk_drew ?_ | refine blk_alloc ?_ _)); exact BK114.out) hb); have n3_ := Aside0.mk (below_step (bC2 HB GE104.out GE114.out) hb); clear HO_5; clear BK104; clear BK114; clear HB; have HO_5 := n0_; have BK104 := n1_; have BK114 := n2_; have HB := n3_; clear n0_ n1_ n2_ n3_; (try clear hb); (try clear hb2); (try clear hk); (try clear hi); have hcz35_0 : w34.cell? ⟨gb114, 0, none⟩ = some (.int .i64 ((rd_T35 y108 x33_2).f0)) := (blk_cell BK114.out 0).trans rfl; have hcz35_1 : w34.cell? ⟨gb114, 1, none⟩ = some (.int .i64 ((rd_T35 y108 x33_2).f1)) := (blk_cell BK114.out 1).trans rfl; have hfz35_0 := blk_frozen BK114.out 0; have hfz35_1 := blk_frozen BK114.out 1; have hcz36_0 : w34.cell? ⟨gb104, 0, none⟩ = some (.int .i64 x105000_2) := (blk_cell BK104.out 0).trans rfl; have hcz36_1 : w34.cell? ⟨gb104, 1, none⟩ = some (.int .i64 x105001_2) := (blk_cell BK104.out 1).trans rfl; have hfz36_0 := blk_frozen BK104.out 0; have hfz36_1 := blk_frozen BK104.out 1)); try go_wp2_with (first | (go_at_call 40; (with_reducible refine (impl_PtOk.calls ((rd_T35 y108 x33_2).f0) ((rd_T35 y108 x33_2).f1) true _ A23.out).mono ?_); rintro e w34 ⟨rfl, hb⟩; have n0_ := Aside0.mk (Kd.R_below (by (with_reducible repeat (first | apply Kd.R_alloc | apply Kd.R_drewN | apply Kd.R_drew)); exact (Kd.R_mono (Kd.R_far (p := ⟨gb114, 1, none⟩) (Kd.R_far (p := ⟨gb114, 0, none⟩) (Kd.R_mono HO_5.out (fun k_ hk => (⟨hk, hk.2⟩ : _ ∧ k_ ≠ gb114))) (fun _ hk => hk.2) (.int .i64 ((rd_T35 y108 x33_2).f0))) (fun _ hk => hk.2) (.int .i64 ((rd_T35 y108 x33_2).f1))) (fun _ h_ => h_.1))) hb); have n1_ := Aside0.mk (blk_below (g := gb104) (o := .cells #[.int .i64 x105000_2, .int .i64 x105001_2] 35 (0, 0)) (by (with_reducible repeat (first | refine blk_drewN ?_ _ | refine blk_drew ?_ | refine blk_alloc ?_ _)); refine blk_far ?_ NB104_114.out _; (with_reducible repeat (first | refine blk_drewN ?_ _ | refine blk_drew ?_ | refine blk_alloc ?_ _)); refine blk_far ?_ NB104_114.out _; (with_reducible repeat (first | refine blk_drewN ?_ _ | refine blk_drew ?_ | refine blk_alloc ?_ _)); exact BK104.out) hb); have n2_ := Aside0.mk (blk_below (g := gb114) (o := .cells #[.int .i64 ((rd_T35 y108 x33_2).f0), .int .i64 ((rd_T35 y108 x33_2).f1)] 35 (0, 0)) (by (with_reducible repeat (first | refine blk_drewN ?_ _ | refine blk_drew ?_ | refine blk_alloc ?_ _)); refine blk_put (cs := #[.int .i64 ((rd_T35 y108 x33_2).f0), .int .i64 0]) ?_ 1 _ rfl; (with_reducible repeat (first | refine blk_drewN ?_ _ | refine blk_drew ?_ | refine blk_alloc ?_ _)); refine blk_put (cs := #[.int .i64 0, .int .i64 0]) ?_ 0 _ rfl; (with_reducible repeat (first | refine blk_drewN ?_ _ | refine blk_drew ?_ | refine blk_alloc ?_ _)); exact BK114.out) hb); have n3_ := Aside0.mk (below_step (bC2 HB GE104.out GE114.out) hb); clear HO_5; clear BK104; clear BK114; clear HB; have HO_5 := n0_; have BK104 := n1_; have BK114 := n2_; have HB := n3_; clear n0_ n1_ n2_ n3_; (try clear hb); (try clear hb2); (try clear hk); (try clear hi); have hcz35_0 : w34.cell? ⟨gb114, 0, none⟩ = some (.int .i64 ((rd_T35 y108 x33_2).f0)) := (blk_cell BK114.out 0).trans rfl; have hcz35_1 : w34.cell? ⟨gb114, 1, none⟩ = some (.int .i64 ((rd_T35 y108 x33_2).f1)) := (blk_cell BK114.out 1).trans rfl; have hfz35_0 := blk_frozen BK114.out 0; have hfz35_1 := blk_frozen BK114.out 1; have hcz36_0 : w34.cell? ⟨gb104, 0, none⟩ = some (.int .i64 x105000_2) := (blk_cell BK104.out 0).trans rfl; have hcz36_1 : w34.cell? ⟨gb104, 1, none⟩ = some (.int .i64 x105001_2) := (blk_cell BK104.out 1).trans rfl; have hfz36_0 := blk_frozen BK104.out 0; have hfz36_1 := blk_frozen BK104.out 1)))
               go_meet
               case rel => exact ⟨_, (false), (by first | rfl | (simp; done) | (simp [*]; done)), H', ⟨by have := HJ1.out; have := HK2.out; first | omega | exact Nat.le_refl _⟩, ⟨by (with_reducible repeat (first | apply Kd.R_alloc | apply Kd.R_drewN | apply Kd.R_drew)); exact HO_5.out⟩, ⟨by (with_reducible repeat (first | refine blk_drewN ?_ _ | refine blk_drew ?_ | refine blk_alloc ?_ _)); exact BK104.out⟩, ⟨by (with_reducible repeat (first | refine blk_drewN ?_ _ | refine blk_drew ?_ | refine blk_alloc ?_ _)); exact BK114.out⟩, ⟨(bC2 HB GE104.out GE114.out)⟩⟩
              ·rw [if_neg c31] at H
               have c31b0 : (((rd_T35 y108 x33_2).f0) == x105000_2) = false := beq_eq_false_iff_ne.mpr c31; have c31b1 : (((rd_T35 y108 x33_2).f0) != x105000_2) = true := bne_iff_ne.mpr c31; have H' := Aside0.mk H; clear H; have hnb37 := NB114_104.out; have hnc37 := NB104_114.out; have hcz38_0 : w20.cell? ⟨gb114, 0, none⟩ = some (.int .i64 0) := (blk_cell BK114.out 0).trans rfl; have hcz38_1 : w20.cell? ⟨gb114, 1, none⟩ = some (.int .i64 0) := (blk_cell BK114.out 1).trans rfl; have hfz38_0 := blk_frozen BK114.out 0; have hfz38_1 := blk_frozen BK114.out 1; go_wp2_with (first | (go_at_call 40; (with_reducible refine (impl_PtOk.calls ((rd_T35 y108 x33_2).f0) ((rd_T35 y108 x33_2).f1) true _ A23.out).mono ?_); rintro e w39 ⟨rfl, hb⟩; have n0_ := Aside0.mk (Kd.R_below (by (with_reducible repeat (first | apply Kd.R_alloc | apply Kd.R_drewN | apply Kd.R_drew)); exact (Kd.R_mono (Kd.R_far (p := ⟨gb114, 1, none⟩) (Kd.R_far (p := ⟨gb114, 0, none⟩) (Kd.R_mono HO_5.out (fun k_ hk => (⟨hk, hk.2⟩ : _ ∧ k_ ≠ gb114))) (fun _ hk => hk.2) (.int .i64 ((rd_T35 y108 x33_2).f0))) (fun _ hk => hk.2) (.int .i64 ((rd_T35 y108 x33_2).f1))) (fun _ h_ => h_.1))) hb); have n1_ := Aside0.mk (blk_below (g := gb104) (o := .cells #[.int .i64 x105000_2, .int .i64 x105001_2] 35 (0, 0)) (by (with_reducible repeat (first | refine blk_drewN ?_ _ | refine blk_drew ?_ | refine blk_alloc ?_ _)); refine blk_far ?_ NB104_114.out _; (with_reducible repeat (first | refine blk_drewN ?_ _ | refine blk_drew ?_ | refine blk_alloc ?_ _)); refine blk_far ?_ NB104_114.out _; (with_reducible repeat (first | refine blk_drewN ?_ _ | refine blk_drew ?_ | refine blk_alloc ?_ _)); exact BK104.out) hb); have n2_ := Aside0.mk (blk_below (g := gb114) (o := .cells #[.int .i64 ((rd_T35 y108 x33_2).f0), .int .i64 ((rd_T35 y108 x33_2).f1)] 35 (0, 0)) (by (with_reducible repeat (first | refine blk_drewN ?_ _ | refine blk_drew ?_ | refine blk_alloc ?_ _)); refine blk_put (cs := #[.int .i64 ((rd_T35 y108 x33_2).f0), .int .i64 0]) ?_ 1 _ rfl; (with_reducible repeat (first | refine blk_drewN ?_ _ | refine blk_drew ?_ | refine blk_alloc ?_ _)); refine blk_put (cs := #[.int .i64 0, .int .i64 0]) ?_ 0 _ rfl; (with_reducible repeat (first | refine blk_drewN ?_ _ | refine blk_drew ?_ | refine blk_alloc ?_ _)); exact BK114.out) hb); have n3_ := Aside0.mk (below_step (bC2 HB GE104.out GE114.out) hb); clear HO_5; clear BK104; clear BK114; clear HB; have HO_5 := n0_; have BK104 := n1_; have BK114 := n2_; have HB := n3_; clear n0_ n1_ n2_ n3_; (try clear hb); (try clear hb2); (try clear hk); (try clear hi); have hcz40_0 : w39.cell? ⟨gb114, 0, none⟩ = some (.int .i64 ((rd_T35 y108 x33_2).f0)) := (blk_cell BK114.out 0).trans rfl; have hcz40_1 : w39.cell? ⟨gb114, 1, none⟩ = some (.int .i64 ((rd_T35 y108 x33_2).f1)) := (blk_cell BK114.out 1).trans rfl; have hfz40_0 := blk_frozen BK114.out 0; have hfz40_1 := blk_frozen BK114.out 1; have hcz41_0 : w39.cell? ⟨gb104, 0, none⟩ = some (.int .i64 x105000_2) := (blk_cell BK104.out 0).trans rfl; have hcz41_1 : w39.cell? ⟨gb104, 1, none⟩ = some (.int .i64 x105001_2) := (blk_cell BK104.out 1).trans rfl; have hfz41_0 := blk_frozen BK104.out 0; have hfz41_1 := blk_frozen BK104.out 1))
               repeat (go_quiet (first | (go_at_call 40; (with_reducible refine (impl_PtOk.calls ((rd_T35 y108 x33_2).f0) ((rd_T35 y108 x33_2).f1) true _ A23.out).mono ?_); rintro e w39 ⟨rfl, hb⟩; have n0_ := Aside0.mk (Kd.R_below (by (with_reducible repeat (first | apply Kd.R_alloc | apply Kd.R_drewN | apply Kd.R_drew)); exact (Kd.R_mono (Kd.R_far (p := ⟨gb114, 1, none⟩) (Kd.R_far (p := ⟨gb114, 0, none⟩) (Kd.R_mono HO_5.out (fun k_ hk => (⟨hk, hk.2⟩ : _ ∧ k_ ≠ gb114))) (fun _ hk => hk.2) (.int .i64 ((rd_T35 y108 x33_2).f0))) (fun _ hk => hk.2) (.int .i64 ((rd_T35 y108 x33_2).f1))) (fun _ h_ => h_.1))) hb); have n1_ := Aside0.mk (blk_below (g := gb104) (o := .cells #[.int .i64 x105000_2, .int .i64 x105001_2] 35 (0, 0)) (by (with_reducible repeat (first | refine blk_drewN ?_ _ | refine blk_drew ?_ | refine blk_alloc ?_ _)); refine blk_far ?_ NB104_114.out _; (with_reducible repeat (first | refine blk_drewN ?_ _ | refine blk_drew ?_ | refine blk_alloc ?_ _)); refine blk_far ?_ NB104_114.out _; (with_reducible repeat (first | refine blk_drewN ?_ _ | refine blk_drew ?_ | refine blk_alloc ?_ _)); exact BK104.out) hb); have n2_ := Aside0.mk (blk_below (g := gb114) (o := .cells #[.int .i64 ((rd_T35 y108 x33_2).f0), .int .i64 ((rd_T35 y108 x33_2).f1)] 35 (0, 0)) (by (with_reducible repeat (first | refine blk_drewN ?_ _ | refine blk_drew ?_ | refine blk_alloc ?_ _)); refine blk_put (cs := #[.int .i64 ((rd_T35 y108 x33_2).f0), .int .i64 0]) ?_ 1 _ rfl; (with_reducible repeat (first | refine blk_drewN ?_ _ | refine blk_drew ?_ | refine blk_alloc ?_ _)); refine blk_put (cs := #[.int .i64 0, .int .i64 0]) ?_ 0 _ rfl; (with_reducible repeat (first | refine blk_drewN ?_ _ | refine blk_drew ?_ | refine blk_alloc ?_ _)); exact BK114.out) hb); have n3_ := Aside0.mk (below_step (bC2 HB GE104.out GE114.out) hb); clear HO_5; clear BK104; clear BK114; clear HB; have HO_5 := n0_; have BK104 := n1_; have BK114 := n2_; have HB := n3_; clear n0_ n1_ n2_ n3_; (try clear hb); (try clear hb2); (try clear hk); (try clear hi); have hcz40_0 : w39.cell? ⟨gb114, 0, none⟩ = some (.int .i64 ((rd_T35 y108 x33_2).f0)) := (blk_cell BK114.out 0).trans rfl; have hcz40_1 : w39.cell? ⟨gb114, 1, none⟩ = some (.int .i64 ((rd_T35 y108 x33_2).f1)) := (blk_cell BK114.out 1).trans rfl; have hfz40_0 := blk_frozen BK114.out 0; have hfz40_1 := blk_frozen BK114.out 1; have hcz41_0 : w39.cell? ⟨gb104, 0, none⟩ = some (.int .i64 x105000_2) := (blk_cell BK104.out 0).trans rfl; have hcz41_1 : w39.cell? ⟨gb104, 1, none⟩ = some (.int .i64 x105001_2) := (blk_cell BK104.out 1).trans rfl; have hfz41_0 := blk_frozen BK104.out 0; have hfz41_1 := blk_frozen BK104.out 1)); try go_wp2_with (first | (go_at_call 40; (with_reducible refine (impl_PtOk.calls ((rd_T35 y108 x33_2).f0) ((rd_T35 y108 x33_2).f1) true _ A23.out).mono ?_); rintro e w39 ⟨rfl, hb⟩; have n0_ := Aside0.mk (Kd.R_below (by (with_reducible repeat (first | apply Kd.R_alloc | apply Kd.R_drewN | apply Kd.R_drew)); exact (Kd.R_mono (Kd.R_far (p := ⟨gb114, 1, none⟩) (Kd.R_far (p := ⟨gb114, 0, none⟩) (Kd.R_mono HO_5.out (fun k_ hk => (⟨hk, hk.2⟩ : _ ∧ k_ ≠ gb114))) (fun _ hk => hk.2) (.int .i64 ((rd_T35 y108 x33_2).f0))) (fun _ hk => hk.2) (.int .i64 ((rd_T35 y108 x33_2).f1))) (fun _ h_ => h_.1))) hb); have n1_ := Aside0.mk (blk_below (g := gb104) (o := .cells #[.int .i64 x105000_2, .int .i64 x105001_2] 35 (0, 0)) (by (with_reducible repeat (first | refine blk_drewN ?_ _ | refine blk_drew ?_ | refine blk_alloc ?_ _)); refine blk_far ?_ NB104_114.out _; (with_reducible repeat (first | refine blk_drewN ?_ _ | refine blk_drew ?_ | refine blk_alloc ?_ _)); refine blk_far ?_ NB104_114.out _; (with_reducible repeat (first | refine blk_drewN ?_ _ | refine blk_drew ?_ | refine blk_alloc ?_ _)); exact BK104.out) hb); have n2_ := Aside0.mk (blk_below (g := gb114) (o := .cells #[.int .i64 ((rd_T35 y108 x33_2).f0), .int .i64 ((rd_T35 y108 x33_2).f1)] 35 (0, 0)) (by (with_reducible repeat (first | refine blk_drewN ?_ _ | refine blk_drew ?_ | refine blk_alloc ?_ _)); refine blk_put (cs := #[.int .i64 ((rd_T35 y108 x33_2).f0), .int .i64 0]) ?_ 1 _ rfl; (with_reducible repeat (first | refine blk_drewN ?_ _ | refine blk_drew ?_ | refine blk_alloc ?_ _)); refine blk_put (cs := #[.int .i64 0, .int .i64 0]) ?_ 0 _ rfl; (with_reducible repeat (first | refine blk_drewN ?_ _ | refine blk_drew ?_ | refine blk_alloc ?_ _)); exact BK114.out) hb); have n3_ := Aside0.mk (below_step (bC2 HB GE104.out GE114.out) hb); clear HO_5; clear BK104; clear BK114; clear HB; have HO_5 := n0_; have BK104 := n1_; have BK114 := n2_; have HB := n3_; clear n0_ n1_ n2_ n3_; (try clear hb); (try clear hb2); (try clear hk); (try clear hi); have hcz40_0 : w39.cell? ⟨gb114, 0, none⟩ = some (.int .i64 ((rd_T35 y108 x33_2).f0)) := (blk_cell BK114.out 0).trans rfl; have hcz40_1 : w39.cell? ⟨gb114, 1, none⟩ = some (.int .i64 ((rd_T35 y108 x33_2).f1)) := (blk_cell BK114.out 1).trans rfl; have hfz40_0 := blk_frozen BK114.out 0; have hfz40_1 := blk_frozen BK114.out 1; have hcz41_0 : w39.cell? ⟨gb104, 0, none⟩ = some (.int .i64 x105000_2) := (blk_cell BK104.out 0).trans rfl; have hcz41_1 : w39.cell? ⟨gb104, 1, none⟩ = some (.int .i64 x105001_2) := (blk_cell BK104.out 1).trans rfl; have hfz41_0 := blk_frozen BK104.out 0; have hfz41_1 := blk_frozen BK104.out 1)))
               go_meet
               case rel => exact ⟨_, ((((rd_T35 y108 x33_2).f1) != x105001_2)), (by first | rfl | (simp; done) | (simp [*]; done)), H', ⟨by have := HJ1.out; have := HK2.out; first | omega | exact Nat.le_refl _⟩, ⟨by (with_reducible repeat (first | apply Kd.R_alloc | apply Kd.R_drewN | apply Kd.R_drew)); exact HO_5.out⟩, ⟨by (with_reducible repeat (first | refine blk_drewN ?_ _ | refine blk_drew ?_ | refine blk_alloc ?_ _)); exact BK104.out⟩, ⟨by (with_reducible repeat (first | refine blk_drewN ?_ _ | refine blk_drew ?_ | refine blk_alloc ?_ _)); exact BK114.out⟩, ⟨(bC2 HB GE104.out GE114.out)⟩⟩
            ·replace c24 := Bool.eq_false_iff.mpr c24
             subst c24
             have H1 : (impl_CodeStay.j2 k2 x5_2 y108 (y108.length : Int) x33_2 true x105000_2 x105001_2 ((rd_T35 y108 x33_2).f0) ((rd_T35 y108 x33_2).f1)) = some (r1, r2) := by rw [if_neg (show ¬ (false = true) by decide)] at H; exact H
             clear H; have H := H1; clear H1; have H' := Aside0.mk H; clear H; have hnb42 := NB114_104.out; have hnc42 := NB104_114.out; have hcz43_0 : w20.cell? ⟨gb114, 0, none⟩ = some (.int .i64 0) := (blk_cell BK114.out 0).trans rfl; have hcz43_1 : w20.cell? ⟨gb114, 1, none⟩ = some (.int .i64 0) := (blk_cell BK114.out 1).trans rfl; have hfz43_0 := blk_frozen BK114.out 0; have hfz43_1 := blk_frozen BK114.out 1; go_wp2_with (first | (go_at_call 40; (with_reducible refine (impl_PtOk.calls ((rd_T35 y108 x33_2).f0) ((rd_T35 y108 x33_2).f1) false _ A23.out).mono ?_); rintro e w44 ⟨rfl, hb⟩; have n0_ := Aside0.mk (Kd.R_below (by (with_reducible repeat (first | apply Kd.R_alloc | apply Kd.R_drewN | apply Kd.R_drew)); exact (Kd.R_mono (Kd.R_far (p := ⟨gb114, 1, none⟩) (Kd.R_far (p := ⟨gb114, 0, none⟩) (Kd.R_mono HO_5.out (fun k_ hk => (⟨hk, hk.2⟩ : _ ∧ k_ ≠ gb114))) (fun _ hk => hk.2) (.int .i64 ((rd_T35 y108 x33_2).f0))) (fun _ hk => hk.2) (.int .i64 ((rd_T35 y108 x33_2).f1))) (fun _ h_ => h_.1))) hb); have n1_ := Aside0.mk (blk_below (g := gb104) (o := .cells #[.int .i64 x105000_2, .int .i64 x105001_2] 35 (0, 0)) (by (with_reducible repeat (first | refine blk_drewN ?_ _ | refine blk_drew ?_ | refine blk_alloc ?_ _)); refine blk_far ?_ NB104_114.out _; (with_reducible repeat (first | refine blk_drewN ?_ _ | refine blk_drew ?_ | refine blk_alloc ?_ _)); refine blk_far ?_ NB104_114.out _; (with_reducible repeat (first | refine blk_drewN ?_ _ | refine blk_drew ?_ | refine blk_alloc ?_ _)); exact BK104.out) hb); have n2_ := Aside0.mk (blk_below (g := gb114) (o := .cells #[.int .i64 ((rd_T35 y108 x33_2).f0), .int .i64 ((rd_T35 y108 x33_2).f1)] 35 (0, 0)) (by (with_reducible repeat (first | refine blk_drewN ?_ _ | refine blk_drew ?_ | refine blk_alloc ?_ _)); refine blk_put (cs := #[.int .i64 ((rd_T35 y108 x33_2).f0), .int .i64 0]) ?_ 1 _ rfl; (with_reducible repeat (first | refine blk_drewN ?_ _ | refine blk_drew ?_ | refine blk_alloc ?_ _)); refine blk_put (cs := #[.int .i64 0, .int .i64 0]) ?_ 0 _ rfl; (with_reducible repeat (first | refine blk_drewN ?_ _ | refine blk_drew ?_ | refine blk_alloc ?_ _)); exact BK114.out) hb); have n3_ := Aside0.mk (below_step (bC2 HB GE104.out GE114.out) hb); clear HO_5; clear BK104; clear BK114; clear HB; have HO_5 := n0_; have BK104 := n1_; have BK114 := n2_; have HB := n3_; clear n0_ n1_ n2_ n3_; (try clear hb); (try clear hb2); (try clear hk); (try clear hi)))
             repeat (go_quiet (first | (go_at_call 40; (with_reducible refine (impl_PtOk.calls ((rd_T35 y108 x33_2).f0) ((rd_T35 y108 x33_2).f1) false _ A23.out).mono ?_); rintro e w44 ⟨rfl, hb⟩; have n0_ := Aside0.mk (Kd.R_below (by (with_reducible repeat (first | apply Kd.R_alloc | apply Kd.R_drewN | apply Kd.R_drew)); exact (Kd.R_mono (Kd.R_far (p := ⟨gb114, 1, none⟩) (Kd.R_far (p := ⟨gb114, 0, none⟩) (Kd.R_mono HO_5.out (fun k_ hk => (⟨hk, hk.2⟩ : _ ∧ k_ ≠ gb114))) (fun _ hk => hk.2) (.int .i64 ((rd_T35 y108 x33_2).f0))) (fun _ hk => hk.2) (.int .i64 ((rd_T35 y108 x33_2).f1))) (fun _ h_ => h_.1))) hb); have n1_ := Aside0.mk (blk_below (g := gb104) (o := .cells #[.int .i64 x105000_2, .int .i64 x105001_2] 35 (0, 0)) (by (with_reducible repeat (first | refine blk_drewN ?_ _ | refine blk_drew ?_ | refine blk_alloc ?_ _)); refine blk_far ?_ NB104_114.out _; (with_reducible repeat (first | refine blk_drewN ?_ _ | refine blk_drew ?_ | refine blk_alloc ?_ _)); refine blk_far ?_ NB104_114.out _; (with_reducible repeat (first | refine blk_drewN ?_ _ | refine blk_drew ?_ | refine blk_alloc ?_ _)); exact BK104.out) hb); have n2_ := Aside0.mk (blk_below (g := gb114) (o := .cells #[.int .i64 ((rd_T35 y108 x33_2).f0), .int .i64 ((rd_T35 y108 x33_2).f1)] 35 (0, 0)) (by (with_reducible repeat (first | refine blk_drewN ?_ _ | refine blk_drew ?_ | refine blk_alloc ?_ _)); refine blk_put (cs := #[.int .i64 ((rd_T35 y108 x33_2).f0), .int .i64 0]) ?_ 1 _ rfl; (with_reducible repeat (first | refine blk_drewN ?_ _ | refine blk_drew ?_ | refine blk_alloc ?_ _)); refine blk_put (cs := #[.int .i64 0, .int .i64 0]) ?_ 0 _ rfl; (with_reducible repeat (first | refine blk_drewN ?_ _ | refine blk_drew ?_ | refine blk_alloc ?_ _)); exact BK114.out) hb); have n3_ := Aside0.mk (below_step (bC2 HB GE104.out GE114.out) hb); clear HO_5; clear BK104; clear BK114; clear HB; have HO_5 := n0_; have BK104 := n1_; have BK114 := n2_; have HB := n3_; clear n0_ n1_ n2_ n3_; (try clear hb); (try clear hb2); (try clear hk); (try clear hi))); try go_wp2_with (first | (go_at_call 40; (with_reducible refine (impl_PtOk.calls ((rd_T35 y108 x33_2).f0) ((rd_T35 y108 x33_2).f1) false _ A23.out).mono ?_); rintro e w44 ⟨rfl, hb⟩; have n0_ := Aside0.mk (Kd.R_below (by (with_reducible repeat (first | apply Kd.R_alloc | apply Kd.R_drewN | apply Kd.R_drew)); exact (Kd.R_mono (Kd.R_far (p := ⟨gb114, 1, none⟩) (Kd.R_far (p := ⟨gb114, 0, none⟩) (Kd.R_mono HO_5.out (fun k_ hk => (⟨hk, hk.2⟩ : _ ∧ k_ ≠ gb114))) (fun _ hk => hk.2) (.int .i64 ((rd_T35 y108 x33_2).f0))) (fun _ hk => hk.2) (.int .i64 ((rd_T35 y108 x33_2).f1))) (fun _ h_ => h_.1))) hb); have n1_ := Aside0.mk (blk_below (g := gb104) (o := .cells #[.int .i64 x105000_2, .int .i64 x105001_2] 35 (0, 0)) (by (with_reducible repeat (first | refine blk_drewN ?_ _ | refine blk_drew ?_ | refine blk_alloc ?_ _)); refine blk_far ?_ NB104_114.out _; (with_reducible repeat (first | refine blk_drewN ?_ _ | refine blk_drew ?_ | refine blk_alloc ?_ _)); refine blk_far ?_ NB104_114.out _; (with_reducible repeat (first | refine blk_drewN ?_ _ | refine blk_drew ?_ | refine blk_alloc ?_ _)); exact BK104.out) hb); have n2_ := Aside0.mk (blk_below (g := gb114) (o := .cells #[.int .i64 ((rd_T35 y108 x33_2).f0), .int .i64 ((rd_T35 y108 x33_2).f1)] 35 (0, 0)) (by (with_reducible repeat (first | refine blk_drewN ?_ _ | refine blk_drew ?_ | refine blk_alloc ?_ _)); refine blk_put (cs := #[.int .i64 ((rd_T35 y108 x33_2).f0), .int .i64 0]) ?_ 1 _ rfl; (with_reducible repeat (first | refine blk_drewN ?_ _ | refine blk_drew ?_ | refine blk_alloc ?_ _)); refine blk_put (cs := #[.int .i64 0, .int .i64 0]) ?_ 0 _ rfl; (with_reducible repeat (first | refine blk_drewN ?_ _ | refine blk_drew ?_ | refine blk_alloc ?_ _)); exact BK114.out) hb); have n3_ := Aside0.mk (below_step (bC2 HB GE104.out GE114.out) hb); clear HO_5; clear BK104; clear BK114; clear HB; have HO_5 := n0_; have BK104 := n1_; have BK114 := n2_; have HB := n3_; clear n0_ n1_ n2_ n3_; (try clear hb); (try clear hb2); (try clear hk); (try clear hi))))
             go_meet
             case rel => exact ⟨_, (true), (by first | rfl | (simp; done) | (simp [*]; done)), H', ⟨by have := HJ1.out; have := HK2.out; first | omega | exact Nat.le_refl _⟩, ⟨by (with_reducible repeat (first | apply Kd.R_alloc | apply Kd.R_drewN | apply Kd.R_drew)); exact HO_5.out⟩, ⟨by (with_reducible repeat (first | refine blk_drewN ?_ _ | refine blk_drew ?_ | refine blk_alloc ?_ _)); exact BK104.out⟩, ⟨by (with_reducible repeat (first | refine blk_drewN ?_ _ | refine blk_drew ?_ | refine blk_alloc ?_ _)); exact BK114.out⟩, ⟨(bC2 HB GE104.out GE114.out)⟩⟩
           case rest =>
            clear HC19
            try clear c1
            try clear p1
            try clear q1
            try clear hx1
            try clear qi1
            try clear c2
            try clear p2
            try clear c3
            try clear c3b0
            try clear c3b1
            try clear c4
            try clear c4b0
            try clear c4b1
            try clear c5
            try clear c5b0
            try clear c5b1
            try clear c8
            try clear c9
            try clear c9b0
            try clear c9b1
            try clear c10
            try clear c10b0
            try clear c10b1
            try clear p10
            try clear q10
            try clear hx10
            try clear qi10
            try clear p11
            try clear q11
            try clear hx11
            try clear c15
            try clear q15
            try clear c16
            try clear c16b0
            try clear c17
            try clear c17b0
            try clear c18
            try clear c18b0
            try clear c20
            try clear c21
            try clear c24
            try clear c25
            try clear c25b0
            try clear c25b1
            try clear c25b2
            try clear c26
            try clear c31
            try clear c31b0
            try clear c31b1
            try clear c32
            try clear c37
            try clear c42
            try clear hcz12_0
            try clear hcz12_1
            try clear hcz22_0
            try clear hcz22_1
            try clear hcz27_0
            try clear hcz27_1
            try clear hcz29_0
            try clear hcz29_1
            try clear hcz30_0
            try clear hcz30_1
            try clear hcz33_0
            try clear hcz33_1
            try clear hcz35_0
            try clear hcz35_1
            try clear hcz36_0
            try clear hcz36_1
            try clear hcz38_0
            try clear hcz38_1
            try clear hcz40_0
            try clear hcz40_1
            try clear hcz41_0
            try clear hcz41_1
            try clear hcz43_0
            try clear hcz43_1
            try clear hfz12_0
            try clear hfz12_1
            try clear hfz22_0
            try clear hfz22_1
            try clear hfz27_0
            try clear hfz27_1
            try clear hfz29_0
            try clear hfz29_1
            try clear hfz30_0
            try clear hfz30_1
            try clear hfz33_0
            try clear hfz33_1
            try clear hfz35_0
            try clear hfz35_1
            try clear hfz36_0
            try clear hfz36_1
            try clear hfz38_0
            try clear hfz38_1
            try clear hfz40_0
            try clear hfz40_1
            try clear hfz41_0
            try clear hfz41_1
            try clear hfz43_0
            try clear hfz43_1
            try clear hx101_0
            try clear hx101_1
            try clear hx103_0
            try clear hx103_1
            try clear hx113_0
            try clear hx113_1
            try clear p1
            try clear p10
            try clear p101
            try clear p103
            try clear p113
            try clear p2
            try clear q1
            try clear q10
            try clear q101
            try clear q103
            try clear q113
            try clear q15
            obtain ⟨kq, x58_18, rfl, HA, HJ18, HO_5, BK104, BK114, HB⟩ := hcut
            cases kq with
            | zero => exact absurd HA.out (by simp [impl_CodeStay.j2])
            | succ kj18 =>
             have H := HA.out; clear HA; simp only [impl_CodeStay.j2] at H
             by_cases c45 : x58_18 = true
             ·subst c45
              have H1 : (some (([] : List (S35)), false)) = some (r1, r2) := by rw [if_pos rfl] at H; exact H
              clear H; have H := H1; clear H1; simp only [Option.some.injEq, Prod.mk.injEq] at H; obtain ⟨rfl, rfl⟩ := H; go_wp2
              repeat (go_quiet (fail); try go_wp2)
              go_ret2
              exact ⟨_, bE, by first | exact Kd.R_nil _ _ _ _ _ | exact Kd.N_nil _ _ _ _ _ | exact Kd.V_nil _ _ _ _ _ | exact Kd.Q_nil _ _ _ _ _ | exact Kd.S_nil _ _ _ _ _, (bC2 HB GE104.out GE114.out)⟩
             ·replace c45 := Bool.eq_false_iff.mpr c45
              subst c45
              have H1 : ((impl_toward.f x105000_2 ((rd_T35 y108 x33_2).f0)).bind fun t116 => ((impl_toward.f x105001_2 ((rd_T35 y108 x33_2).f1)).bind fun t117 => (impl_CodeStay.l1 kj18 x5_2 t116 t117 y108 (y108.length : Int) x33_2 x105000_2 x105001_2 ((rd_T35 y108 x33_2).f0) ((rd_T35 y108 x33_2).f1)))) = some (r1, r2) := by rw [if_neg (show ¬ (false = true) by decide)] at H; exact H
              clear H; have H := H1; clear H1; replace H := Option.bind_eq_some_iff.mp H; obtain ⟨t116, A460, H⟩ := H; replace H : ((impl_toward.f x105001_2 ((rd_T35 y108 x33_2).f1)).bind fun t117 => (impl_CodeStay.l1 kj18 x5_2 t116 t117 y108 (y108.length : Int) x33_2 x105000_2 x105001_2 ((rd_T35 y108 x33_2).f0) ((rd_T35 y108 x33_2).f1))) = some (r1, r2) := H; have A46 := Aside0.mk A460; clear A460; replace H := Option.bind_eq_some_iff.mp H; obtain ⟨t117, A470, H⟩ := H; replace H : (impl_CodeStay.l1 kj18 x5_2 t116 t117 y108 (y108.length : Int) x33_2 x105000_2 x105001_2 ((rd_T35 y108 x33_2).f0) ((rd_T35 y108 x33_2).f1)) = some (r1, r2) := H; have A47 := Aside0.mk A470; clear A470; have H' := Aside0.mk H; clear H; have hnb48 := NB104_114.out; have hnc48 := NB114_104.out; have hcz49_0 : wc.cell? ⟨gb104, 0, none⟩ = some (.int .i64 x105000_2) := (blk_cell BK104.out 0).trans rfl; have hcz49_1 : wc.cell? ⟨gb104, 1, none⟩ = some (.int .i64 x105001_2) := (blk_cell BK104.out 1).trans rfl; have hfz49_0 := blk_frozen BK104.out 0; have hfz49_1 := blk_frozen BK104.out 1; have hcz50_0 : wc.cell? ⟨gb114, 0, none⟩ = some (.int .i64 ((rd_T35 y108 x33_2).f0)) := (blk_cell BK114.out 0).trans rfl; have hcz50_1 : wc.cell? ⟨gb114, 1, none⟩ = some (.int .i64 ((rd_T35 y108 x33_2).f1)) := (blk_cell BK114.out 1).trans rfl; have hfz50_0 := blk_frozen BK114.out 0; have hfz50_1 := blk_frozen BK114.out 1; go_wp2_with (first | (go_at_call 41; (with_reducible refine (impl_toward.calls x105000_2 ((rd_T35 y108 x33_2).f0) t116 _ A46.out).mono ?_); rintro e w' ⟨rfl, ⟨nd, rfl⟩⟩; (try first | exact ⟨rfl, _, World.drewN_drewN _ _ _⟩ | exact ⟨rfl, _, Eq.trans (World.drewN_drewN _ _ _) (congrArg (World.drewN _) (Nat.add_assoc _ _ _))⟩)) | (go_at_call 41; (with_reducible refine (impl_toward.calls x105001_2 ((rd_T35 y108 x33_2).f1) t117 _ A47.out).mono ?_); rintro e w' ⟨rfl, ⟨nd, rfl⟩⟩; (try first | exact ⟨rfl, _, World.drewN_drewN _ _ _⟩ | exact ⟨rfl, _, Eq.trans (World.drewN_drewN _ _ _) (congrArg (World.drewN _) (Nat.add_assoc _ _ _))⟩)))
              repeat (go_quiet (first | (go_at_call 41; (with_reducible refine (impl_toward.calls x105000_2 ((rd_T35 y108 x33_2).f0) t116 _ A46.out).mono ?_); rintro e w' ⟨rfl, ⟨nd, rfl⟩⟩; (try first | exact ⟨rfl, _, World.drewN_drewN _ _ _⟩ | exact ⟨rfl, _, Eq.trans (World.drewN_drewN _ _ _) (congrArg (World.drewN _) (Nat.add_assoc _ _ _))⟩)) | (go_at_call 41; (with_reducible refine (impl_toward.calls x105001_2 ((rd_T35 y108 x33_2).f1) t117 _ A47.out).mono ?_); rintro e w' ⟨rfl, ⟨nd, rfl⟩⟩; (try first | exact ⟨rfl, _, World.drewN_drewN _ _ _⟩ | exact ⟨rfl, _, Eq.trans (World.drewN_drewN _ _ _) (congrArg (World.drewN _) (Nat.add_assoc _ _ _))⟩))); try go_wp2_with (first | (go_at_call 41; (with_reducible refine (impl_toward.calls x105000_2 ((rd_T35 y108 x33_2).f0) t116 _ A46.out).mono ?_); rintro e w' ⟨rfl, ⟨nd, rfl⟩⟩; (try first | exact ⟨rfl, _, World.drewN_drewN _ _ _⟩ | exact ⟨rfl, _, Eq.trans (World.drewN_drewN _ _ _) (congrArg (World.drewN _) (Nat.add_assoc _ _ _))⟩)) | (go_at_call 41; (with_reducible refine (impl_toward.calls x105001_2 ((rd_T35 y108 x33_2).f1) t117 _ A47.out).mono ?_); rintro e w' ⟨rfl, ⟨nd, rfl⟩⟩; (try first | exact ⟨rfl, _, World.drewN_drewN _ _ _⟩ | exact ⟨rfl, _, Eq.trans (World.drewN_drewN _ _ _) (congrArg (World.drewN _) (Nat.add_assoc _ _ _))⟩))))
              go_loopg [5] kj18 (fun kq v5 w' => ∃ (x5_4 : List (S35)) (x105000_4 : Int) (x105001_4 : Int), Aside0 (impl_CodeStay.l1 kq x5_4 t116 t117 y108 (y108.length : Int) x33_2 x105000_4 x105001_4 ((rd_T35 y108 x33_2).f0) ((rd_T35 y108 x33_2).f1) = some (r1, r2)) ∧ Aside0 (kq ≤ kj18) ∧ Aside0 (Kd.R k35 35 w' w.heap.size (fun k_ => k_ ≠ gb104 ∧ k_ ≠ gb114) v5 x5_4) ∧ Aside0 (w'.heap[gb104]? = some (.cells #[.int .i64 x105000_4, .int .i64 x105001_4] 35 (0, 0))) ∧ Aside0 (w'.heap[gb114]? = some (.cells #[.int .i64 ((rd_T35 y108 x33_2).f0), .int .i64 ((rd_T35 y108 x33_2).f1)] 35 (0, 0))) ∧ Aside0 (Below w.heap.size w w'))
              case atStart => exact ⟨(x5_2), (x105000_2), (x105001_2), H', ⟨Nat.le_refl _⟩, ⟨by (with_reducible repeat (first | apply Kd.R_alloc | apply Kd.R_drewN | apply Kd.R_drew)); exact HO_5.out⟩, ⟨by (with_reducible repeat (first | refine blk_drewN ?_ _ | refine blk_drew ?_ | refine blk_alloc ?_ _)); exact BK104.out⟩, ⟨by (with_reducible repeat (first | refine blk_drewN ?_ _ | refine blk_drew ?_ | refine blk_alloc ?_ _)); exact BK114.out⟩, ⟨(bC2 HB GE104.out GE114.out)⟩⟩
              case round =>
               clear H'
               try clear c1
               try clear p1
               try clear q1
               try clear hx1
               try clear qi1
               try clear c2
               try clear p2
               try clear c3
               try clear c3b0
               try clear c3b1
               try clear c4
               try clear c4b0
               try clear c4b1
               try clear c5
               try clear c5b0
               try clear c5b1
               try clear c8
               try clear c9
               try clear c9b0
               try clear c9b1
               try clear c10
               try clear c10b0
               try clear c10b1
               try clear p10
               try clear q10
               try clear hx10
               try clear qi10
               try clear p11
               try clear q11
               try clear hx11
               try clear c15
               try clear q15
               try clear c16
               try clear c16b0
               try clear c17
               try clear c17b0
               try clear c18
               try clear c18b0
               try clear c20
               try clear c21
               try clear c24
               try clear c25
               try clear c25b0
               try clear c25b1
               try clear c25b2
               try clear c26
               try clear c31
               try clear c31b0
               try clear c31b1
               try clear c32
               try clear c37
               try clear c42
               try clear c45
               try clear c48
               try clear hcz12_0
               try clear hcz12_1
               try clear hcz22_0
               try clear hcz22_1
               try clear hcz27_0
               try clear hcz27_1
               try clear hcz29_0
               try clear hcz29_1
               try clear hcz30_0
               try clear hcz30_1
               try clear hcz33_0
               try clear hcz33_1
               try clear hcz35_0
               try clear hcz35_1
               try clear hcz36_0
               try clear hcz36_1
               try clear hcz38_0
               try clear hcz38_1
               try clear hcz40_0
               try clear hcz40_1
               try clear hcz41_0
               try clear hcz41_1
               try clear hcz43_0
               try clear hcz43_1
               try clear hcz49_0
               try clear hcz49_1
               try clear hcz50_0
               try clear hcz50_1
               try clear hfz12_0
               try clear hfz12_1
               try clear hfz22_0
               try clear hfz22_1
               try clear hfz27_0
               try clear hfz27_1
               try clear hfz29_0
               try clear hfz29_1
               try clear hfz30_0
               try clear hfz30_1
               try clear hfz33_0
               try clear hfz33_1
               try clear hfz35_0
               try clear hfz35_1
               try clear hfz36_0
               try clear hfz36_1
               try clear hfz38_0
               try clear hfz38_1
               try clear hfz40_0
               try clear hfz40_1
               try clear hfz41_0
               try clear hfz41_1
               try clear hfz43_0
               try clear hfz43_1
               try clear hfz49_0
               try clear hfz49_1
               try clear hfz50_0
               try clear hfz50_1
               try clear hx101_0
               try clear hx101_1
               try clear hx103_0
               try clear hx103_1
               try clear hx113_0
               try clear hx113_1
               try clear p1
               try clear p10
               try clear p101
               try clear p103
               try clear p11
               try clear p113
               try clear p2
               try clear q1
               try clear q10
               try clear q101
               try clear q103
               try clear q11
               try clear q113
               try clear q15
               obtain ⟨x5_4, x105000_4, x105001_4, HA, HK4, HO_5, BK104, BK114, HB⟩ := hrel
               cases gk with
               | zero => exact absurd HA.out (by simp [impl_CodeStay.l1])
               | succ k4 =>
                have H := HA.out; clear HA; simp only [impl_CodeStay.l1] at H
                by_cases c51 : (!(x105000_4 == ((rd_T35 y108 x33_2).f0)) || (!(x105001_4 == ((rd_T35 y108 x33_2).f1)))) = true
                ·rw [if_pos c51] at H
                 have c51b0 : (!(x105000_4 == ((rd_T35 y108 x33_2).f0)) || (!(x105001_4 == ((rd_T35 y108 x33_2).f1)))) = true := c51; clear c51
                 by_cases c52 : x5_4.length < 8796093022208
                 ·rw [if_pos c52] at H
                  have LMc52 := Aside0.mk c52; clear c52; obtain ⟨y118, hy118⟩ : ∃ y_ : List (S35), y_ = (x5_4 ++ [(⟨wrap64 (x105000_4 + t116), wrap64 (x105001_4 + t117)⟩ : S35)]) := ⟨_, rfl⟩
                  replace H : (impl_CodeStay.l1 k4 y118 t116 t117 y108 (y108.length : Int) x33_2 (wrap64 (x105000_4 + t116)) (wrap64 (x105001_4 + t117)) ((rd_T35 y108 x33_2).f0) ((rd_T35 y108 x33_2).f1)) = some (r1, r2) := by first | (rw [hy118]; with_reducible exact H) | (have H2_ := (Option.bind_some _ _).symm.trans H; rw [hy118]; with_reducible exact H2_) | (have H2_ := (Option.bind_some _ _).symm.trans H; with_reducible exact H2_) | with_reducible exact H | (rw [hy118]; exact H) | exact H
                  have Ny118 := Aside0.mk hy118; clear hy118; have H' := Aside0.mk H; clear H; have hnb53 := NB104_114.out; have hnc53 := NB114_104.out; have hcz54_0 : wr.cell? ⟨gb104, 0, none⟩ = some (.int .i64 x105000_4) := (blk_cell BK104.out 0).trans rfl; have hcz54_1 : wr.cell? ⟨gb104, 1, none⟩ = some (.int .i64 x105001_4) := (blk_cell BK104.out 1).trans rfl; have hfz54_0 := blk_frozen BK104.out 0; have hfz54_1 := blk_frozen BK104.out 1; have hcz55_0 : wr.cell? ⟨gb114, 0, none⟩ = some (.int .i64 ((rd_T35 y108 x33_2).f0)) := (blk_cell BK114.out 0).trans rfl; have hcz55_1 : wr.cell? ⟨gb114, 1, none⟩ = some (.int .i64 ((rd_T35 y108 x33_2).f1)) := (blk_cell BK114.out 1).trans rfl; have hfz55_0 := blk_frozen BK114.out 0; have hfz55_1 := blk_frozen BK114.out 1; go_wp2_with (first | ((with_reducible refine gate_builtin (b := .append) (xs := #[.tmp 81, .tmp 83]) rfl ?_); (try (refine gate_guard (by rfl) ?_; dsimp only)); at_builtin; refine Kd.R_append k35 (w0 := w) w.heap.size rfl (.tmp 81) (.tmp 83) 25 35 (.agg #[(.int .i64 0), (.int .i64 0)]) 16 rfl Tryd.underlying25 info35 rfl (by decide) (by omega) u5 x5_4 (⟨wrap64 (x105000_4 + t116), wrap64 (x105001_4 + t117)⟩ : S35) [.int .i64 (wrap64 (x105000_4 + t116)), .int .i64 (wrap64 (x105001_4 + t117))] (fun k_ => k_ ≠ gb104 ∧ k_ ≠ gb114) (fun _ => False) rfl (by first | (go_simp; done) | (go_simp; rfl)) ?aP (fun _ hk => hk.elim) ?aF ?aO ?aB ?aS ?aL ?_; (case aP => exact k35_mkM _ _ _ (⟨wrap64 (x105000_4 + t116), wrap64 (x105001_4 + t117)⟩ : S35)); (case aB => exact (bC2 HB GE104.out GE114.out)); (case aF => exact (fun k_ hk => ⟨Kd.freshB (g := gb104) (o := .cells #[.int .i64 (wrap64 (x105000_4 + t116)), .int .i64 (wrap64 (x105001_4 + t117))] 35 (0, 0)) (by (with_reducible repeat (first | refine blk_drewN ?_ _ | refine blk_drew ?_ | refine blk_alloc ?_ _)); refine blk_put (cs := #[.int .i64 (wrap64 (x105000_4 + t116)), .int .i64 x105001_4]) ?_ 1 _ rfl; (with_reducible repeat (first | refine blk_drewN ?_ _ | refine blk_drew ?_ | refine blk_alloc ?_ _)); refine blk_put (cs := #[.int .i64 x105000_4, .int .i64 x105001_4]) ?_ 0 _ rfl; (with_reducible repeat (first | refine blk_drewN ?_ _ | refine blk_drew ?_ | refine blk_alloc ?_ _)); exact BK104.out) k_ hk, Kd.freshB (g := gb114) (o := .cells #[.int .i64 ((rd_T35 y108 x33_2).f0), .int .i64 ((rd_T35 y108 x33_2).f1)] 35 (0, 0)) (by (with_reducible repeat (first | refine blk_drewN ?_ _ | refine blk_drew ?_ | refine blk_alloc ?_ _)); refine blk_far ?_ NB114_104.out _; (with_reducible repeat (first | refine blk_drewN ?_ _ | refine blk_drew ?_ | refine blk_alloc ?_ _)); refine blk_far ?_ NB114_104.out _; (with_reducible repeat (first | refine blk_drewN ?_ _ | refine blk_drew ?_ | refine blk_alloc ?_ _)); exact BK114.out) k_ hk⟩)); (case aO => exact (by (with_reducible repeat (first | apply Kd.R_alloc | apply Kd.R_drewN | apply Kd.R_drew)); exact Kd.R_mono (Kd.R_far (p := ⟨gb104, 1, none⟩) (Kd.R_far (p := ⟨gb104, 0, none⟩) (Kd.R_mono HO_5.out (fun k_ hk => (⟨hk, hk.1⟩ : _ ∧ k_ ≠ gb104))) (fun _ hk => hk.2) (.int .i64 (wrap64 (x105000_4 + t116)))) (fun _ hk => hk.2) (.int .i64 (wrap64 (x105001_4 + t117)))) (fun _ hk => ⟨hk.1.1, hk.1.2⟩))); (case aS => exact (below_size (bC2 HB GE104.out GE114.out))); (case aL => have := LMc52.out; omega); intro v119 w56 ho hb hg hat; rw [← Ny118.out] at ho; have n0_ := Aside0.mk (blk_grown (g := gb104) (o := .cells #[.int .i64 (wrap64 (x105000_4 + t116)), .int .i64 (wrap64 (x105001_4 + t117))] 35 (0, 0)) (by (with_reducible repeat (first | refine blk_drewN ?_ _ | refine blk_drew ?_ | refine blk_alloc ?_ _)); refine blk_put (cs := #[.int .i64 (wrap64 (x105000_4 + t116)), .int .i64 x105001_4]) ?_ 1 _ rfl; (with_reducible repeat (first | refine blk_drewN ?_ _ | refine blk_drew ?_ | refine blk_alloc ?_ _)); refine blk_put (cs := #[.int .i64 x105000_4, .int .i64 x105001_4]) ?_ 0 _ rfl; (with_reducible repeat (first | refine blk_drewN ?_ _ | refine blk_drew ?_ | refine blk_alloc ?_ _)); exact BK104.out) hg (Kd.R_away HO_5.out (fun _ hk => hk.1))); have n1_ := Aside0.mk (blk_grown (g := gb114) (o := .cells #[.int .i64 ((rd_T35 y108 x33_2).f0), .int .i64 ((rd_T35 y108 x33_2).f1)] 35 (0, 0)) (by (with_reducible repeat (first | refine blk_drewN ?_ _ | refine blk_drew ?_ | refine blk_alloc ?_ _)); refine blk_far ?_ NB114_104.out _; (with_reducible repeat (first | refine blk_drewN ?_ _ | refine blk_drew ?_ | refine blk_alloc ?_ _)); refine blk_far ?_ NB114_104.out _; (with_reducible repeat (first | refine blk_drewN ?_ _ | refine blk_drew ?_ | refine blk_alloc ?_ _)); exact BK114.out) hg (Kd.R_away HO_5.out (fun _ hk => hk.2))); have n2_ := Aside0.mk (hb); have n3_ := Aside0.mk (ho); clear BK104; clear BK114; clear HB; clear HO_5; have BK104 := n0_; have BK114 := n1_; have HB := n2_; have HO120 := n3_; clear n0_ n1_ n2_ n3_; clear ho hb hg hat))
                  repeat (go_quiet (first | ((with_reducible refine gate_builtin (b := .append) (xs := #[.tmp 81, .tmp 83]) rfl ?_); (try (refine gate_guard (by rfl) ?_; dsimp only)); at_builtin; refine Kd.R_append k35 (w0 := w) w.heap.size rfl (.tmp 81) (.tmp 83) 25 35 (.agg #[(.int .i64 0), (.int .i64 0)]) 16 rfl Tryd.underlying25 info35 rfl (by decide) (by omega) u5 x5_4 (⟨wrap64 (x105000_4 + t116), wrap64 (x105001_4 + t117)⟩ : S35) [.int .i64 (wrap64 (x105000_4 + t116)), .int .i64 (wrap64 (x105001_4 + t117))] (fun k_ => k_ ≠ gb104 ∧ k_ ≠ gb114) (fun _ => False) rfl (by first | (go_simp; done) | (go_simp; rfl)) ?aP (fun _ hk => hk.elim) ?aF ?aO ?aB ?aS ?aL ?_; (case aP => exact k35_mkM _ _ _ (⟨wrap64 (x105000_4 + t116), wrap64 (x105001_4 + t117)⟩ : S35)); (case aB => exact (bC2 HB GE104.out GE114.out)); (case aF => exact (fun k_ hk => ⟨Kd.freshB (g := gb104) (o := .cells #[.int .i64 (wrap64 (x105000_4 + t116)), .int .i64 (wrap64 (x105001_4 + t117))] 35 (0, 0)) (by (with_reducible repeat (first | refine blk_drewN ?_ _ | refine blk_drew ?_ | refine blk_alloc ?_ _)); refine blk_put (cs := #[.int .i64 (wrap64 (x105000_4 + t116)), .int .i64 x105001_4]) ?_ 1 _ rfl; (with_reducible repeat (first | refine blk_drewN ?_ _ | refine blk_drew ?_ | refine blk_alloc ?_ _)); refine blk_put (cs := #[.int .i64 x105000_4, .int .i64 x105001_4]) ?_ 0 _ rfl; (with_reducible repeat (first | refine blk_drewN ?_ _ | refine blk_drew ?_ | refine blk_alloc ?_ _)); exact BK104.out) k_ hk, Kd.freshB (g := gb114) (o := .cells #[.int .i64 ((rd_T35 y108 x33_2).f0), .int .i64 ((rd_T35 y108 x33_2).f1)] 35 (0, 0)) (by (with_reducible repeat (first | refine blk_drewN ?_ _ | refine blk_drew ?_ | refine blk_alloc ?_ _)); refine blk_far ?_ NB114_104.out _; (with_reducible repeat (first | refine blk_drewN ?_ _ | refine blk_drew ?_ | refine blk_alloc ?_ _)); refine blk_far ?_ NB114_104.out _; (with_reducible repeat (first | refine blk_drewN ?_ _ | refine blk_drew ?_ | refine blk_alloc ?_ _)); exact BK114.out) k_ hk⟩)); (case aO => exact (by (with_reducible repeat (first | apply Kd.R_alloc | apply Kd.R_drewN | apply Kd.R_drew)); exact Kd.R_mono (Kd.R_far (p := ⟨gb104, 1, none⟩) (Kd.R_far (p := ⟨gb104, 0, none⟩) (Kd.R_mono HO_5.out (fun k_ hk => (⟨hk, hk.1⟩ : _ ∧ k_ ≠ gb104))) (fun _ hk => hk.2) (.int .i64 (wrap64 (x105000_4 + t116)))) (fun _ hk => hk.2) (.int .i64 (wrap64 (x105001_4 + t117)))) (fun _ hk => ⟨hk.1.1, hk.1.2⟩))); (case aS => exact (below_size (bC2 HB GE104.out GE114.out))); (case aL => have := LMc52.out; omega); intro v119 w56 ho hb hg hat; rw [← Ny118.out] at ho; have n0_ := Aside0.mk (blk_grown (g := gb104) (o := .cells #[.int .i64 (wrap64 (x105000_4 + t116)), .int .i64 (wrap64 (x105001_4 + t117))] 35 (0, 0)) (by (with_reducible repeat (first | refine blk_drewN ?_ _ | refine blk_drew ?_ | refine blk_alloc ?_ _)); refine blk_put (cs := #[.int .i64 (wrap64 (x105000_4 + t116)), .int .i64 x105001_4]) ?_ 1 _ rfl; (with_reducible repeat (first | refine blk_drewN ?_ _ | refine blk_drew ?_ | refine blk_alloc ?_ _)); refine blk_put (cs := #[.int .i64 x105000_4, .int .i64 x105001_4]) ?_ 0 _ rfl; (with_reducible repeat (first | refine blk_drewN ?_ _ | refine blk_drew ?_ | refine blk_alloc ?_ _)); exact BK104.out) hg (Kd.R_away HO_5.out (fun _ hk => hk.1))); have n1_ := Aside0.mk (blk_grown (g := gb114) (o := .cells #[.int .i64 ((rd_T35 y108 x33_2).f0), .int .i64 ((rd_T35 y108 x33_2).f1)] 35 (0, 0)) (by (with_reducible repeat (first | refine blk_drewN ?_ _ | refine blk_drew ?_ | refine blk_alloc ?_ _)); refine blk_far ?_ NB114_104.out _; (with_reducible repeat (first | refine blk_drewN ?_ _ | refine blk_drew ?_ | refine blk_alloc ?_ _)); refine blk_far ?_ NB114_104.out _; (with_reducible repeat (first | refine blk_drewN ?_ _ | refine blk_drew ?_ | refine blk_alloc ?_ _)); exact BK114.out) hg (Kd.R_away HO_5.out (fun _ hk => hk.2))); have n2_ := Aside0.mk (hb); have n3_ := Aside0.mk (ho); clear BK104; clear BK114; clear HB; clear HO_5; have BK104 := n0_; have BK114 := n1_; have HB := n2_; have HO120 := n3_; clear n0_ n1_ n2_ n3_; clear ho hb hg hat)); try go_wp2_with (first | ((with_reducible refine gate_builtin (b := .append) (xs := #[.tmp 81, .tmp 83]) rfl ?_); (try (refine gate_guard (by rfl) ?_; dsimp only)); at_builtin; refine Kd.R_append k35 (w0 := w) w.heap.size rfl (.tmp 81) (.tmp 83) 25 35 (.agg #[(.int .i64 0), (.int .i64 0)]) 16 rfl Tryd.underlying25 info35 rfl (by decide) (by omega) u5 x5_4 (⟨wrap64 (x105000_4 + t116), wrap64 (x105001_4 + t117)⟩ : S35) [.int .i64 (wrap64 (x105000_4 + t116)), .int .i64 (wrap64 (x105001_4 + t117))] (fun k_ => k_ ≠ gb104 ∧ k_ ≠ gb114) (fun _ => False) rfl (by first | (go_simp; done) | (go_simp; rfl)) ?aP (fun _ hk => hk.elim) ?aF ?aO ?aB ?aS ?aL ?_; (case aP => exact k35_mkM _ _ _ (⟨wrap64 (x105000_4 + t116), wrap64 (x105001_4 + t117)⟩ : S35)); (case aB => exact (bC2 HB GE104.out GE114.out)); (case aF => exact (fun k_ hk => ⟨Kd.freshB (g := gb104) (o := .cells #[.int .i64 (wrap64 (x105000_4 + t116)), .int .i64 (wrap64 (x105001_4 + t117))] 35 (0, 0)) (by (with_reducible repeat (first | refine blk_drewN ?_ _ | refine blk_drew ?_ | refine blk_alloc ?_ _)); refine blk_put (cs := #[.int .i64 (wrap64 (x105000_4 + t116)), .int .i64 x105001_4]) ?_ 1 _ rfl; (with_reducible repeat (first | refine blk_drewN ?_ _ | refine blk_drew ?_ | refine blk_alloc ?_ _)); refine blk_put (cs := #[.int .i64 x105000_4, .int .i64 x105001_4]) ?_ 0 _ rfl; (with_reducible repeat (first | refine blk_drewN ?_ _ | refine blk_drew ?_ | refine blk_alloc ?_ _)); exact BK104.out) k_ hk, Kd.freshB (g := gb114) (o := .cells #[.int .i64 ((rd_T35 y108 x33_2).f0), .int .i64 ((rd_T35 y108 x33_2).f1)] 35 (0, 0)) (by (with_reducible repeat (first | refine blk_drewN ?_ _ | refine blk_drew ?_ | refine blk_alloc ?_ _)); refine blk_far ?_ NB114_104.out _; (with_reducible repeat (first | refine blk_drewN ?_ _ | refine blk_drew ?_ | refine blk_alloc ?_ _)); refine blk_far ?_ NB114_104.out _; (with_reducible repeat (first | refine blk_drewN ?_ _ | refine blk_drew ?_ | refine blk_alloc ?_ _)); exact BK114.out) k_ hk⟩)); (case aO => exact (by (with_reducible repeat (first | apply Kd.R_alloc | apply Kd.R_drewN | apply Kd.R_drew)); exact Kd.R_mono (Kd.R_far (p := ⟨gb104, 1, none⟩) (Kd.R_far (p := ⟨gb104, 0, none⟩) (Kd.R_mono HO_5.out (fun k_ hk => (⟨hk, hk.1⟩ : _ ∧ k_ ≠ gb104))) (fun _ hk => hk.2) (.int .i64 (wrap64 (x105000_4 + t116)))) (fun _ hk => hk.2) (.int .i64 (wrap64 (x105001_4 + t117)))) (fun _ hk => ⟨hk.1.1, hk.1.2⟩))); (case aS => exact (below_size (bC2 HB GE104.out GE114.out))); (case aL => have := LMc52.out; omega); intro v119 w56 ho hb hg hat; rw [← Ny118.out] at ho; have n0_ := Aside0.mk (blk_grown (g := gb104) (o := .cells #[.int .i64 (wrap64 (x105000_4 + t116)), .int .i64 (wrap64 (x105001_4 + t117))] 35 (0, 0)) (by (with_reducible repeat (first | refine blk_drewN ?_ _ | refine blk_drew ?_ | refine blk_alloc ?_ _)); refine blk_put (cs := #[.int .i64 (wrap64 (x105000_4 + t116)), .int .i64 x105001_4]) ?_ 1 _ rfl; (with_reducible repeat (first | refine blk_drewN ?_ _ | refine blk_drew ?_ | refine blk_alloc ?_ _)); refine blk_put (cs := #[.int .i64 x105000_4, .int .i64 x105001_4]) ?_ 0 _ rfl; (with_reducible repeat (first | refine blk_drewN ?_ _ | refine blk_drew ?_ | refine blk_alloc ?_ _)); exact BK104.out) hg (Kd.R_away HO_5.out (fun _ hk => hk.1))); have n1_ := Aside0.mk (blk_grown (g := gb114) (o := .cells #[.int .i64 ((rd_T35 y108 x33_2).f0), .int .i64 ((rd_T35 y108 x33_2).f1)] 35 (0, 0)) (by (with_reducible repeat (first | refine blk_drewN ?_ _ | refine blk_drew ?_ | refine blk_alloc ?_ _)); refine blk_far ?_ NB114_104.out _; (with_reducible repeat (first | refine blk_drewN ?_ _ | refine blk_drew ?_ | refine blk_alloc ?_ _)); refine blk_far ?_ NB114_104.out _; (with_reducible repeat (first | refine blk_drewN ?_ _ | refine blk_drew ?_ | refine blk_alloc ?_ _)); exact BK114.out) hg (Kd.R_away HO_5.out (fun _ hk => hk.2))); have n2_ := Aside0.mk (hb); have n3_ := Aside0.mk (ho); clear BK104; clear BK114; clear HB; clear HO_5; have BK104 := n0_; have BK114 := n1_; have HB := n2_; have HO120 := n3_; clear n0_ n1_ n2_ n3_; clear ho hb hg hat)))
                  go_roundg k4
                  case measure => have := HJ1.out; have := HK2.out; have := HJ18.out; have := HK4.out; omega
                  case rel => exact ⟨(y118), (wrap64 (x105000_4 + t116)), (wrap64 (x105001_4 + t117)), H', ⟨by have := HJ1.out; have := HK2.out; have := HJ18.out; have := HK4.out; omega⟩, ⟨by (with_reducible repeat (first | apply Kd.R_alloc | apply Kd.R_drewN | apply Kd.R_drew)); exact HO120.out⟩, ⟨by (with_reducible repeat (first | refine blk_drewN ?_ _ | refine blk_drew ?_ | refine blk_alloc ?_ _)); exact BK104.out⟩, ⟨by (with_reducible repeat (first | refine blk_drewN ?_ _ | refine blk_drew ?_ | refine blk_alloc ?_ _)); exact BK114.out⟩, ⟨(bC2 HB GE104.out GE114.out)⟩⟩
                 ·rw [if_neg c52] at H; exact absurd H (by simp)
                ·rw [if_neg c51] at H
                 have c51b0 : (!(x105000_4 == ((rd_T35 y108 x33_2).f0)) || (!(x105001_4 == ((rd_T35 y108 x33_2).f1)))) = false := by simpa using c51
                 clear c51; have H' := Aside0.mk H; clear H; have hnb57 := NB104_114.out; have hnc57 := NB114_104.out; have hcz58_0 : wr.cell? ⟨gb104, 0, none⟩ = some (.int .i64 x105000_4) := (blk_cell BK104.out 0).trans rfl; have hcz58_1 : wr.cell? ⟨gb104, 1, none⟩ = some (.int .i64 x105001_4) := (blk_cell BK104.out 1).trans rfl; have hfz58_0 := blk_frozen BK104.out 0; have hfz58_1 := blk_frozen BK104.out 1; have hcz59_0 : wr.cell? ⟨gb114, 0, none⟩ = some (.int .i64 ((rd_T35 y108 x33_2).f0)) := (blk_cell BK114.out 0).trans rfl; have hcz59_1 : wr.cell? ⟨gb114, 1, none⟩ = some (.int .i64 ((rd_T35 y108 x33_2).f1)) := (blk_cell BK114.out 1).trans rfl; have hfz59_0 := blk_frozen BK114.out 0; have hfz59_1 := blk_frozen BK114.out 1; go_wp2
                 repeat (go_quiet (fail); try go_wp2)
                 go_roundg k4
                 case measure => have := HJ1.out; have := HK2.out; have := HJ18.out; have := HK4.out; omega
                 case rel => exact ⟨(x5_4), (wrap64 (x33_2 + 1)), (x105000_4), (x105001_4), (by first | rfl | (simp; done) | (simp [*]; done)), H', ⟨by have := HJ1.out; have := HK2.out; have := HJ18.out; have := HK4.out; omega⟩, ⟨by (with_reducible repeat (first | apply Kd.R_alloc | apply Kd.R_drewN | apply Kd.R_drew)); exact Kd.R_mono HO_5.out (fun _ hk => hk.1)⟩, ⟨by (with_reducible repeat (first | refine blk_drewN ?_ _ | refine blk_drew ?_ | refine blk_alloc ?_ _)); exact BK104.out⟩, ⟨(bC2 HB GE104.out GE114.out)⟩⟩
          ·rw [if_neg c18] at H; exact absurd H (by simp)
         ·rw [if_neg c17] at H; exact absurd H (by simp)
        ·rw [if_neg c16] at H
         have c16b0 : decide (x33_2 < (y108.length : Int)) = false := decide_eq_false c16; clear c16; replace H := Option.bind_eq_some_iff.mp H; obtain ⟨t112, A600, H⟩ := H; replace H : (if t112 = true then (some (x5_2, true)) else (some (([] : List (S35)), false))) = some (r1, r2) := H; have A60 := Aside0.mk A600; clear A600
         by_cases c61 : t112 = true
         ·subst c61
          have H1 : (some (x5_2, true)) = some (r1, r2) := by rw [if_pos rfl] at H; exact H
          clear H; have H := H1; clear H1; simp only [Option.some.injEq, Prod.mk.injEq] at H; obtain ⟨rfl, rfl⟩ := H; obtain ⟨Ao62, co62, eo62⟩ := Kd.R_slice HO_5.out; subst eo62; go_wp2_with (first | (go_at_call 42; (with_reducible refine (impl_isPath.calls k2 _ _ x5_2 true _ ?side1 ?side2 A60.out).mono ?_); (case side1 => repeat (first | exact (Kd.R_reads' HO_5.out).2.2 | (with_reducible refine Kd.C_alloc ?_ _) | (with_reducible refine Kd.C_drewN ?_ _) | (with_reducible refine Kd.C_drew ?_))); (case side2 => exact (Kd.R_reads' HO_5.out).2.1); rintro e w63 ⟨rfl, hb⟩; have n0_ := Aside0.mk (Kd.R_below (bR HO_5) hb); have n1_ := Aside0.mk (blk_below (g := gb104) (o := .cells #[.int .i64 x105000_2, .int .i64 x105001_2] 35 (0, 0)) (bA BK104) hb); have n2_ := Aside0.mk (below_step (bC1 HB GE104.out) hb); clear HO_5; clear BK104; clear HB; have HO_5 := n0_; have BK104 := n1_; have HB := n2_; clear n0_ n1_ n2_; (try clear hb); (try clear hb2); (try clear hk); (try clear hi)))
          repeat (go_quiet (first | (go_at_call 42; (with_reducible refine (impl_isPath.calls k2 _ _ x5_2 true _ ?side1 ?side2 A60.out).mono ?_); (case side1 => repeat (first | exact (Kd.R_reads' HO_5.out).2.2 | (with_reducible refine Kd.C_alloc ?_ _) | (with_reducible refine Kd.C_drewN ?_ _) | (with_reducible refine Kd.C_drew ?_))); (case side2 => exact (Kd.R_reads' HO_5.out).2.1); rintro e w63 ⟨rfl, hb⟩; have n0_ := Aside0.mk (Kd.R_below (bR HO_5) hb); have n1_ := Aside0.mk (blk_below (g := gb104) (o := .cells #[.int .i64 x105000_2, .int .i64 x105001_2] 35 (0, 0)) (bA BK104) hb); have n2_ := Aside0.mk (below_step (bC1 HB GE104.out) hb); clear HO_5; clear BK104; clear HB; have HO_5 := n0_; have BK104 := n1_; have HB := n2_; clear n0_ n1_ n2_; (try clear hb); (try clear hb2); (try clear hk); (try clear hi))); try go_wp2_with (first | (go_at_call 42; (with_reducible refine (impl_isPath.calls k2 _ _ x5_2 true _ ?side1 ?side2 A60.out).mono ?_); (case side1 => repeat (first | exact (Kd.R_reads' HO_5.out).2.2 | (with_reducible refine Kd.C_alloc ?_ _) | (with_reducible refine Kd.C_drewN ?_ _) | (with_reducible refine Kd.C_drew ?_))); (case side2 => exact (Kd.R_reads' HO_5.out).2.1); rintro e w63 ⟨rfl, hb⟩; have n0_ := Aside0.mk (Kd.R_below (bR HO_5) hb); have n1_ := Aside0.mk (blk_below (g := gb104) (o := .cells #[.int .i64 x105000_2, .int .i64 x105001_2] 35 (0, 0)) (bA BK104) hb); have n2_ := Aside0.mk (below_step (bC1 HB GE104.out) hb); clear HO_5; clear BK104; clear HB; have HO_5 := n0_; have BK104 := n1_; have HB := n2_; clear n0_ n1_ n2_; (try clear hb); (try clear hb2); (try clear hk); (try clear hi))))
          go_ret2
          exact ⟨_, bE, by (with_reducible repeat (first | apply Kd.R_alloc | apply Kd.R_drewN | apply Kd.R_drew)); exact Kd.R_mono HO_5.out (fun _ hk => trivial), (bC1 HB GE104.out)⟩
         ·replace c61 := Bool.eq_false_iff.mpr c61
          subst c61
          have H1 : (some (([] : List (S35)), false)) = some (r1, r2) := by rw [if_neg (show ¬ (false = true) by decide)] at H; exact H
          clear H; have H := H1; clear H1; simp only [Option.some.injEq, Prod.mk.injEq] at H; obtain ⟨rfl, rfl⟩ := H; obtain ⟨Ao64, co64, eo64⟩ := Kd.R_slice HO_5.out; subst eo64; go_wp2_with (first | (go_at_call 42; (with_reducible refine (impl_isPath.calls k2 _ _ x5_2 false _ ?side1 ?side2 A60.out).mono ?_); (case side1 => repeat (first | exact (Kd.R_reads' HO_5.out).2.2 | (with_reducible refine Kd.C_alloc ?_ _) | (with_reducible refine Kd.C_drewN ?_ _) | (with_reducible refine Kd.C_drew ?_))); (case side2 => exact (Kd.R_reads' HO_5.out).2.1); rintro e w65 ⟨rfl, hb⟩; have n0_ := Aside0.mk (Kd.R_below (bR HO_5) hb); have n1_ := Aside0.mk (blk_below (g := gb104) (o := .cells #[.int .i64 x105000_2, .int .i64 x105001_2] 35 (0, 0)) (bA BK104) hb); have n2_ := Aside0.mk (below_step (bC1 HB GE104.out) hb); clear HO_5; clear BK104; clear HB; have HO_5 := n0_; have BK104 := n1_; have HB := n2_; clear n0_ n1_ n2_; (try clear hb); (try clear hb2); (try clear hk); (try clear hi)))
          repeat (go_quiet (first | (go_at_call 42; (with_reducible refine (impl_isPath.calls k2 _ _ x5_2 false _ ?side1 ?side2 A60.out).mono ?_); (case side1 => repeat (first | exact (Kd.R_reads' HO_5.out).2.2 | (with_reducible refine Kd.C_alloc ?_ _) | (with_reducible refine Kd.C_drewN ?_ _) | (with_reducible refine Kd.C_drew ?_))); (case side2 => exact (Kd.R_reads' HO_5.out).2.1); rintro e w65 ⟨rfl, hb⟩; have n0_ := Aside0.mk (Kd.R_below (bR HO_5) hb); have n1_ := Aside0.mk (blk_below (g := gb104) (o := .cells #[.int .i64 x105000_2, .int .i64 x105001_2] 35 (0, 0)) (bA BK104) hb); have n2_ := Aside0.mk (below_step (bC1 HB GE104.out) hb); clear HO_5; clear BK104; clear HB; have HO_5 := n0_; have BK104 := n1_; have HB := n2_; clear n0_ n1_ n2_; (try clear hb); (try clear hb2); (try clear hk); (try clear hi))); try go_wp2_with (first | (go_at_call 42; (with_reducible refine (impl_isPath.calls k2 _ _ x5_2 false _ ?side1 ?side2 A60.out).mono ?_); (case side1 => repeat (first | exact (Kd.R_reads' HO_5.out).2.2 | (with_reducible refine Kd.C_alloc ?_ _) | (with_reducible refine Kd.C_drewN ?_ _) | (with_reducible refine Kd.C_drew ?_))); (case side2 => exact (Kd.R_reads' HO_5.out).2.1); rintro e w65 ⟨rfl, hb⟩; have n0_ := Aside0.mk (Kd.R_below (bR HO_5) hb); have n1_ := Aside0.mk (blk_below (g := gb104) (o := .cells #[.int .i64 x105000_2, .int .i64 x105001_2] 35 (0, 0)) (bA BK104) hb); have n2_ := Aside0.mk (below_step (bC1 HB GE104.out) hb); clear HO_5; clear BK104; clear HB; have HO_5 := n0_; have BK104 := n1_; have HB := n2_; clear n0_ n1_ n2_; (try clear hb); (try clear hb2); (try clear hk); (try clear hi))))
          go_ret2
          exact ⟨_, bE, by first | exact Kd.R_nil _ _ _ _ _ | exact Kd.N_nil _ _ _ _ _ | exact Kd.V_nil _ _ _ _ _ | exact Kd.Q_nil _ _ _ _ _ | exact Kd.S_nil _ _ _ _ _, (bC1 HB GE104.out)⟩
     ·rw [if_neg c10] at H; exact absurd H (by simp)
    ·rw [if_neg c9] at H; exact absurd H (by simp)

set_option linter.unusedVariables false
set_option linter.unusedSimpArgs false

/-! ### stringslite_HasSuffix: function 60 -/
def stringslite_HasSuffix.f (a0 : ByteArray) (a1 : ByteArray) : Option (Bool) := if (a0.size : Int) ≥ (a1.size : Int) then (if 0 ≤ (wrap64 ((a0.size : Int) - (a1.size : Int))) then (if (wrap64 ((a0.size : Int) - (a1.size : Int))) ≤ (a0.size : Int) then (some ((a0.extract ((wrap64 ((a0.size : Int) - (a1.size : Int))) : Int).toNat a0.size).toList == a1.toList)) else (none)) else (none)) else (some false)
set_option maxHeartbeats 8000000 in
set_option maxRecDepth 100000 in
theorem stringslite_HasSuffix.calls (a0 : ByteArray) (a1 : ByteArray) (r : Bool) (w : World) (h : stringslite_HasSuffix.f a0 a1 = some r) :
  Calls Tryd.prog 60 #[.string a0, .string a1] w fun e w' => e = .returned (.bool r) ∧ Drawn0 w w' := by
 have H : (if (a0.size : Int) ≥ (a1.size : Int) then (if 0 ≤ (wrap64 ((a0.size : Int) - (a1.size : Int))) then (if (wrap64 ((a0.size : Int) - (a1.size : Int))) ≤ (a0.size : Int) then (some ((a0.extract ((wrap64 ((a0.size : Int) - (a1.size : Int))) : Int).toNat a0.size).toList == a1.toList)) else (none)) else (none)) else (some false)) = some r := h; clear h
 by_cases c3 : (a0.size : Int) ≥ (a1.size : Int)
 ·rw [if_pos c3] at H
  have c3b0 : decide ((a1.size : Int) ≤ (a0.size : Int)) = true := decide_eq_true c3; have c3b1 : decide (a1.size ≤ a0.size) = true := decide_eq_true (Int.ofNat_le.mp c3); clear c3; obtain ⟨ji4, hji4⟩ : ∃ j_ : Int, (wrap64 ((a0.size : Int) - (a1.size : Int))) = j_ := ⟨_, rfl⟩
  replace H : (if 0 ≤ (ji4) then (if (ji4) ≤ (a0.size : Int) then (some ((a0.extract ((ji4) : Int).toNat a0.size).toList == a1.toList)) else (none)) else (none)) = some r := by first | (rw [hji4] at H; exact H) | (simp only [hji4] at H ⊢; exact H)
  have hji4w : (IntKind.i64.wrap ((a0.size : Int) - (a1.size : Int))) = ji4 := (i64_w _).trans hji4
  by_cases c5 : 0 ≤ (ji4)
  ·rw [if_pos c5] at H
   have c5b0 := eq_true c5; have c5b1 : decide (0 ≤ (ji4)) = true := decide_eq_true c5; clear c5
   by_cases c6 : (ji4) ≤ (a0.size : Int)
   ·rw [if_pos c6] at H
    have c6b0 := eq_true c6; have c6b1 : decide ((ji4) ≤ (a0.size : Int)) = true := decide_eq_true c6; clear c6; obtain rfl := Option.some.inj H; go_enter Tryd.func60, Tryd.ntmps60; go_wp2; go_ret
    exact ⟨by first | rfl | (simp; done) | (simp only [← hji4] <;> (first | rfl | simp)) | (simp [*]; done), (by repeat (first | exact Drawn0.refl _ | apply Drawn0.step))⟩
   ·rw [if_neg c6] at H; exact absurd H (by simp)
  ·rw [if_neg c5] at H; exact absurd H (by simp)
 ·rw [if_neg c3] at H
  have c3b0 : decide ((a1.size : Int) ≤ (a0.size : Int)) = false := decide_eq_false c3; have c3b1 : decide (a1.size ≤ a0.size) = false := decide_eq_false (fun h => c3 (Int.ofNat_le.mpr h)); clear c3; obtain rfl := Option.some.inj H; go_enter Tryd.func60, Tryd.ntmps60; go_wp2; go_ret
  exact ⟨by first | rfl | (simp; done) | (simp [*]; done), (by repeat (first | exact Drawn0.refl _ | apply Drawn0.step))⟩

set_option linter.unusedVariables false
set_option linter.unusedSimpArgs false

/-! ### strings_HasSuffix: function 43 -/
def strings_HasSuffix.f (a0 : ByteArray) (a1 : ByteArray) : Option (Bool) := (stringslite_HasSuffix.f a0 a1).bind fun t101 => (some t101)
set_option maxHeartbeats 8000000 in
set_option maxRecDepth 100000 in
theorem strings_HasSuffix.calls (a0 : ByteArray) (a1 : ByteArray) (r : Bool) (w : World) (h : strings_HasSuffix.f a0 a1 = some r) :
    Calls Tryd.prog 43 #[.string a0, .string a1] w fun e w' => e = .returned (.bool r) ∧ Drawn0 w w' := by
  have H : ((stringslite_HasSuffix.f a0 a1).bind fun t101 => (some t101)) = some r := h
  clear h
  replace H := Option.bind_eq_some_iff.mp H
  obtain ⟨t101, A30, H⟩ := H
  replace H : (some t101) = some r := H
  have A3 := Aside0.mk A30
  clear A30
  obtain rfl := Option.some.inj H
  go_enter Tryd.func43, Tryd.ntmps43
  go_wp2_with (first | ((with_reducible refine gate_callee (f := 60) rfl ?_); refine goesL_ (some 7) rfl rfl Tryd.func60 (by kernel_rfl) rfl #[.string a0, .string a1] rfl bM ?_; (with_reducible refine (stringslite_HasSuffix.calls a0 a1 t101 _ A3.out).mono ?_); rintro e w' ⟨rfl, ⟨nd, rfl⟩⟩; refine ⟨_, rfl, ?_⟩))
  go_ret
  exact ⟨by first | rfl | (simp; done) | (simp [*]; done), (by repeat (first | exact Drawn0.refl _ | apply Drawn0.step))⟩

set_option linter.unusedVariables false
set_option linter.unusedSimpArgs false

/-! ### strings_Split: function 44 -/
theorem splitInfo : (Tryd.prog.info? 9).map (fun i => (i.zero, i.size, i.bytes)) = some (some (.string ByteArray.empty), 1, 16) := by kernel_rfl
theorem index_one (s : ByteArray) (c : UInt8) : Lib.indexByte s.data.toList c = Lib.indexB s ⟨#[c]⟩ := by
  unfold Lib.indexB
  rw [Lib.index_one]
theorem genSplit_one (s : ByteArray) (c : UInt8) (w : World) (hs : s.size < 4294967281) :
    Calls Tryd.prog 61 #[.string s, .string ⟨#[c]⟩, .int .i64 0, .int .i64 (-1)] w fun e w' =>
      e = .returned (.slice (some ⟨w.heap.size, 0, none⟩) (Lib.countB s ⟨#[c]⟩ + 1) (Lib.countB s ⟨#[c]⟩ + 1)) ∧ w' = w.alloc (.cells ((Lib.splitB ⟨#[c]⟩ 0 (Lib.countB s ⟨#[c]⟩) s).map Value.string).toArray 9) := by
  have h1 : 1 ≤ (⟨#[c]⟩ : ByteArray).size := Nat.le_refl 1
  have hle := Lib.countB_le ⟨#[c]⟩ h1 s.size s (Nat.le_refl _)
  have hlen := Lib.splitB_all ⟨#[c]⟩ h1 0 _ s rfl
  have k := Any.strings_genSplit_core Tryd.lays221 splitInfo s ⟨#[c]⟩ 0 (-1) (Lib.countB s ⟨#[c]⟩ + 1) w hs h1 (Nat.zero_le _)
    (fun x cs _ => by have := Tryd.strings_Index_one x c (w.alloc (.cells cs 9)); rw [index_one] at this; exact this)
    ((Tryd.strings_Count_one s c w).mono fun e w' ⟨he, hw⟩ => ⟨by
      rw [he]
      show _ = Ending.returned (Value.int .i64 ((Lib.count s.data.toList [c] : Nat) : Int))
      rw [Lib.count_one]; rfl, hw⟩) (by decide) (by decide) (by rw [if_pos (by decide)]; omega)
  rw [Nat.add_sub_cancel, hlen] at k
  rw [show Lib.cellsOf (Lib.splitB ⟨#[c]⟩ 0 (Lib.countB s ⟨#[c]⟩) s) (Lib.countB s ⟨#[c]⟩ + 1) = ((Lib.splitB ⟨#[c]⟩ 0 (Lib.countB s ⟨#[c]⟩) s).map Value.string).toArray by rw [← hlen]; exact Lib.cellsOf_full _] at k
  exact k
def strings_Split.f (a0 a1 : ByteArray) : Option (List ByteArray) := if a1.size = 1 ∧ a0.size < 4294967281 then some (Lib.splitB a1 0 (Lib.countB a0 a1) a0) else none
theorem strings_Split.calls (a0 a1 : ByteArray) (r : List ByteArray) (w : World) (h : strings_Split.f a0 a1 = some r) :
  Calls Tryd.prog 44 #[.string a0, .string a1] w fun e w' => ∃ v0_ : Value, e = .returned (v0_) ∧ Kd.R Kd.string 9 w' w.heap.size (fun _ => True) v0_ r ∧ Below w.heap.size w w' := by
 unfold strings_Split.f at h
 by_cases h1 : a1.size = 1 ∧ a0.size < 4294967281
 ·rw [if_pos h1] at h
  obtain rfl := Option.some.inj h; obtain ⟨c, rfl⟩ := Lib.one_byte a1 h1.1; have hlen := Lib.splitB_all ⟨#[c]⟩ (Nat.le_refl 1) 0 _ a0 rfl; have hle := Lib.countB_le ⟨#[c]⟩ (Nat.le_refl 1) a0.size a0 (Nat.le_refl _); refine Calls.mono (R := fun e w' => e = .returned (.slice (some ⟨w.heap.size, 0, none⟩) (Lib.countB a0 ⟨#[c]⟩ + 1) (Lib.countB a0 ⟨#[c]⟩ + 1)) ∧ w' = w.alloc (.cells ((Lib.splitB ⟨#[c]⟩ 0 (Lib.countB a0 ⟨#[c]⟩) a0).map Value.string).toArray 9)) ?_ ?_
  ·go_enter Tryd.func44, Tryd.ntmps44; go_wp2_with (go_at_call 61; refine (genSplit_one a0 c _ h1.2).mono ?_; rintro e w' ⟨rfl, hw⟩; rw [hw]); go_ret; exact ⟨rfl, rfl⟩
  ·rintro e w' ⟨rfl, rfl⟩; refine ⟨_, rfl, ?_, (Below.refl _ _).alloc (Nat.le_refl _) _⟩; rw [← hlen]; refine Kd.R_of_own ⟨by simp [encs], .inr ⟨w.heap.size, _, _, rfl, Nat.le_refl _, heap_alloc_new w _, Nat.le_refl _, by rw [hlen]; unfold maxLen; omega, by simp, by rw [Nat.mul_one]; exact (List.take_of_length_le (by simp)).trans (by simp [encs])⟩⟩ (fun _ _ => trivial)
 ·rw [if_neg h1] at h; cases h

set_option linter.unusedVariables false
set_option linter.unusedSimpArgs false

/-! ### stringslite_TrimSuffix: function 62 -/
def stringslite_TrimSuffix.f (a0 : ByteArray) (a1 : ByteArray) : Option (ByteArray) := (stringslite_HasSuffix.f a0 a1).bind fun t101 => (if t101 = true then (if 0 ≤ (wrap64 ((a0.size : Int) - (a1.size : Int))) then (if (wrap64 ((a0.size : Int) - (a1.size : Int))) ≤ (a0.size : Int) then (some (a0.extract 0 ((wrap64 ((a0.size : Int) - (a1.size : Int))) : Int).toNat)) else (none)) else (none)) else (some a0))
set_option maxHeartbeats 8000000 in
set_option maxRecDepth 100000 in
theorem stringslite_TrimSuffix.calls (a0 : ByteArray) (a1 : ByteArray) (r : ByteArray) (w : World) (h : stringslite_TrimSuffix.f a0 a1 = some r) :
  Calls Tryd.prog 62 #[.string a0, .string a1] w fun e w' => e = .returned (.string r) ∧ Drawn0 w w' := by
 have H : ((stringslite_HasSuffix.f a0 a1).bind fun t101 => (if t101 = true then (if 0 ≤ (wrap64 ((a0.size : Int) - (a1.size : Int))) then (if (wrap64 ((a0.size : Int) - (a1.size : Int))) ≤ (a0.size : Int) then (some (a0.extract 0 ((wrap64 ((a0.size : Int) - (a1.size : Int))) : Int).toNat)) else (none)) else (none)) else (some a0))) = some r := h; clear h; replace H := Option.bind_eq_some_iff.mp H; obtain ⟨t101, A30, H⟩ := H; replace H : (if t101 = true then (if 0 ≤ (wrap64 ((a0.size : Int) - (a1.size : Int))) then (if (wrap64 ((a0.size : Int) - (a1.size : Int))) ≤ (a0.size : Int) then (some (a0.extract 0 ((wrap64 ((a0.size : Int) - (a1.size : Int))) : Int).toNat)) else (none)) else (none)) else (some a0)) = some r := H; have A3 := Aside0.mk A30; clear A30
 by_cases c4 : t101 = true
 ·subst c4
  have H1 : (if 0 ≤ (wrap64 ((a0.size : Int) - (a1.size : Int))) then (if (wrap64 ((a0.size : Int) - (a1.size : Int))) ≤ (a0.size : Int) then (some (a0.extract 0 ((wrap64 ((a0.size : Int) - (a1.size : Int))) : Int).toNat)) else (none)) else (none)) = some r := by rw [if_pos rfl] at H; exact H
  clear H; have H := H1; clear H1; obtain ⟨ji5, hji5⟩ : ∃ j_ : Int, (wrap64 ((a0.size : Int) - (a1.size : Int))) = j_ := ⟨_, rfl⟩
  replace H : (if 0 ≤ (ji5) then (if (ji5) ≤ (a0.size : Int) then (some (a0.extract 0 ((ji5) : Int).toNat)) else (none)) else (none)) = some r := by first | (rw [hji5] at H; exact H) | (simp only [hji5] at H ⊢; exact H)
  (try rw [hji5] at A3); have hji5w : (IntKind.i64.wrap ((a0.size : Int) - (a1.size : Int))) = ji5 := (i64_w _).trans hji5
  by_cases c6 : 0 ≤ (ji5)
  ·rw [if_pos c6] at H
   have c6b0 := eq_true c6; have c6b1 : decide (0 ≤ (ji5)) = true := decide_eq_true c6; clear c6
   by_cases c7 : (ji5) ≤ (a0.size : Int)
   ·rw [if_pos c7] at H
    have c7b0 := eq_true c7; have c7b1 : decide ((ji5) ≤ (a0.size : Int)) = true := decide_eq_true c7; clear c7; obtain rfl := Option.some.inj H; go_enter Tryd.func62, Tryd.ntmps62; go_wp2_with (first | ((with_reducible refine gate_callee (f := 60) rfl ?_); refine goesL_ (some 7) rfl rfl Tryd.func60 (by kernel_rfl) rfl #[.string a0, .string a1] rfl bM ?_; (with_reducible refine (stringslite_HasSuffix.calls a0 a1 true _ A3.out).mono ?_); rintro e w' ⟨rfl, ⟨nd, rfl⟩⟩; refine ⟨_, rfl, ?_⟩)); go_ret
    exact ⟨by first | rfl | (simp; done) | (simp only [← hji5] <;> (first | rfl | simp)) | (simp [*]; done), (by repeat (first | exact Drawn0.refl _ | apply Drawn0.step))⟩
   ·rw [if_neg c7] at H; exact absurd H (by simp)
  ·rw [if_neg c6] at H; exact absurd H (by simp)
 ·replace c4 := Bool.eq_false_iff.mpr c4
  subst c4
  have H1 : (some a0) = some r := by rw [if_neg (show ¬ (false = true) by decide)] at H; exact H
  clear H; have H := H1; clear H1; obtain rfl := Option.some.inj H; go_enter Tryd.func62, Tryd.ntmps62; go_wp2_with (first | ((with_reducible refine gate_callee (f := 60) rfl ?_); refine goesL_ (some 7) rfl rfl Tryd.func60 (by kernel_rfl) rfl #[.string a0, .string a1] rfl bM ?_; (with_reducible refine (stringslite_HasSuffix.calls a0 a1 false _ A3.out).mono ?_); rintro e w' ⟨rfl, ⟨nd, rfl⟩⟩; refine ⟨_, rfl, ?_⟩)); go_ret
  exact ⟨by first | rfl | (simp; done) | (simp [*]; done), (by repeat (first | exact Drawn0.refl _ | apply Drawn0.step))⟩

set_option linter.unusedVariables false
set_option linter.unusedSimpArgs false

/-! ### strings_TrimSuffix: function 45 -/
def strings_TrimSuffix.f (a0 : ByteArray) (a1 : ByteArray) : Option (ByteArray) := (stringslite_TrimSuffix.f a0 a1).bind fun t101 => (some t101)
set_option maxHeartbeats 8000000 in
set_option maxRecDepth 100000 in
theorem strings_TrimSuffix.calls (a0 : ByteArray) (a1 : ByteArray) (r : ByteArray) (w : World) (h : strings_TrimSuffix.f a0 a1 = some r) :
    Calls Tryd.prog 45 #[.string a0, .string a1] w fun e w' => e = .returned (.string r) ∧ Drawn0 w w' := by
  have H : ((stringslite_TrimSuffix.f a0 a1).bind fun t101 => (some t101)) = some r := h
  clear h
  replace H := Option.bind_eq_some_iff.mp H
  obtain ⟨t101, A30, H⟩ := H
  replace H : (some t101) = some r := H
  have A3 := Aside0.mk A30
  clear A30
  obtain rfl := Option.some.inj H
  go_enter Tryd.func45, Tryd.ntmps45
  go_wp2_with (first | ((with_reducible refine gate_callee (f := 62) rfl ?_); refine goesL_ (some 7) rfl rfl Tryd.func62 (by kernel_rfl) rfl #[.string a0, .string a1] rfl bM ?_; (with_reducible refine (stringslite_TrimSuffix.calls a0 a1 t101 _ A3.out).mono ?_); rintro e w' ⟨rfl, ⟨nd, rfl⟩⟩; refine ⟨_, rfl, ?_⟩))
  go_ret
  exact ⟨by first | rfl | (simp; done) | (simp [*]; done), (by repeat (first | exact Drawn0.refl _ | apply Drawn0.step))⟩

set_option linter.unusedVariables false
set_option linter.unusedSimpArgs false

/-! ### impl_figureOf: function 63 -/
def impl_figureOf.f (a0 : Int) : Option (Int × Bool) := if a0 < 48 then (some (0, false)) else (if a0 > 57 then (some (0, false)) else (some ((a0 - 48) % 256, true)))
set_option maxHeartbeats 8000000 in
set_option maxRecDepth 100000 in
theorem impl_figureOf.calls (a0 : Int) (r1 : Int) (r2 : Bool) (w : World) (h : impl_figureOf.f a0 = some (r1, r2)) :
    Calls Tryd.prog 63 #[.int .u8 a0] w fun e w' => e = .returned (.tuple #[.int .i64 r1, .bool r2]) ∧ Drawn0 w w' := by
  have H : (if a0 < 48 then (some (0, false)) else (if a0 > 57 then (some (0, false)) else (some ((a0 - 48) % 256, true)))) = some (r1, r2) := h
  clear h
  by_cases c2 : a0 < 48
  · rw [if_pos c2] at H
    have c2b0 : decide (a0 < 48) = true := decide_eq_true c2
    clear c2
    simp only [Option.some.injEq, Prod.mk.injEq] at H
    obtain ⟨rfl, rfl⟩ := H
    go_enter Tryd.func63, Tryd.ntmps63
    go_wp2
    go_ret2
    exact ⟨by first | rfl | (simp; done) | (simp [*]; done), (by repeat (first | exact Drawn0.refl _ | apply Drawn0.step))⟩
  · rw [if_neg c2] at H
    have c2b0 : decide (a0 < 48) = false := decide_eq_false c2
    clear c2
    by_cases c3 : a0 > 57
    · rw [if_pos c3] at H
      have c3b0 : decide (57 < a0) = true := decide_eq_true c3
      clear c3
      simp only [Option.some.injEq, Prod.mk.injEq] at H
      obtain ⟨rfl, rfl⟩ := H
      go_enter Tryd.func63, Tryd.ntmps63
      go_wp2
      go_ret2
      exact ⟨by first | rfl | (simp; done) | (simp [*]; done), (by repeat (first | exact Drawn0.refl _ | apply Drawn0.step))⟩
    · rw [if_neg c3] at H
      have c3b0 : decide (57 < a0) = false := decide_eq_false c3
      clear c3
      simp only [Option.some.injEq, Prod.mk.injEq] at H
      obtain ⟨rfl, rfl⟩ := H
      go_enter Tryd.func63, Tryd.ntmps63
      go_wp2
      go_ret2
      exact ⟨by first | rfl | (simp; done) | (simp [*]; done), (by repeat (first | exact Drawn0.refl _ | apply Drawn0.step))⟩

set_option linter.unusedVariables false
set_option linter.unusedSimpArgs false

/-! ### impl_turnOf: function 46 -/
def impl_turnOf.j0 : Nat → List ByteArray → Bool → Option (Int × Int × Bool)
  | 0, _, _ => none
  | k + 1, x4, x27 => if x27 = true then (some (0, 0, false)) else (if 1 < (x4.length : Int) then (if 1 < ((rdOf ByteArray.empty x4 1).size : Int) then ((impl_figureOf.f (bt (rdOf ByteArray.empty x4 1) 1)).bind fun bt108 => (if 2 < (x4.length : Int) then (if 1 < ((rdOf ByteArray.empty x4 2).size : Int) then ((impl_figureOf.f (bt (rdOf ByteArray.empty x4 2) 1)).bind fun bt111 => (if bt108.2 = true then (some (bt108.1, bt111.1, bt111.2)) else (some (bt108.1, bt111.1, false)))) else (none)) else (none))) else (none)) else (none))
def impl_turnOf.f (k : Nat) (a0 : ByteArray) : Option (Int × Int × Bool) := (strings_Split.f a0 (⟨#[32]⟩ : ByteArray)).bind fun t102 => (if (t102.length : Int) = 3 then (if 1 < (t102.length : Int) then (if ((rdOf ByteArray.empty t102 1).size : Int) = 2 then (if 2 < (t102.length : Int) then (impl_turnOf.j0 k t102 (((rdOf ByteArray.empty t102 2).size : Int) != 2)) else (none)) else (impl_turnOf.j0 k t102 true)) else (none)) else (impl_turnOf.j0 k t102 true))
theorem impl_turnOf.mono_l : ∀ k, (∀ y0 y1, LeO (impl_turnOf.j0 k y0 y1) (impl_turnOf.j0 (k + 1) y0 y1))
  | 0 => fun _ _ r h => by simp [impl_turnOf.j0] at h
  | k + 1 => by
    have ih0 := impl_turnOf.mono_l k
    · intro y0 y1
      unfold impl_turnOf.j0
      repeat' first
      | (with_reducible exact ih0 _ _)
      | (with_reducible exact LeO.refl _)
      | (with_reducible exact LeO.none _)
      | (with_reducible refine LeO.ite ?_ ?_)
      | (with_reducible refine LeO.bind ?_ (fun _ => ?_))
      | exact ih0 _ _
      | exact LeO.none _
      | refine LeO.ite ?_ ?_
      | refine LeO.bind ?_ (fun _ => ?_)
theorem impl_turnOf.mono : ∀ a0 k, LeO (impl_turnOf.f k a0) (impl_turnOf.f (k + 1) a0) := by
  intro a0 k
  have ih0 := impl_turnOf.mono_l k
  unfold impl_turnOf.f
  repeat' first
      | (with_reducible exact ih0 _ _)
      | (with_reducible exact LeO.refl _)
      | (with_reducible exact LeO.none _)
      | (with_reducible refine LeO.ite ?_ ?_)
      | (with_reducible refine LeO.bind ?_ (fun _ => ?_))
      | exact ih0 _ _
      | exact LeO.none _
      | refine LeO.ite ?_ ?_
      | refine LeO.bind ?_ (fun _ => ?_)
set_option maxHeartbeats 8000000 in
set_option maxRecDepth 100000 in
theorem impl_turnOf.calls (k : Nat) (a0 : ByteArray) (r1 : Int) (r2 : Int) (r3 : Bool) (w : World) (h : impl_turnOf.f k a0 = some (r1, r2, r3)) :
  Calls Tryd.prog 46 #[.string a0] w fun e w' => e = .returned (.tuple #[.agg #[.int .i64 r1, .int .i64 r2], .bool r3]) ∧ Below w.heap.size w w' := by
 have hu35 := Tryd.underlying35; have HB := Aside0.mk (Below.refl w.heap.size w); have H : ((strings_Split.f a0 (⟨#[32]⟩ : ByteArray)).bind fun t102 => (if (t102.length : Int) = 3 then (if 1 < (t102.length : Int) then (if ((rdOf ByteArray.empty t102 1).size : Int) = 2 then (if 2 < (t102.length : Int) then (impl_turnOf.j0 k t102 (((rdOf ByteArray.empty t102 2).size : Int) != 2)) else (none)) else (impl_turnOf.j0 k t102 true)) else (none)) else (impl_turnOf.j0 k t102 true))) = some (r1, r2, r3) := h; clear h; replace H := Option.bind_eq_some_iff.mp H; obtain ⟨t102, A20, H⟩ := H; replace H : (if (t102.length : Int) = 3 then (if 1 < (t102.length : Int) then (if ((rdOf ByteArray.empty t102 1).size : Int) = 2 then (if 2 < (t102.length : Int) then (impl_turnOf.j0 k t102 (((rdOf ByteArray.empty t102 2).size : Int) != 2)) else (none)) else (impl_turnOf.j0 k t102 true)) else (none)) else (impl_turnOf.j0 k t102 true)) = some (r1, r2, r3) := H; have A2 := Aside0.mk A20; clear A20; have HC3 := Aside0.mk H; clear H; go_enter Tryd.func46, Tryd.ntmps46; go_upto_region 2 with (first | ((with_reducible refine gate_dst (N := 2) rfl ?_); (try (refine gate_guard (by rfl) ?_; dsimp only)); refine box_event ?hg (N := 2) ?hd (cs := #[.int .i64 0, .int .i64 0]) (t := 35) ?hr ?_; (case hd => rfl); (case hg => rfl); (case hr => first | (go_simp; done) | (go_simp; rfl)); intro gb101 hg w4 hbox hb; have n0_ := Aside0.mk (below_step (bC0 HB) hb); have n1_ := Aside0.mk (hbox); have n2_ := Aside0.mk ((by rw [hg]; exact (below_size (bC0 HB)) : w.heap.size ≤ gb101)); have n3_ := Aside0.mk ((by rw [hg]; exact (below_size (bC0 HB)) : w.heap.size ≤ gb101)); clear HB; have HB := n0_; have BK101 := n1_; have GW101 := n2_; have GE101 := n3_; clear n0_ n1_ n2_ n3_; clear hb hbox hg) | ((with_reducible refine gate_callee (f := 44) rfl ?_); refine goesL_ (some 10) rfl rfl Tryd.func44 (by kernel_rfl) rfl #[.string a0, .string (⟨#[32]⟩ : ByteArray)] rfl bM ?_; (with_reducible refine (strings_Split.calls a0 (⟨#[32]⟩ : ByteArray) t102 _ A2.out).mono ?_); rintro e w5 ⟨v103, rfl, ho0, hb⟩; refine ⟨_, rfl, ?_⟩; have n0_ := Aside0.mk (Kd.R_lower ho0 (below_size (bC1 HB GE101.out))); have n1_ := Aside0.mk (blk_below (g := gb101) (o := .cells #[.int .i64 0, .int .i64 0] 35 (0, 0)) (bA BK101) hb); have n2_ := Aside0.mk (below_step (bC1 HB GE101.out) hb); clear BK101; clear HB; have HO104 := n0_; have BK101 := n1_; have HB := n2_; clear n0_ n1_ n2_; (try clear hb); (try clear hb2); (try clear hk); (try clear hi); (try clear ho0))); (try simp only [Act.put, List.setIfInBounds_toArray, List.set_cons_zero, List.set_cons_succ]); go_cut [27] (fun v27 wc => ∃ (kq : Nat) (x27_2 : Bool), v27 = .bool x27_2 ∧ Aside0 (impl_turnOf.j0 kq t102 x27_2 = some (r1, r2, r3)) ∧ Aside0 (kq ≤ k) ∧ Aside0 (Kd.R Kd.string 9 wc w.heap.size (fun _ => True) v103 t102) ∧ Aside0 (wc.heap[gb101]? = some (.cells #[.int .i64 0, .int .i64 0] 35 (0, 0))) ∧ Aside0 (Below w.heap.size w wc))
 case first =>
  have H := HC3.out; clear HC3
  by_cases c6 : (t102.length : Int) = 3
  ·rw [if_pos c6] at H
   have c6b0 : ((t102.length : Int) == 3) = true := beq_iff_eq.mpr c6; have c6b1 : ((t102.length : Int) != 3) = false := bne_eq_false_iff_eq.mpr c6; clear c6; (first | rw [c6b0] | (simp only [i64_w, i32_w]; rw [c6b0]) | skip)
   by_cases c7 : 1 < (t102.length : Int)
   ·rw [if_pos c7] at H
    have c7b0 : decide (1 < (t102.length : Int)) = true := decide_eq_true c7; have c7b1 : decide (1 < t102.length) = true := decide_eq_true (by omega); clear c7
    by_cases c8 : ((rdOf ByteArray.empty t102 1).size : Int) = 2
    ·rw [if_pos c8] at H
     have c8b0 : (((rdOf ByteArray.empty t102 1).size : Int) == 2) = true := beq_iff_eq.mpr c8; have c8b1 : (((rdOf ByteArray.empty t102 1).size : Int) != 2) = false := bne_eq_false_iff_eq.mpr c8; clear c8
     by_cases c9 : 2 < (t102.length : Int)
     ·rw [if_pos c9] at H
      have c9b0 : decide (2 < (t102.length : Int)) = true := decide_eq_true c9; have c9b1 : decide (2 < t102.length) = true := decide_eq_true (by omega); clear c9; have H' := Aside0.mk H; clear H; obtain ⟨Ao10, co10, eo10⟩ := Kd.R_slice HO104.out; subst eo10; have p105 : 0 ≤ (1 : Int) := (by omega); have q105 : 1 < (t102.length : Int) := of_decide_eq_true bX; obtain ⟨ad105, e105, hx105_0⟩ := Kd.at_string (Kd.R_reads' HO104.out).2.2 1 p105 q105
      cases e105
      (try simp only [show (1 : Int).toNat = 1 from rfl, Nat.reduceMul, Nat.reduceEqDiff, Go.Addr.add, ↓reduceIte] at hx105_0); have qi105 : (1 < t102.length) = True := eq_true (by omega); (try rw [show ((1 : Int)).toNat = 1 from rfl] at hx105_0); replace p105 := eq_true p105; replace q105 := eq_true q105; have p106 : 0 ≤ (2 : Int) := (by omega); have q106 : 2 < (t102.length : Int) := of_decide_eq_true bX; obtain ⟨ad106, e106, hx106_0⟩ := Kd.at_string (Kd.R_reads' HO104.out).2.2 2 p106 q106; obtain rfl : ad105 = ad106 := (by injection e106); (try simp only [show (2 : Int).toNat = 2 from rfl, Nat.reduceMul, Nat.reduceEqDiff, Go.Addr.add, ↓reduceIte] at hx106_0); have qi106 : (2 < t102.length) = True := eq_true (by omega); (try rw [show ((2 : Int)).toNat = 2 from rfl] at hx106_0); replace p106 := eq_true p106; replace q106 := eq_true q106; go_wp2; go_meet
      case rel => exact ⟨_, ((((rdOf ByteArray.empty t102 2).size : Int) != 2)), (by first | rfl | (simp; done) | (simp [*]; done)), H', ⟨by first | omega | exact Nat.le_refl _⟩, ⟨by (with_reducible repeat (first | apply Kd.R_alloc | apply Kd.R_drewN | apply Kd.R_drew)); exact HO104.out⟩, ⟨by (with_reducible repeat (first | refine blk_drewN ?_ _ | refine blk_drew ?_ | refine blk_alloc ?_ _)); exact BK101.out⟩, ⟨(bC1 HB GE101.out)⟩⟩
     ·rw [if_neg c9] at H; exact absurd H (by simp)
    ·rw [if_neg c8] at H
     have c8b0 : (((rdOf ByteArray.empty t102 1).size : Int) == 2) = false := beq_eq_false_iff_ne.mpr c8; have c8b1 : (((rdOf ByteArray.empty t102 1).size : Int) != 2) = true := bne_iff_ne.mpr c8; have H' := Aside0.mk H; clear H; obtain ⟨Ao11, co11, eo11⟩ := Kd.R_slice HO104.out; subst eo11; have p105 : 0 ≤ (1 : Int) := (by omega); have q105 : 1 < (t102.length : Int) := of_decide_eq_true bX; obtain ⟨ad105, e105, hx105_0⟩ := Kd.at_string (Kd.R_reads' HO104.out).2.2 1 p105 q105
     cases e105
     (try simp only [show (1 : Int).toNat = 1 from rfl, Nat.reduceMul, Nat.reduceEqDiff, Go.Addr.add, ↓reduceIte] at hx105_0); have qi105 : (1 < t102.length) = True := eq_true (by omega); (try rw [show ((1 : Int)).toNat = 1 from rfl] at hx105_0); replace p105 := eq_true p105; replace q105 := eq_true q105; go_wp2; go_meet
     case rel => exact ⟨_, (true), (by first | rfl | (simp; done) | (simp [*]; done)), H', ⟨by first | omega | exact Nat.le_refl _⟩, ⟨by (with_reducible repeat (first | apply Kd.R_alloc | apply Kd.R_drewN | apply Kd.R_drew)); exact HO104.out⟩, ⟨by (with_reducible repeat (first | refine blk_drewN ?_ _ | refine blk_drew ?_ | refine blk_alloc ?_ _)); exact BK101.out⟩, ⟨(bC1 HB GE101.out)⟩⟩
   ·rw [if_neg c7] at H; exact absurd H (by simp)
  ·rw [if_neg c6] at H
   have c6b0 : ((t102.length : Int) == 3) = false := beq_eq_false_iff_ne.mpr c6; have c6b1 : ((t102.length : Int) != 3) = true := bne_iff_ne.mpr c6; (first | rw [c6b0] | (simp only [i64_w, i32_w]; rw [c6b0]) | skip); have H' := Aside0.mk H; clear H; obtain ⟨Ao12, co12, eo12⟩ := Kd.R_slice HO104.out; subst eo12; go_wp2; go_meet
   case rel => exact ⟨_, (true), (by first | rfl | (simp; done) | (simp [*]; done)), H', ⟨by first | omega | exact Nat.le_refl _⟩, ⟨by (with_reducible repeat (first | apply Kd.R_alloc | apply Kd.R_drewN | apply Kd.R_drew)); exact HO104.out⟩, ⟨by (with_reducible repeat (first | refine blk_drewN ?_ _ | refine blk_drew ?_ | refine blk_alloc ?_ _)); exact BK101.out⟩, ⟨(bC1 HB GE101.out)⟩⟩
 case rest =>
  clear HC3
  try clear p1
  try clear q1
  try clear hx1
  try clear qi1
  try clear p2
  try clear c4
  try clear c6
  try clear c6b0
  try clear c6b1
  try clear c7
  try clear c7b0
  try clear c7b1
  try clear c8
  try clear c8b0
  try clear c8b1
  try clear c9
  try clear c9b0
  try clear c9b1
  try clear p10
  try clear q10
  try clear hx10
  try clear qi10
  try clear hx105_0
  try clear hx106_0
  try clear p105
  try clear p106
  try clear q105
  try clear q106
  obtain ⟨kq, x27_2, rfl, HA, HJ2, HO_4, BK101, HB⟩ := hcut
  cases kq with
  | zero => exact absurd HA.out (by simp [impl_turnOf.j0])
  | succ kj2 =>
   have H := HA.out; clear HA; simp only [impl_turnOf.j0] at H
   by_cases c13 : x27_2 = true
   ·subst c13
    have H1 : (some (0, 0, false)) = some (r1, r2, r3) := by rw [if_pos rfl] at H; exact H
    clear H; have H := H1; clear H1; simp only [Option.some.injEq, Prod.mk.injEq] at H; obtain ⟨rfl, rfl, rfl⟩ := H; have hcz14_0 : wc.cell? ⟨gb101, 0, none⟩ = some (.int .i64 0) := (blk_cell BK101.out 0).trans rfl; have hcz14_1 : wc.cell? ⟨gb101, 1, none⟩ = some (.int .i64 0) := (blk_cell BK101.out 1).trans rfl; have hfz14_0 := blk_frozen BK101.out 0; have hfz14_1 := blk_frozen BK101.out 1; go_wp2; refine bodyPost_ret (results_ct rfl _ _ gb101 35 #[.int .i64 0, .int .i64 0] (0, 0) _ rfl (by (with_reducible repeat (first | refine blk_drewN ?_ _ | refine blk_drew ?_ | refine blk_alloc ?_ _)); refine blk_put (cs := #[.int .i64 0, .int .i64 0]) ?_ 1 _ rfl; (with_reducible repeat (first | refine blk_drewN ?_ _ | refine blk_drew ?_ | refine blk_alloc ?_ _)); refine blk_put (cs := #[.int .i64 0, .int .i64 0]) ?_ 0 _ rfl; (with_reducible repeat (first | refine blk_drewN ?_ _ | refine blk_drew ?_ | refine blk_alloc ?_ _)); exact BK101.out) Tryd.underlying35 rfl (by kernel_rfl)) rfl ?_
    exact ⟨bE, (bC1 HB GE101.out)⟩
   ·replace c13 := Bool.eq_false_iff.mpr c13
    subst c13
    have H1 : (if 1 < (t102.length : Int) then (if 1 < ((rdOf ByteArray.empty t102 1).size : Int) then ((impl_figureOf.f (bt (rdOf ByteArray.empty t102 1) 1)).bind fun bt108 => (if 2 < (t102.length : Int) then (if 1 < ((rdOf ByteArray.empty t102 2).size : Int) then ((impl_figureOf.f (bt (rdOf ByteArray.empty t102 2) 1)).bind fun bt111 => (if bt108.2 = true then (some (bt108.1, bt111.1, bt111.2)) else (some (bt108.1, bt111.1, false)))) else (none)) else (none))) else (none)) else (none)) = some (r1, r2, r3) := by rw [if_neg (show ¬ (false = true) by decide)] at H; exact H
    clear H; have H := H1; clear H1
    by_cases c15 : 1 < (t102.length : Int)
    ·rw [if_pos c15] at H
     have c15b0 : decide (1 < (t102.length : Int)) = true := decide_eq_true c15; have c15b1 : decide (1 < t102.length) = true := decide_eq_true (by omega); clear c15
     by_cases c16 : 1 < ((rdOf ByteArray.empty t102 1).size : Int)
     ·rw [if_pos c16] at H
      have c16b0 : decide (1 < ((rdOf ByteArray.empty t102 1).size : Int)) = true := decide_eq_true c16; have c16b1 : decide (1 < (rdOf ByteArray.empty t102 1).size) = true := decide_eq_true (by omega); clear c16; replace H := Option.bind_eq_some_iff.mp H; obtain ⟨⟨t108, t109⟩, A180, H⟩ := H; replace H : (if 2 < (t102.length : Int) then (if 1 < ((rdOf ByteArray.empty t102 2).size : Int) then ((impl_figureOf.f (bt (rdOf ByteArray.empty t102 2) 1)).bind fun bt111 => (if t109 = true then (some (t108, bt111.1, bt111.2)) else (some (t108, bt111.1, false)))) else (none)) else (none)) = some (r1, r2, r3) := H; have A18 := Aside0.mk A180; clear A180
      by_cases c19 : 2 < (t102.length : Int)
      ·rw [if_pos c19] at H
       have c19b0 : decide (2 < (t102.length : Int)) = true := decide_eq_true c19; have c19b1 : decide (2 < t102.length) = true := decide_eq_true (by omega); clear c19
       by_cases c20 : 1 < ((rdOf ByteArray.empty t102 2).size : Int)
       ·rw [if_pos c20] at H
        have c20b0 : decide (1 < ((rdOf ByteArray.empty t102 2).size : Int)) = true := decide_eq_true c20; have c20b1 : decide (1 < (rdOf ByteArray.empty t102 2).size) = true := decide_eq_true (by omega); clear c20; replace H := Option.bind_eq_some_iff.mp H; obtain ⟨⟨t111, t112⟩, A220, H⟩ := H; replace H : (if t109 = true then (some (t108, t111, t112)) else (some (t108, t111, false))) = some (r1, r2, r3) := H; have A22 := Aside0.mk A220; clear A220
        by_cases c23 : t109 = true
        ·subst c23
         have H1 : (some (t108, t111, t112)) = some (r1, r2, r3) := by rw [if_pos rfl] at H; exact H
         clear H; have H := H1; clear H1; simp only [Option.some.injEq, Prod.mk.injEq] at H; obtain ⟨rfl, rfl, rfl⟩ := H; obtain ⟨Ao24, co24, eo24⟩ := Kd.R_slice HO_4.out; subst eo24; have p107 : 0 ≤ (1 : Int) := (by omega); have q107 : 1 < (t102.length : Int) := of_decide_eq_true bX; obtain ⟨ad107, e107, hx107_0⟩ := Kd.at_string (Kd.R_reads' HO_4.out).2.2 1 p107 q107
         cases e107
         (try simp only [show (1 : Int).toNat = 1 from rfl, Nat.reduceMul, Nat.reduceEqDiff, Go.Addr.add, ↓reduceIte] at hx107_0); have qi107 : (1 < t102.length) = True := eq_true (by omega); (try rw [show ((1 : Int)).toNat = 1 from rfl] at hx107_0); replace p107 := eq_true p107; replace q107 := eq_true q107; have p17 : 0 ≤ (1 : Int) := (by omega); have q17 : 1 < (rdOf ByteArray.empty t102 1).size := (by have : (1 : Int) < ((rdOf ByteArray.empty t102 1).size : Int) := of_decide_eq_true bX; omega); have hx17 : ∀ h : 1 < (rdOf ByteArray.empty t102 1).size, (((rdOf ByteArray.empty t102 1)[1]'h).toNat : Int) = bt (rdOf ByteArray.empty t102 1) 1 := bt_at (rdOf ByteArray.empty t102 1) 1; clear p17; have qi17 : (1 < ((rdOf ByteArray.empty t102 1).size : Int)) = True := eq_true (of_decide_eq_true bX); replace q17 := eq_true q17; go_wp2_with (first | ((with_reducible refine gate_callee (f := 63) rfl ?_); refine goesL_ (some 34) rfl rfl Tryd.func63 (by kernel_rfl) rfl #[.int .u8 (bt (rdOf ByteArray.empty t102 1) 1)] rfl bM ?_; (with_reducible refine (impl_figureOf.calls (bt (rdOf ByteArray.empty t102 1) 1) t108 true _ A18.out).mono ?_); rintro e w' ⟨rfl, ⟨nd, rfl⟩⟩; refine ⟨_, rfl, ?_⟩; (try (rw [drewN_self wc]; generalize hq_ : World.drewN wc _ = wc; have n0_ : Aside0 (Kd.R Kd.string 9 wc w.heap.size (fun _ => True) (.slice (some ad107) t102.length co24) t102) := ⟨by rw [← hq_]; exact (bR HO_4)⟩; have n1_ : Aside0 (wc.heap[gb101]? = some (.cells #[.int .i64 0, .int .i64 0] 35 (0, 0))) := ⟨by rw [← hq_]; exact (bA BK101)⟩; have n2_ : Aside0 (Below w.heap.size w wc) := ⟨by rw [← hq_]; exact (bC1 HB GE101.out)⟩; clear HO_4 BK101 HB hq_; have HO_4 := n0_; have BK101 := n1_; have HB := n2_; clear n0_ n1_ n2_)); have p110 : 0 ≤ (2 : Int) := (by omega); have q110 : 2 < (t102.length : Int) := of_decide_eq_true bX; obtain ⟨ad110, e110, hx110_0⟩ := Kd.at_string (Kd.R_reads' HO_4.out).2.2 2 p110 q110; obtain rfl : ad107 = ad110 := (by injection e110); (try simp only [show (2 : Int).toNat = 2 from rfl, Nat.reduceMul, Nat.reduceEqDiff, Go.Addr.add, ↓reduceIte] at hx110_0); have qi110 : (2 < t102.length) = True := eq_true (by omega); (try rw [show ((2 : Int)).toNat = 2 from rfl] at hx110_0); replace p110 := eq_true p110; replace q110 := eq_true q110; have p21 : 0 ≤ (1 : Int) := (by omega); have q21 : 1 < (rdOf ByteArray.empty t102 2).size := (by have : (1 : Int) < ((rdOf ByteArray.empty t102 2).size : Int) := of_decide_eq_true bX; omega); have hx21 : ∀ h : 1 < (rdOf ByteArray.empty t102 2).size, (((rdOf ByteArray.empty t102 2)[1]'h).toNat : Int) = bt (rdOf ByteArray.empty t102 2) 1 := bt_at (rdOf ByteArray.empty t102 2) 1; clear p21; have qi21 : (1 < ((rdOf ByteArray.empty t102 2).size : Int)) = True := eq_true (of_decide_eq_true bX); replace q21 := eq_true q21) | ((with_reducible refine gate_callee (f := 63) rfl ?_); refine goesL_ (some 42) rfl rfl Tryd.func63 (by kernel_rfl) rfl #[.int .u8 (bt (rdOf ByteArray.empty t102 2) 1)] rfl bM ?_; (with_reducible refine (impl_figureOf.calls (bt (rdOf ByteArray.empty t102 2) 1) t111 t112 _ A22.out).mono ?_); rintro e w' ⟨rfl, ⟨nd, rfl⟩⟩; refine ⟨_, rfl, ?_⟩; (try (rw [drewN_self wc]; generalize hq_ : World.drewN wc _ = wc; have n0_ : Aside0 (Kd.R Kd.string 9 wc w.heap.size (fun _ => True) (.slice (some ad107) t102.length co24) t102) := ⟨by rw [← hq_]; exact (bR HO_4)⟩; have n1_ : Aside0 (wc.heap[gb101]? = some (.cells #[.int .i64 0, .int .i64 0] 35 (0, 0))) := ⟨by rw [← hq_]; exact (bA BK101)⟩; have n2_ : Aside0 (Below w.heap.size w wc) := ⟨by rw [← hq_]; exact (bC1 HB GE101.out)⟩; clear HO_4 BK101 HB hq_; have HO_4 := n0_; have BK101 := n1_; have HB := n2_; clear n0_ n1_ n2_)); have hcz25_0 : wc.cell? ⟨gb101, 0, none⟩ = some (.int .i64 0) := (blk_cell BK101.out 0).trans rfl; have hcz25_1 : wc.cell? ⟨gb101, 1, none⟩ = some (.int .i64 0) := (blk_cell BK101.out 1).trans rfl; have hfz25_0 := blk_frozen BK101.out 0; have hfz25_1 := blk_frozen BK101.out 1))
         refine bodyPost_ret (results_ct rfl _ _ gb101 35 #[.int .i64 t108, .int .i64 t111] (0, 0) _ rfl (by (with_reducible repeat (first | refine blk_drewN ?_ _ | refine blk_drew ?_ | refine blk_alloc ?_ _)); refine blk_put (cs := #[.int .i64 t108, .int .i64 0]) ?_ 1 _ rfl; (with_reducible repeat (first | refine blk_drewN ?_ _ | refine blk_drew ?_ | refine blk_alloc ?_ _)); refine blk_put (cs := #[.int .i64 0, .int .i64 0]) ?_ 0 _ rfl; (with_reducible repeat (first | refine blk_drewN ?_ _ | refine blk_drew ?_ | refine blk_alloc ?_ _)); exact BK101.out) Tryd.underlying35 rfl (by kernel_rfl)) rfl ?_
         exact ⟨bE, (bC1 HB GE101.out)⟩
        ·replace c23 := Bool.eq_false_iff.mpr c23
         subst c23
         have H1 : (some (t108, t111, false)) = some (r1, r2, r3) := by rw [if_neg (show ¬ (false = true) by decide)] at H; exact H
         clear H; have H := H1; clear H1; simp only [Option.some.injEq, Prod.mk.injEq] at H; obtain ⟨rfl, rfl, rfl⟩ := H; obtain ⟨Ao26, co26, eo26⟩ := Kd.R_slice HO_4.out; subst eo26; have p107 : 0 ≤ (1 : Int) := (by omega); have q107 : 1 < (t102.length : Int) := of_decide_eq_true bX; obtain ⟨ad107, e107, hx107_0⟩ := Kd.at_string (Kd.R_reads' HO_4.out).2.2 1 p107 q107
         cases e107
         (try simp only [show (1 : Int).toNat = 1 from rfl, Nat.reduceMul, Nat.reduceEqDiff, Go.Addr.add, ↓reduceIte] at hx107_0); have qi107 : (1 < t102.length) = True := eq_true (by omega); (try rw [show ((1 : Int)).toNat = 1 from rfl] at hx107_0); replace p107 := eq_true p107; replace q107 := eq_true q107; have p17 : 0 ≤ (1 : Int) := (by omega); have q17 : 1 < (rdOf ByteArray.empty t102 1).size := (by have : (1 : Int) < ((rdOf ByteArray.empty t102 1).size : Int) := of_decide_eq_true bX; omega); have hx17 : ∀ h : 1 < (rdOf ByteArray.empty t102 1).size, (((rdOf ByteArray.empty t102 1)[1]'h).toNat : Int) = bt (rdOf ByteArray.empty t102 1) 1 := bt_at (rdOf ByteArray.empty t102 1) 1; clear p17; have qi17 : (1 < ((rdOf ByteArray.empty t102 1).size : Int)) = True := eq_true (of_decide_eq_true bX); replace q17 := eq_true q17; go_wp2_with (first | ((with_reducible refine gate_callee (f := 63) rfl ?_); refine goesL_ (some 34) rfl rfl Tryd.func63 (by kernel_rfl) rfl #[.int .u8 (bt (rdOf ByteArray.empty t102 1) 1)] rfl bM ?_; (with_reducible refine (impl_figureOf.calls (bt (rdOf ByteArray.empty t102 1) 1) t108 false _ A18.out).mono ?_); rintro e w' ⟨rfl, ⟨nd, rfl⟩⟩; refine ⟨_, rfl, ?_⟩; (try (rw [drewN_self wc]; generalize hq_ : World.drewN wc _ = wc; have n0_ : Aside0 (Kd.R Kd.string 9 wc w.heap.size (fun _ => True) (.slice (some ad107) t102.length co26) t102) := ⟨by rw [← hq_]; exact (bR HO_4)⟩; have n1_ : Aside0 (wc.heap[gb101]? = some (.cells #[.int .i64 0, .int .i64 0] 35 (0, 0))) := ⟨by rw [← hq_]; exact (bA BK101)⟩; have n2_ : Aside0 (Below w.heap.size w wc) := ⟨by rw [← hq_]; exact (bC1 HB GE101.out)⟩; clear HO_4 BK101 HB hq_; have HO_4 := n0_; have BK101 := n1_; have HB := n2_; clear n0_ n1_ n2_)); have p110 : 0 ≤ (2 : Int) := (by omega); have q110 : 2 < (t102.length : Int) := of_decide_eq_true bX; obtain ⟨ad110, e110, hx110_0⟩ := Kd.at_string (Kd.R_reads' HO_4.out).2.2 2 p110 q110; obtain rfl : ad107 = ad110 := (by injection e110); (try simp only [show (2 : Int).toNat = 2 from rfl, Nat.reduceMul, Nat.reduceEqDiff, Go.Addr.add, ↓reduceIte] at hx110_0); have qi110 : (2 < t102.length) = True := eq_true (by omega); (try rw [show ((2 : Int)).toNat = 2 from rfl] at hx110_0); replace p110 := eq_true p110; replace q110 := eq_true q110; have p21 : 0 ≤ (1 : Int) := (by omega); have q21 : 1 < (rdOf ByteArray.empty t102 2).size := (by have : (1 : Int) < ((rdOf ByteArray.empty t102 2).size : Int) := of_decide_eq_true bX; omega); have hx21 : ∀ h : 1 < (rdOf ByteArray.empty t102 2).size, (((rdOf ByteArray.empty t102 2)[1]'h).toNat : Int) = bt (rdOf ByteArray.empty t102 2) 1 := bt_at (rdOf ByteArray.empty t102 2) 1; clear p21; have qi21 : (1 < ((rdOf ByteArray.empty t102 2).size : Int)) = True := eq_true (of_decide_eq_true bX); replace q21 := eq_true q21) | ((with_reducible refine gate_callee (f := 63) rfl ?_); refine goesL_ (some 42) rfl rfl Tryd.func63 (by kernel_rfl) rfl #[.int .u8 (bt (rdOf ByteArray.empty t102 2) 1)] rfl bM ?_; (with_reducible refine (impl_figureOf.calls (bt (rdOf ByteArray.empty t102 2) 1) t111 t112 _ A22.out).mono ?_); rintro e w' ⟨rfl, ⟨nd, rfl⟩⟩; refine ⟨_, rfl, ?_⟩; (try (rw [drewN_self wc]; generalize hq_ : World.drewN wc _ = wc; have n0_ : Aside0 (Kd.R Kd.string 9 wc w.heap.size (fun _ => True) (.slice (some ad107) t102.length co26) t102) := ⟨by rw [← hq_]; exact (bR HO_4)⟩; have n1_ : Aside0 (wc.heap[gb101]? = some (.cells #[.int .i64 0, .int .i64 0] 35 (0, 0))) := ⟨by rw [← hq_]; exact (bA BK101)⟩; have n2_ : Aside0 (Below w.heap.size w wc) := ⟨by rw [← hq_]; exact (bC1 HB GE101.out)⟩; clear HO_4 BK101 HB hq_; have HO_4 := n0_; have BK101 := n1_; have HB := n2_; clear n0_ n1_ n2_)); have hcz27_0 : wc.cell? ⟨gb101, 0, none⟩ = some (.int .i64 0) := (blk_cell BK101.out 0).trans rfl; have hcz27_1 : wc.cell? ⟨gb101, 1, none⟩ = some (.int .i64 0) := (blk_cell BK101.out 1).trans rfl; have hfz27_0 := blk_frozen BK101.out 0; have hfz27_1 := blk_frozen BK101.out 1))
         refine bodyPost_ret (results_ct rfl _ _ gb101 35 #[.int .i64 t108, .int .i64 t111] (0, 0) _ rfl (by (with_reducible repeat (first | refine blk_drewN ?_ _ | refine blk_drew ?_ | refine blk_alloc ?_ _)); refine blk_put (cs := #[.int .i64 t108, .int .i64 0]) ?_ 1 _ rfl; (with_reducible repeat (first | refine blk_drewN ?_ _ | refine blk_drew ?_ | refine blk_alloc ?_ _)); refine blk_put (cs := #[.int .i64 0, .int .i64 0]) ?_ 0 _ rfl; (with_reducible repeat (first | refine blk_drewN ?_ _ | refine blk_drew ?_ | refine blk_alloc ?_ _)); exact BK101.out) Tryd.underlying35 rfl (by kernel_rfl)) rfl ?_
         exact ⟨bE, (bC1 HB GE101.out)⟩
       ·rw [if_neg c20] at H; exact absurd H (by simp)
      ·rw [if_neg c19] at H; exact absurd H (by simp)
     ·rw [if_neg c16] at H; exact absurd H (by simp)
    ·rw [if_neg c15] at H; exact absurd H (by simp)

set_option linter.unusedVariables false
set_option linter.unusedSimpArgs false

/-! ### impl_CodeRead: function 21 -/
mutual
def impl_CodeRead.j0 : Nat → ByteArray → Bool → Option ((List (S35)) × Bool)
  | 0, _, _ => none
  | k + 1, x0, x18 => if x18 = true then (some (([] : List (S35)), false)) else ((strings_TrimSuffix.f x0 (⟨#[10]⟩ : ByteArray)).bind fun t102 => ((strings_Split.f t102 (⟨#[10]⟩ : ByteArray)).bind fun t103 => (impl_CodeRead.l0 k x0 ([] : List (S35)) t103 (t103.length : Int) 0)))
def impl_CodeRead.l0 : Nat → ByteArray → List (S35) → List ByteArray → Int → Int → Option ((List (S35)) × Bool)
  | 0, _, _, _, _, _ => none
  | k + 1, x0, x4, x21, x22, x23 => if x23 < x22 then (if 0 ≤ x23 then (if x23 < (x21.length : Int) then ((impl_turnOf.f k (rdOf ByteArray.empty x21 x23)).bind fun bt107 => (if bt107.2.2 = true then (if x4.length < 8796093022208 then (impl_CodeRead.l0 k x0 (x4 ++ [(⟨bt107.1, bt107.2.1⟩ : S35)]) x21 x22 (wrap64 (x23 + 1))) else (none)) else (some (([] : List (S35)), false)))) else (none)) else (none)) else ((impl_CodeStay.f k x4).bind fun bt114 => (if bt114.2 = true then ((impl_CodeWrite.f k bt114.1).bind fun t118 => (if t118.toList = x0.toList then (some (bt114.1, true)) else (some (([] : List (S35)), false)))) else (some (([] : List (S35)), false))))
end
def impl_CodeRead.f (k : Nat) (a0 : ByteArray) : Option ((List (S35)) × Bool) := if (a0.size : Int) > 4000 then (impl_CodeRead.j0 k a0 true) else ((strings_HasSuffix.f a0 (⟨#[10]⟩ : ByteArray)).bind fun t101 => (impl_CodeRead.j0 k a0 (!t101)))
theorem impl_CodeRead.mono_l : ∀ k, (∀ y0 y1, LeO (impl_CodeRead.j0 k y0 y1) (impl_CodeRead.j0 (k + 1) y0 y1)) ∧ (∀ y0 y1 y2 y3 y4, LeO (impl_CodeRead.l0 k y0 y1 y2 y3 y4) (impl_CodeRead.l0 (k + 1) y0 y1 y2 y3 y4))
  | 0 => ⟨fun _ _ r h => by simp [impl_CodeRead.j0] at h, fun _ _ _ _ _ r h => by simp [impl_CodeRead.l0] at h⟩
  | k + 1 => by
    obtain ⟨ih0, ih1⟩ := impl_CodeRead.mono_l k
    refine ⟨?_, ?_⟩
    · intro y0 y1
      unfold impl_CodeRead.j0
      repeat' first
      | (with_reducible exact ih0 _ _)
      | (with_reducible exact ih1 _ _ _ _ _)
      | (with_reducible exact impl_CodeStay.mono _ _)
      | (with_reducible exact impl_CodeWrite.mono _ _)
      | (with_reducible exact impl_turnOf.mono _ _)
      | (with_reducible exact LeO.refl _)
      | (with_reducible exact LeO.none _)
      | (with_reducible refine LeO.ite ?_ ?_)
      | (with_reducible refine LeO.bind ?_ (fun _ => ?_))
      | exact ih0 _ _
      | exact ih1 _ _ _ _ _
      | exact impl_CodeStay.mono _ _
      | exact impl_CodeWrite.mono _ _
      | exact impl_turnOf.mono _ _
      | exact LeO.none _
      | refine LeO.ite ?_ ?_
      | refine LeO.bind ?_ (fun _ => ?_)
    · intro y0 y1 y2 y3 y4
      unfold impl_CodeRead.l0
      repeat' first
      | (with_reducible exact ih0 _ _)
      | (with_reducible exact ih1 _ _ _ _ _)
      | (with_reducible exact impl_CodeStay.mono _ _)
      | (with_reducible exact impl_CodeWrite.mono _ _)
      | (with_reducible exact impl_turnOf.mono _ _)
      | (with_reducible exact LeO.refl _)
      | (with_reducible exact LeO.none _)
      | (with_reducible refine LeO.ite ?_ ?_)
      | (with_reducible refine LeO.bind ?_ (fun _ => ?_))
      | exact ih0 _ _
      | exact ih1 _ _ _ _ _
      | exact impl_CodeStay.mono _ _
      | exact impl_CodeWrite.mono _ _
      | exact impl_turnOf.mono _ _
      | exact LeO.none _
      | refine LeO.ite ?_ ?_
      | refine LeO.bind ?_ (fun _ => ?_)
theorem impl_CodeRead.mono : ∀ a0 k, LeO (impl_CodeRead.f k a0) (impl_CodeRead.f (k + 1) a0) := by
  intro a0 k
  obtain ⟨ih0, ih1⟩ := impl_CodeRead.mono_l k
  unfold impl_CodeRead.f
  repeat' first
      | (with_reducible exact ih0 _ _)
      | (with_reducible exact ih1 _ _ _ _ _)
      | (with_reducible exact impl_CodeStay.mono _ _)
      | (with_reducible exact impl_CodeWrite.mono _ _)
      | (with_reducible exact impl_turnOf.mono _ _)
      | (with_reducible exact LeO.refl _)
      | (with_reducible exact LeO.none _)
      | (with_reducible refine LeO.ite ?_ ?_)
      | (with_reducible refine LeO.bind ?_ (fun _ => ?_))
      | exact ih0 _ _
      | exact ih1 _ _ _ _ _
      | exact impl_CodeStay.mono _ _
      | exact impl_CodeWrite.mono _ _
      | exact impl_turnOf.mono _ _
      | exact LeO.none _
      | refine LeO.ite ?_ ?_
      | refine LeO.bind ?_ (fun _ => ?_)
set_option maxHeartbeats 8000000 in
set_option maxRecDepth 100000 in
theorem impl_CodeRead.calls (k : Nat) (a0 : ByteArray) (r1 : List (S35)) (r2 : Bool) (w : World) (h : impl_CodeRead.f k a0 = some (r1, r2)) :
  Calls Tryd.prog 21 #[.string a0] w fun e w' => ∃ v0_ : Value, e = .returned (.tuple #[v0_, .bool r2]) ∧ Kd.R k35 35 w' w.heap.size (fun _ => True) v0_ r1 ∧ Below w.heap.size w w' := by
 have hu35 := Tryd.underlying35; have HB := Aside0.mk (Below.refl w.heap.size w); have H : (if (a0.size : Int) > 4000 then (impl_CodeRead.j0 k a0 true) else ((strings_HasSuffix.f a0 (⟨#[10]⟩ : ByteArray)).bind fun t101 => (impl_CodeRead.j0 k a0 (!t101)))) = some (r1, r2) := h; clear h; have HC2 := Aside0.mk H; clear H; go_enter Tryd.func21, Tryd.ntmps21; go_upto_region 1 with (fail); go_cut [18] (fun v18 wc => ∃ (kq : Nat) (x18_1 : Bool), v18 = .bool x18_1 ∧ Aside0 (impl_CodeRead.j0 kq a0 x18_1 = some (r1, r2)) ∧ Aside0 (kq ≤ k) ∧ Aside0 (Below w.heap.size w wc))
 case first =>
  have H := HC2.out; clear HC2
  by_cases c3 : (a0.size : Int) > 4000
  ·rw [if_pos c3] at H
   have c3b0 : decide (4000 < (a0.size : Int)) = true := decide_eq_true c3; have c3b1 : decide (4000 < a0.size) = true := decide_eq_true (by omega); clear c3; (first | rw [c3b0] | (simp only [i64_w, i32_w]; rw [c3b0]) | skip); have H' := Aside0.mk H; clear H; go_wp2; go_meet
   case rel => exact ⟨_, (true), (by first | rfl | (simp; done) | (simp [*]; done)), H', ⟨by first | omega | exact Nat.le_refl _⟩, ⟨(bC0 HB)⟩⟩
  ·rw [if_neg c3] at H
   have c3b0 : decide (4000 < (a0.size : Int)) = false := decide_eq_false c3; have c3b1 : decide (4000 < a0.size) = false := decide_eq_false (by omega); clear c3; (first | rw [c3b0] | (simp only [i64_w, i32_w]; rw [c3b0]) | skip); replace H := Option.bind_eq_some_iff.mp H; obtain ⟨t101, A40, H⟩ := H; replace H : (impl_CodeRead.j0 k a0 (!t101)) = some (r1, r2) := H; have A4 := Aside0.mk A40; clear A40; have H' := Aside0.mk H; clear H; go_wp2_with (first | (go_at_call 43; (with_reducible refine (strings_HasSuffix.calls a0 (⟨#[10]⟩ : ByteArray) t101 _ A4.out).mono ?_); rintro e w' ⟨rfl, ⟨nd, rfl⟩⟩)); go_meet
   case rel => exact ⟨_, (!t101), (by first | rfl | (simp; done) | (simp [*]; done)), H', ⟨by first | omega | exact Nat.le_refl _⟩, ⟨(bC0 HB)⟩⟩
 case rest =>
  clear HC2
  try clear c2
  try clear p2
  try clear c3
  try clear c3b0
  try clear c3b1
  obtain ⟨kq, x18_1, rfl, HA, HJ1, HB⟩ := hcut
  cases kq with
  | zero => exact absurd HA.out (by simp [impl_CodeRead.j0])
  | succ kj1 =>
   have H := HA.out; clear HA; simp only [impl_CodeRead.j0] at H
   by_cases c5 : x18_1 = true
   ·subst c5
    have H1 : (some (([] : List (S35)), false)) = some (r1, r2) := by rw [if_pos rfl] at H; exact H
    clear H; have H := H1; clear H1; simp only [Option.some.injEq, Prod.mk.injEq] at H; obtain ⟨rfl, rfl⟩ := H; go_wp2; go_ret2
    exact ⟨_, bE, by first | exact Kd.R_nil _ _ _ _ _ | exact Kd.N_nil _ _ _ _ _ | exact Kd.V_nil _ _ _ _ _ | exact Kd.Q_nil _ _ _ _ _ | exact Kd.S_nil _ _ _ _ _, (bC0 HB)⟩
   ·replace c5 := Bool.eq_false_iff.mpr c5
    subst c5
    have H1 : ((strings_TrimSuffix.f a0 (⟨#[10]⟩ : ByteArray)).bind fun t102 => ((strings_Split.f t102 (⟨#[10]⟩ : ByteArray)).bind fun t103 => (impl_CodeRead.l0 kj1 a0 ([] : List (S35)) t103 (t103.length : Int) 0))) = some (r1, r2) := by rw [if_neg (show ¬ (false = true) by decide)] at H; exact H
    clear H; have H := H1; clear H1; replace H := Option.bind_eq_some_iff.mp H; obtain ⟨t102, A60, H⟩ := H; replace H : ((strings_Split.f t102 (⟨#[10]⟩ : ByteArray)).bind fun t103 => (impl_CodeRead.l0 kj1 a0 ([] : List (S35)) t103 (t103.length : Int) 0)) = some (r1, r2) := H; have A6 := Aside0.mk A60; clear A60; replace H := Option.bind_eq_some_iff.mp H; obtain ⟨t103, A70, H⟩ := H; replace H : (impl_CodeRead.l0 kj1 a0 ([] : List (S35)) t103 (t103.length : Int) 0) = some (r1, r2) := H; have A7 := Aside0.mk A70; clear A70; have H' := Aside0.mk H; clear H; go_wp2_with (first | ((with_reducible refine gate_callee (f := 45) rfl ?_); refine goesL_ (some 20) rfl rfl Tryd.func45 (by kernel_rfl) rfl #[.string a0, .string (⟨#[10]⟩ : ByteArray)] rfl bM ?_; (with_reducible refine (strings_TrimSuffix.calls a0 (⟨#[10]⟩ : ByteArray) t102 _ A6.out).mono ?_); rintro e w' ⟨rfl, ⟨nd, rfl⟩⟩; refine ⟨_, rfl, ?_⟩) | ((with_reducible refine gate_callee (f := 44) rfl ?_); refine goesL_ (some 21) rfl rfl Tryd.func44 (by kernel_rfl) rfl #[.string t102, .string (⟨#[10]⟩ : ByteArray)] rfl bM ?_; (with_reducible refine (strings_Split.calls t102 (⟨#[10]⟩ : ByteArray) t103 _ A7.out).mono ?_); rintro e w8 ⟨v104, rfl, ho0, hb⟩; refine ⟨_, rfl, ?_⟩; have n0_ := Aside0.mk (Kd.R_lower ho0 (below_size (bC0 HB))); have n1_ := Aside0.mk (below_step (bC0 HB) hb); clear HB; have HO105 := n0_; have HB := n1_; clear n0_ n1_; (try clear hb); (try clear hb2); (try clear hk); (try clear hi); (try clear ho0); obtain ⟨Ao9, co9, eo9⟩ := Kd.R_slice HO105.out; subst eo9)); go_loopg [4, 23] kj1 (fun kq v4 v23 w' => ∃ (x4_2 : List (S35)) (x23_2 : Int), v23 = .int .i64 x23_2 ∧ Aside0 (impl_CodeRead.l0 kq a0 x4_2 t103 (t103.length : Int) x23_2 = some (r1, r2)) ∧ Aside0 (kq ≤ kj1) ∧ Aside0 (Kd.R k35 35 w' w.heap.size (fun _ => True) v4 x4_2) ∧ Aside0 (Kd.R Kd.string 9 w' w.heap.size (fun _ => True) (.slice Ao9 t103.length co9) t103) ∧ Aside0 (Below w.heap.size w w'))
    case atStart => exact ⟨(([] : List (S35))), (0), (by first | rfl | (simp; done) | (simp [*]; done)), H', ⟨Nat.le_refl _⟩, ⟨by first | exact Kd.R_nil _ _ _ _ _ | exact Kd.N_nil _ _ _ _ _ | exact Kd.V_nil _ _ _ _ _ | exact Kd.Q_nil _ _ _ _ _ | exact Kd.S_nil _ _ _ _ _⟩, ⟨by (with_reducible repeat (first | apply Kd.R_alloc | apply Kd.R_drewN | apply Kd.R_drew)); exact HO105.out⟩, ⟨(bC0 HB)⟩⟩
    case round =>
     clear H'
     try clear c2
     try clear p2
     try clear c3
     try clear c3b0
     try clear c3b1
     try clear c4
     try clear c5
     try clear p2
     obtain ⟨x4_2, x23_2, rfl, HA, HK2, HO_4, HO_21, HB⟩ := hrel
     cases gk with
     | zero => exact absurd HA.out (by simp [impl_CodeRead.l0])
     | succ k2 =>
      have H := HA.out; clear HA; simp only [impl_CodeRead.l0] at H
      by_cases c10 : x23_2 < (t103.length : Int)
      ·rw [if_pos c10] at H
       have c10b0 : decide (x23_2 < (t103.length : Int)) = true := decide_eq_true c10; clear c10
       by_cases c11 : 0 ≤ x23_2
       ·rw [if_pos c11] at H
        have c11b0 : decide (0 ≤ x23_2) = true := decide_eq_true c11; clear c11
        by_cases c12 : x23_2 < (t103.length : Int)
        ·rw [if_pos c12] at H
         have c12b0 : decide (x23_2 < (t103.length : Int)) = true := decide_eq_true c12; clear c12; replace H := Option.bind_eq_some_iff.mp H; obtain ⟨⟨t107, t108, t109⟩, A130, H⟩ := H; replace H : (if t109 = true then (if x4_2.length < 8796093022208 then (impl_CodeRead.l0 k2 a0 (x4_2 ++ [(⟨t107, t108⟩ : S35)]) t103 (t103.length : Int) (wrap64 (x23_2 + 1))) else (none)) else (some (([] : List (S35)), false))) = some (r1, r2) := H; have A13 := Aside0.mk A130; clear A130
         by_cases c14 : t109 = true
         ·subst c14
          have H1 : (if x4_2.length < 8796093022208 then (impl_CodeRead.l0 k2 a0 (x4_2 ++ [(⟨t107, t108⟩ : S35)]) t103 (t103.length : Int) (wrap64 (x23_2 + 1))) else (none)) = some (r1, r2) := by rw [if_pos rfl] at H; exact H
          clear H; have H := H1; clear H1
          by_cases c15 : x4_2.length < 8796093022208
          ·rw [if_pos c15] at H
           have LMc15 := Aside0.mk c15; clear c15; obtain ⟨y111, hy111⟩ : ∃ y_ : List (S35), y_ = (x4_2 ++ [(⟨t107, t108⟩ : S35)]) := ⟨_, rfl⟩
           replace H : (impl_CodeRead.l0 k2 a0 y111 t103 (t103.length : Int) (wrap64 (x23_2 + 1))) = some (r1, r2) := by first | (rw [hy111]; with_reducible exact H) | (have H2_ := (Option.bind_some _ _).symm.trans H; rw [hy111]; with_reducible exact H2_) | (have H2_ := (Option.bind_some _ _).symm.trans H; with_reducible exact H2_) | with_reducible exact H | (rw [hy111]; exact H) | exact H
           have Ny111 := Aside0.mk hy111; clear hy111; have H' := Aside0.mk H; clear H; have p106 : 0 ≤ (x23_2 : Int) := of_decide_eq_true bX; have q106 : x23_2 < (t103.length : Int) := of_decide_eq_true bX; obtain ⟨ad106, e106, hx106_0⟩ := Kd.at_string (Kd.R_reads' HO_21.out).2.2 x23_2 p106 q106
           cases e106
           replace p106 := eq_true p106; replace q106 := eq_true q106; go_wp2_with (first | ((with_reducible refine gate_callee (f := 46) rfl ?_); refine goesL_ (some 29) rfl rfl Tryd.func46 (by kernel_rfl) rfl #[.string (rdOf ByteArray.empty t103 x23_2)] rfl bM ?_; (with_reducible refine (impl_turnOf.calls k2 (rdOf ByteArray.empty t103 x23_2) t107 t108 true _ A13.out).mono ?_); rintro e w16 ⟨rfl, hb⟩; refine ⟨_, rfl, ?_⟩; have n0_ := Aside0.mk (Kd.R_below (bR HO_4) hb); have n1_ := Aside0.mk (Kd.R_below (bR HO_21) hb); have n2_ := Aside0.mk (below_step (bC0 HB) hb); clear HO_4; clear HO_21; clear HB; have HO_4 := n0_; have HO_21 := n1_; have HB := n2_; clear n0_ n1_ n2_; (try clear hb); (try clear hb2); (try clear hk); (try clear hi)) | ((with_reducible refine gate_dst (N := 7) rfl ?_); refine box_event ?hg (N := 7) ?hd (cs := #[.int .i64 0, .int .i64 0]) (t := 35) ?hr ?_; (case hd => rfl); (case hg => rfl); (case hr => first | (go_simp; done) | (go_simp; rfl)); intro gb110 hg w17 hbox hb; have n0_ := Aside0.mk (Kd.R_below (Kd.R_elderB (bR HO_4) gb110 (Nat.le_of_eq hg.symm)) hb); have n1_ := Aside0.mk (Kd.R_below (bR HO_21) hb); have n2_ := Aside0.mk (below_step (bC0 HB) hb); have n3_ := Aside0.mk (hbox); have n4_ := Aside0.mk ((by rw [hg]; exact (below_size (bC0 HB)) : w.heap.size ≤ gb110)); have n5_ := Aside0.mk ((by rw [hg]; exact (below_size (bC0 HB)) : w.heap.size ≤ gb110)); clear HO_4; clear HO_21; clear HB; have HO_4 := n0_; have HO_21 := n1_; have HB := n2_; have BK110 := n3_; have GW110 := n4_; have GE110 := n5_; clear n0_ n1_ n2_ n3_ n4_ n5_; clear hb hbox hg; have hcz18_0 : w17.cell? ⟨gb110, 0, none⟩ = some (.int .i64 0) := (blk_cell BK110.out 0).trans rfl; have hcz18_1 : w17.cell? ⟨gb110, 1, none⟩ = some (.int .i64 0) := (blk_cell BK110.out 1).trans rfl; have hfz18_0 := blk_frozen BK110.out 0; have hfz18_1 := blk_frozen BK110.out 1) | ((with_reducible refine gate_builtin (b := .append) (xs := #[.tmp 34, .tmp 36]) rfl ?_); at_builtin; refine Kd.R_append k35 (w0 := w) w.heap.size rfl (.tmp 34) (.tmp 36) 25 35 (.agg #[(.int .i64 0), (.int .i64 0)]) 16 rfl Tryd.underlying25 info35 rfl (by decide) (by omega) u4 x4_2 (⟨t107, t108⟩ : S35) [.int .i64 t107, .int .i64 t108] (fun k_ => k_ ≠ gb110) (fun _ => False) rfl (by first | (go_simp; done) | (go_simp; rfl)) ?aP (fun _ hk => hk.elim) ?aF ?aO ?aB ?aS ?aL ?_; (case aP => exact k35_mkM _ _ _ (⟨t107, t108⟩ : S35)); (case aB => exact (bC1 HB GE110.out)); (case aF => exact (fun k_ hk => Kd.freshB (g := gb110) (o := .cells #[.int .i64 t107, .int .i64 t108] 35 (0, 0)) (by (with_reducible repeat (first | refine blk_drewN ?_ _ | refine blk_drew ?_ | refine blk_alloc ?_ _)); refine blk_put (cs := #[.int .i64 t107, .int .i64 0]) ?_ 1 _ rfl; (with_reducible repeat (first | refine blk_drewN ?_ _ | refine blk_drew ?_ | refine blk_alloc ?_ _)); refine blk_put (cs := #[.int .i64 0, .int .i64 0]) ?_ 0 _ rfl; (with_reducible repeat (first | refine blk_drewN ?_ _ | refine blk_drew ?_ | refine blk_alloc ?_ _)); exact BK110.out) k_ hk)); (case aO => exact (by (with_reducible repeat (first | apply Kd.R_alloc | apply Kd.R_drewN | apply Kd.R_drew)); exact Kd.R_mono (Kd.R_far (p := ⟨gb110, 1, none⟩) (Kd.R_far (p := ⟨gb110, 0, none⟩) (Kd.R_mono HO_4.out (fun k_ hk => (⟨hk, hk.2⟩ : _ ∧ k_ ≠ gb110))) (fun _ hk => hk.2) (.int .i64 t107)) (fun _ hk => hk.2) (.int .i64 t108)) (fun _ hk => hk.1.2))); (case aS => exact (below_size (bC1 HB GE110.out))); (case aL => have := LMc15.out; omega); intro v112 w19 ho hb hg hat; rw [← Ny111.out] at ho; have n0_ := Aside0.mk (Kd.R_over' (by (with_reducible repeat (first | apply Kd.R_alloc | apply Kd.R_drewN | apply Kd.R_drew)); exact (Kd.R_mono (Kd.R_far (p := ⟨gb110, 1, none⟩) (Kd.R_far (p := ⟨gb110, 0, none⟩) (Kd.R_types HO_21.out BK110.out (by decide)) (fun _ hk => hk.2) (.int .i64 t107)) (fun _ hk => hk.2) (.int .i64 t108)) (fun _ h_ => h_.1))) (Kd.R_typed (by (with_reducible repeat (first | apply Kd.R_alloc | apply Kd.R_drewN | apply Kd.R_drew)); exact (Kd.R_mono (Kd.R_far (p := ⟨gb110, 1, none⟩) (Kd.R_far (p := ⟨gb110, 0, none⟩) (Kd.R_mono HO_4.out (fun k_ hk => (⟨hk, hk.2⟩ : _ ∧ k_ ≠ gb110))) (fun _ hk => hk.2) (.int .i64 t107)) (fun _ hk => hk.2) (.int .i64 t108)) (fun _ h_ => h_.1)))) (by decide) hg); have n1_ := Aside0.mk (blk_grown (g := gb110) (o := .cells #[.int .i64 t107, .int .i64 t108] 35 (0, 0)) (by (with_reducible repeat (first | refine blk_drewN ?_ _ | refine blk_drew ?_ | refine blk_alloc ?_ _)); refine blk_put (cs := #[.int .i64 t107, .int .i64 0]) ?_ 1 _ rfl; (with_reducible repeat (first | refine blk_drewN ?_ _ | refine blk_drew ?_ | refine blk_alloc ?_ _)); refine blk_put (cs := #[.int .i64 0, .int .i64 0]) ?_ 0 _ rfl; (with_reducible repeat (first | refine blk_drewN ?_ _ | refine blk_drew ?_ | refine blk_alloc ?_ _)); exact BK110.out) hg (Kd.R_away HO_4.out (fun _ hk => hk.2))); have n2_ := Aside0.mk (hb); have n3_ := Aside0.mk (ho); clear HO_21; clear BK110; clear HB; clear HO_4; have HO_21 := n0_; have BK110 := n1_; have HB := n2_; have HO113 := n3_; clear n0_ n1_ n2_ n3_; clear ho hb hg hat))
           go_roundg k2
           case measure => have := HJ1.out; have := HK2.out; omega
           case rel => exact ⟨(y111), (wrap64 (x23_2 + 1)), (by first | rfl | (simp; done) | (simp [*]; done)), H', ⟨by have := HJ1.out; have := HK2.out; omega⟩, ⟨by (with_reducible repeat (first | apply Kd.R_alloc | apply Kd.R_drewN | apply Kd.R_drew)); exact Kd.R_mono HO113.out (fun _ hk => trivial)⟩, ⟨by (with_reducible repeat (first | apply Kd.R_alloc | apply Kd.R_drewN | apply Kd.R_drew)); exact HO_21.out⟩, ⟨(bC1 HB GE110.out)⟩⟩
          ·rw [if_neg c15] at H; exact absurd H (by simp)
         ·replace c14 := Bool.eq_false_iff.mpr c14
          subst c14
          have H1 : (some (([] : List (S35)), false)) = some (r1, r2) := by rw [if_neg (show ¬ (false = true) by decide)] at H; exact H
          clear H; have H := H1; clear H1; simp only [Option.some.injEq, Prod.mk.injEq] at H; obtain ⟨rfl, rfl⟩ := H; have p106 : 0 ≤ (x23_2 : Int) := of_decide_eq_true bX; have q106 : x23_2 < (t103.length : Int) := of_decide_eq_true bX; obtain ⟨ad106, e106, hx106_0⟩ := Kd.at_string (Kd.R_reads' HO_21.out).2.2 x23_2 p106 q106
          cases e106
          replace p106 := eq_true p106; replace q106 := eq_true q106; go_wp2_with (first | ((with_reducible refine gate_callee (f := 46) rfl ?_); refine goesL_ (some 29) rfl rfl Tryd.func46 (by kernel_rfl) rfl #[.string (rdOf ByteArray.empty t103 x23_2)] rfl bM ?_; (with_reducible refine (impl_turnOf.calls k2 (rdOf ByteArray.empty t103 x23_2) t107 t108 false _ A13.out).mono ?_); rintro e w20 ⟨rfl, hb⟩; refine ⟨_, rfl, ?_⟩; have n0_ := Aside0.mk (Kd.R_below (bR HO_4) hb); have n1_ := Aside0.mk (Kd.R_below (bR HO_21) hb); have n2_ := Aside0.mk (below_step (bC0 HB) hb); clear HO_4; clear HO_21; clear HB; have HO_4 := n0_; have HO_21 := n1_; have HB := n2_; clear n0_ n1_ n2_; (try clear hb); (try clear hb2); (try clear hk); (try clear hi)) | ((with_reducible refine gate_dst (N := 7) rfl ?_); refine box_event ?hg (N := 7) ?hd (cs := #[.int .i64 0, .int .i64 0]) (t := 35) ?hr ?_; (case hd => rfl); (case hg => rfl); (case hr => first | (go_simp; done) | (go_simp; rfl)); intro gb110 hg w21 hbox hb; have n0_ := Aside0.mk (Kd.R_below (Kd.R_elderB (bR HO_4) gb110 (Nat.le_of_eq hg.symm)) hb); have n1_ := Aside0.mk (Kd.R_below (bR HO_21) hb); have n2_ := Aside0.mk (below_step (bC0 HB) hb); have n3_ := Aside0.mk (hbox); have n4_ := Aside0.mk ((by rw [hg]; exact (below_size (bC0 HB)) : w.heap.size ≤ gb110)); have n5_ := Aside0.mk ((by rw [hg]; exact (below_size (bC0 HB)) : w.heap.size ≤ gb110)); clear HO_4; clear HO_21; clear HB; have HO_4 := n0_; have HO_21 := n1_; have HB := n2_; have BK110 := n3_; have GW110 := n4_; have GE110 := n5_; clear n0_ n1_ n2_ n3_ n4_ n5_; clear hb hbox hg; have hcz22_0 : w21.cell? ⟨gb110, 0, none⟩ = some (.int .i64 0) := (blk_cell BK110.out 0).trans rfl; have hcz22_1 : w21.cell? ⟨gb110, 1, none⟩ = some (.int .i64 0) := (blk_cell BK110.out 1).trans rfl; have hfz22_0 := blk_frozen BK110.out 0; have hfz22_1 := blk_frozen BK110.out 1)); go_ret2
          exact ⟨_, bE, by first | exact Kd.R_nil _ _ _ _ _ | exact Kd.N_nil _ _ _ _ _ | exact Kd.V_nil _ _ _ _ _ | exact Kd.Q_nil _ _ _ _ _ | exact Kd.S_nil _ _ _ _ _, (bC1 HB GE110.out)⟩
        ·rw [if_neg c12] at H; exact absurd H (by simp)
       ·rw [if_neg c11] at H; exact absurd H (by simp)
      ·rw [if_neg c10] at H
       have c10b0 : decide (x23_2 < (t103.length : Int)) = false := decide_eq_false c10; clear c10; replace H := Option.bind_eq_some_iff.mp H; obtain ⟨⟨t114, t115⟩, A230, H⟩ := H; replace H : (if t115 = true then ((impl_CodeWrite.f k2 t114).bind fun t118 => (if t118.toList = a0.toList then (some (t114, true)) else (some (([] : List (S35)), false)))) else (some (([] : List (S35)), false))) = some (r1, r2) := H; have A23 := Aside0.mk A230; clear A230
       by_cases c24 : t115 = true
       ·subst c24
        have H1 : ((impl_CodeWrite.f k2 t114).bind fun t118 => (if t118.toList = a0.toList then (some (t114, true)) else (some (([] : List (S35)), false)))) = some (r1, r2) := by rw [if_pos rfl] at H; exact H
        clear H; have H := H1; clear H1; replace H := Option.bind_eq_some_iff.mp H; obtain ⟨t118, A250, H⟩ := H; replace H : (if t118.toList = a0.toList then (some (t114, true)) else (some (([] : List (S35)), false))) = some (r1, r2) := H; have A25 := Aside0.mk A250; clear A250
        by_cases c26 : t118.toList = a0.toList
        ·rw [if_pos c26] at H
         have c26b0 : (t118.toList == a0.toList) = true := beq_iff_eq.mpr c26; have c26b1 : (t118.toList != a0.toList) = false := bne_eq_false_iff_eq.mpr c26; clear c26; simp only [Option.some.injEq, Prod.mk.injEq] at H; obtain ⟨rfl, rfl⟩ := H; obtain ⟨Ao27, co27, eo27⟩ := Kd.R_slice HO_4.out; subst eo27; go_wp2_with (first | ((with_reducible refine gate_callee (f := 20) rfl ?_); refine goesL_ (some 41) rfl rfl Tryd.func20 (by kernel_rfl) rfl #[.slice Ao27 x4_2.length co27] rfl bM ?_; (with_reducible refine (impl_CodeStay.calls k2 _ _ x4_2 t114 true _ ?side1 ?side2 A23.out).mono ?_); (case side1 => repeat (first | exact (Kd.R_reads' HO_4.out).2.2 | (with_reducible refine Kd.C_alloc ?_ _) | (with_reducible refine Kd.C_drewN ?_ _) | (with_reducible refine Kd.C_drew ?_))); (case side2 => exact (Kd.R_reads' HO_4.out).2.1); rintro e w28 ⟨v116, rfl, ho0, hb⟩; refine ⟨_, rfl, ?_⟩; have n0_ := Aside0.mk (Kd.R_elder' (bR HO_4) (Kd.R_base ho0) hb); have n1_ := Aside0.mk (Kd.R_below (bR HO_21) hb); have n2_ := Aside0.mk (Kd.R_lower (Kd.R_new' ho0 (Kd.R_lt (bR HO_4))) (below_size (bC0 HB))); have n3_ := Aside0.mk (below_step (bC0 HB) hb); clear HO_4; clear HO_21; clear HB; have HO_4 := n0_; have HO_21 := n1_; have HO117 := n2_; have HB := n3_; clear n0_ n1_ n2_ n3_; (try clear hb); (try clear hb2); (try clear hk); (try clear hi); (try clear ho0); obtain ⟨Ao29, co29, eo29⟩ := Kd.R_slice HO117.out; subst eo29) | (go_at_call 13; (with_reducible refine (impl_CodeWrite.calls k2 _ _ t114 t118 _ ?side1 ?side2 A25.out).mono ?_); (case side1 => repeat (first | exact (Kd.R_reads' HO117.out).2.2 | (with_reducible refine Kd.C_alloc ?_ _) | (with_reducible refine Kd.C_drewN ?_ _) | (with_reducible refine Kd.C_drew ?_))); (case side2 => exact (Kd.R_reads' HO117.out).2.1); rintro e w30 ⟨rfl, hb⟩; have n0_ := Aside0.mk (Kd.R_below (bR HO_4) hb); have n1_ := Aside0.mk (Kd.R_below (bR HO_21) hb); have n2_ := Aside0.mk (Kd.R_below (bR HO117) hb); have n3_ := Aside0.mk (below_step (bC0 HB) hb); clear HO_4; clear HO_21; clear HO117; clear HB; have HO_4 := n0_; have HO_21 := n1_; have HO117 := n2_; have HB := n3_; clear n0_ n1_ n2_ n3_; (try clear hb); (try clear hb2); (try clear hk); (try clear hi))); go_ret2
         exact ⟨_, bE, by (with_reducible repeat (first | apply Kd.R_alloc | apply Kd.R_drewN | apply Kd.R_drew)); exact Kd.R_mono HO117.out (fun _ hk => trivial), (bC0 HB)⟩
        ·rw [if_neg c26] at H
         have c26b0 : (t118.toList == a0.toList) = false := beq_eq_false_iff_ne.mpr c26; have c26b1 : (t118.toList != a0.toList) = true := bne_iff_ne.mpr c26; simp only [Option.some.injEq, Prod.mk.injEq] at H; obtain ⟨rfl, rfl⟩ := H; obtain ⟨Ao31, co31, eo31⟩ := Kd.R_slice HO_4.out; subst eo31; go_wp2_with (first | ((with_reducible refine gate_callee (f := 20) rfl ?_); refine goesL_ (some 41) rfl rfl Tryd.func20 (by kernel_rfl) rfl #[.slice Ao31 x4_2.length co31] rfl bM ?_; (with_reducible refine (impl_CodeStay.calls k2 _ _ x4_2 t114 true _ ?side1 ?side2 A23.out).mono ?_); (case side1 => repeat (first | exact (Kd.R_reads' HO_4.out).2.2 | (with_reducible refine Kd.C_alloc ?_ _) | (with_reducible refine Kd.C_drewN ?_ _) | (with_reducible refine Kd.C_drew ?_))); (case side2 => exact (Kd.R_reads' HO_4.out).2.1); rintro e w32 ⟨v116, rfl, ho0, hb⟩; refine ⟨_, rfl, ?_⟩; have n0_ := Aside0.mk (Kd.R_elder' (bR HO_4) (Kd.R_base ho0) hb); have n1_ := Aside0.mk (Kd.R_below (bR HO_21) hb); have n2_ := Aside0.mk (Kd.R_lower (Kd.R_new' ho0 (Kd.R_lt (bR HO_4))) (below_size (bC0 HB))); have n3_ := Aside0.mk (below_step (bC0 HB) hb); clear HO_4; clear HO_21; clear HB; have HO_4 := n0_; have HO_21 := n1_; have HO117 := n2_; have HB := n3_; clear n0_ n1_ n2_ n3_; (try clear hb); (try clear hb2); (try clear hk); (try clear hi); (try clear ho0); obtain ⟨Ao33, co33, eo33⟩ := Kd.R_slice HO117.out; subst eo33) | (go_at_call 13; (with_reducible refine (impl_CodeWrite.calls k2 _ _ t114 t118 _ ?side1 ?side2 A25.out).mono ?_); (case side1 => repeat (first | exact (Kd.R_reads' HO117.out).2.2 | (with_reducible refine Kd.C_alloc ?_ _) | (with_reducible refine Kd.C_drewN ?_ _) | (with_reducible refine Kd.C_drew ?_))); (case side2 => exact (Kd.R_reads' HO117.out).2.1); rintro e w34 ⟨rfl, hb⟩; have n0_ := Aside0.mk (Kd.R_below (bR HO_4) hb); have n1_ := Aside0.mk (Kd.R_below (bR HO_21) hb); have n2_ := Aside0.mk (Kd.R_below (bR HO117) hb); have n3_ := Aside0.mk (below_step (bC0 HB) hb); clear HO_4; clear HO_21; clear HO117; clear HB; have HO_4 := n0_; have HO_21 := n1_; have HO117 := n2_; have HB := n3_; clear n0_ n1_ n2_ n3_; (try clear hb); (try clear hb2); (try clear hk); (try clear hi))); go_ret2
         exact ⟨_, bE, by first | exact Kd.R_nil _ _ _ _ _ | exact Kd.N_nil _ _ _ _ _ | exact Kd.V_nil _ _ _ _ _ | exact Kd.Q_nil _ _ _ _ _ | exact Kd.S_nil _ _ _ _ _, (bC0 HB)⟩
       ·replace c24 := Bool.eq_false_iff.mpr c24
        subst c24
        have H1 : (some (([] : List (S35)), false)) = some (r1, r2) := by rw [if_neg (show ¬ (false = true) by decide)] at H; exact H
        clear H; have H := H1; clear H1; simp only [Option.some.injEq, Prod.mk.injEq] at H; obtain ⟨rfl, rfl⟩ := H; obtain ⟨Ao35, co35, eo35⟩ := Kd.R_slice HO_4.out; subst eo35; go_wp2_with (first | ((with_reducible refine gate_callee (f := 20) rfl ?_); refine goesL_ (some 41) rfl rfl Tryd.func20 (by kernel_rfl) rfl #[.slice Ao35 x4_2.length co35] rfl bM ?_; (with_reducible refine (impl_CodeStay.calls k2 _ _ x4_2 t114 false _ ?side1 ?side2 A23.out).mono ?_); (case side1 => repeat (first | exact (Kd.R_reads' HO_4.out).2.2 | (with_reducible refine Kd.C_alloc ?_ _) | (with_reducible refine Kd.C_drewN ?_ _) | (with_reducible refine Kd.C_drew ?_))); (case side2 => exact (Kd.R_reads' HO_4.out).2.1); rintro e w36 ⟨v116, rfl, ho0, hb⟩; refine ⟨_, rfl, ?_⟩; have n0_ := Aside0.mk (Kd.R_elder' (bR HO_4) (Kd.R_base ho0) hb); have n1_ := Aside0.mk (Kd.R_below (bR HO_21) hb); have n2_ := Aside0.mk (Kd.R_lower (Kd.R_new' ho0 (Kd.R_lt (bR HO_4))) (below_size (bC0 HB))); have n3_ := Aside0.mk (below_step (bC0 HB) hb); clear HO_4; clear HO_21; clear HB; have HO_4 := n0_; have HO_21 := n1_; have HO117 := n2_; have HB := n3_; clear n0_ n1_ n2_ n3_; (try clear hb); (try clear hb2); (try clear hk); (try clear hi); (try clear ho0))); go_ret2
        exact ⟨_, bE, by first | exact Kd.R_nil _ _ _ _ _ | exact Kd.N_nil _ _ _ _ _ | exact Kd.V_nil _ _ _ _ _ | exact Kd.Q_nil _ _ _ _ _ | exact Kd.S_nil _ _ _ _ _, (bC0 HB)⟩

set_option linter.unusedVariables false
set_option linter.unusedSimpArgs false

/-! ### laws_FnCodeCut: function 6 -/
def laws_FnCodeCut.j0 : Nat → List (S35) → ByteArray → Bool → Option (Bool)
  | 0, _, _, _ => none
  | k + 1, x3, x4, x26 => if x26 = true then ((spec_CodeWrite.f k x3).bind fun t106 => (some (x4.toList == t106.toList))) else (if 0 ≤ (wrap64 ((x4.size : Int) - 1)) then (if (wrap64 ((x4.size : Int) - 1)) ≤ (x4.size : Int) then ((impl_CodeRead.f k (x4.extract 0 ((wrap64 ((x4.size : Int) - 1)) : Int).toNat)).bind fun bt107 => (if 0 ≤ (wrap64 ((x4.size : Int) - 9)) then (if (wrap64 ((x4.size : Int) - 9)) ≤ (x4.size : Int) then ((impl_CodeRead.f k (x4.extract 0 ((wrap64 ((x4.size : Int) - 9)) : Int).toNat)).bind fun bt111 => (if x4.size + 1 ≤ 9223372036854775807 then ((impl_CodeRead.f k (x4 ++ (⟨#[32]⟩ : ByteArray))).bind fun bt115 => ((impl_CodeTurns.f k x3).bind fun t119 => (if bt107.2 = true then (some false) else (if bt115.2 = true then (some false) else (if (bt111.2 == (decide ((t119.length : Int) > 1))) = true then (if bt111.2 = true then (if (bt111.1.length : Int) < (x3.length : Int) then (if 0 ≤ (bt111.1.length : Int) then (if (bt111.1.length : Int) ≤ (x3.length : Int) then ((laws_luSame.f k bt111.1 (x3.take ((bt111.1.length : Int) : Int).toNat)).bind fun t126 => (some t126)) else (none)) else (none)) else (some false)) else (some true)) else (some false)))))) else (none))) else (none)) else (none))) else (none)) else (none))
def laws_FnCodeCut.f (k : Nat) (l0 : List Int) : Option (Bool) := if (l0.length : Int) > 1048576 then (some true) else ((spec_DrawCodeWrite.f k l0).bind fun t101 => ((impl_CodeWrite.f k t101).bind fun t104 => ((spec_CodeWrite.f k t101).bind fun t105 => (if t104.toList = t105.toList then (laws_FnCodeCut.j0 k t101 t104 (t104.toList == ([] : List UInt8))) else (laws_FnCodeCut.j0 k t101 t104 true)))))
theorem laws_FnCodeCut.mono_l : ∀ k, (∀ y0 y1 y2, LeO (laws_FnCodeCut.j0 k y0 y1 y2) (laws_FnCodeCut.j0 (k + 1) y0 y1 y2))
  | 0 => fun _ _ _ r h => by simp [laws_FnCodeCut.j0] at h
  | k + 1 => by
    have ih0 := laws_FnCodeCut.mono_l k
    · intro y0 y1 y2
      unfold laws_FnCodeCut.j0
      repeat' first
      | (with_reducible exact ih0 _ _ _)
      | (with_reducible exact impl_CodeRead.mono _ _)
      | (with_reducible exact impl_CodeTurns.mono _ _)
      | (with_reducible exact impl_CodeWrite.mono _ _)
      | (with_reducible exact laws_luSame.mono _ _ _)
      | (with_reducible exact spec_CodeWrite.mono _ _)
      | (with_reducible exact spec_DrawCodeWrite.mono _ _)
      | (with_reducible exact LeO.refl _)
      | (with_reducible exact LeO.none _)
      | (with_reducible refine LeO.ite ?_ ?_)
      | (with_reducible refine LeO.bind ?_ (fun _ => ?_))
      | exact ih0 _ _ _
      | exact impl_CodeRead.mono _ _
      | exact impl_CodeTurns.mono _ _
      | exact impl_CodeWrite.mono _ _
      | exact laws_luSame.mono _ _ _
      | exact spec_CodeWrite.mono _ _
      | exact spec_DrawCodeWrite.mono _ _
      | exact LeO.none _
      | refine LeO.ite ?_ ?_
      | refine LeO.bind ?_ (fun _ => ?_)
theorem laws_FnCodeCut.mono : ∀ a0 k, LeO (laws_FnCodeCut.f k a0) (laws_FnCodeCut.f (k + 1) a0) := by
  intro a0 k
  have ih0 := laws_FnCodeCut.mono_l k
  unfold laws_FnCodeCut.f
  repeat' first
      | (with_reducible exact ih0 _ _ _)
      | (with_reducible exact impl_CodeRead.mono _ _)
      | (with_reducible exact impl_CodeTurns.mono _ _)
      | (with_reducible exact impl_CodeWrite.mono _ _)
      | (with_reducible exact laws_luSame.mono _ _ _)
      | (with_reducible exact spec_CodeWrite.mono _ _)
      | (with_reducible exact spec_DrawCodeWrite.mono _ _)
      | (with_reducible exact LeO.refl _)
      | (with_reducible exact LeO.none _)
      | (with_reducible refine LeO.ite ?_ ?_)
      | (with_reducible refine LeO.bind ?_ (fun _ => ?_))
      | exact ih0 _ _ _
      | exact impl_CodeRead.mono _ _
      | exact impl_CodeTurns.mono _ _
      | exact impl_CodeWrite.mono _ _
      | exact laws_luSame.mono _ _ _
      | exact spec_CodeWrite.mono _ _
      | exact spec_DrawCodeWrite.mono _ _
      | exact LeO.none _
      | refine LeO.ite ?_ ?_
      | refine LeO.bind ?_ (fun _ => ?_)
set_option maxHeartbeats 8000000 in
set_option maxRecDepth 100000 in
theorem laws_FnCodeCut.calls (k : Nat) (A0 : Option Addr) (c0 : Nat) (l0 : List Int) (r : Bool) (w : World) (hr0 : Kd.C (Kd.int .u8) w A0 l0.length l0) (hc0 : l0.length ≤ c0) (h : laws_FnCodeCut.f k l0 = some r) :
  Calls Tryd.prog 6 #[.slice A0 l0.length c0] w fun e w' => e = .returned (.bool r) ∧ Below w.heap.size w w' := by
 have HR0 := Aside0.mk hr0; have HC0 := Aside0.mk hc0; clear hr0 hc0; have HB := Aside0.mk (Below.refl w.heap.size w); have H : (if (l0.length : Int) > 1048576 then (some true) else ((spec_DrawCodeWrite.f k l0).bind fun t101 => ((impl_CodeWrite.f k t101).bind fun t104 => ((spec_CodeWrite.f k t101).bind fun t105 => (if t104.toList = t105.toList then (laws_FnCodeCut.j0 k t101 t104 (t104.toList == ([] : List UInt8))) else (laws_FnCodeCut.j0 k t101 t104 true)))))) = some r := h; clear h
 by_cases c2 : (l0.length : Int) > 1048576
 ·rw [if_pos c2] at H
  have c2b0 : decide (1048576 < (l0.length : Int)) = true := decide_eq_true c2; have c2b1 : decide (1048576 < l0.length) = true := decide_eq_true (by omega); clear c2; obtain rfl := Option.some.inj H; go_enter Tryd.func6, Tryd.ntmps6; go_wp2; go_ret
  exact ⟨bE, (bC0 HB)⟩
 ·rw [if_neg c2] at H
  have c2b0 : decide (1048576 < (l0.length : Int)) = false := decide_eq_false c2; have c2b1 : decide (1048576 < l0.length) = false := decide_eq_false (by omega); clear c2; replace H := Option.bind_eq_some_iff.mp H; obtain ⟨t101, A30, H⟩ := H; replace H : ((impl_CodeWrite.f k t101).bind fun t104 => ((spec_CodeWrite.f k t101).bind fun t105 => (if t104.toList = t105.toList then (laws_FnCodeCut.j0 k t101 t104 (t104.toList == ([] : List UInt8))) else (laws_FnCodeCut.j0 k t101 t104 true)))) = some r := H; have A3 := Aside0.mk A30; clear A30; replace H := Option.bind_eq_some_iff.mp H; obtain ⟨t104, A40, H⟩ := H; replace H : ((spec_CodeWrite.f k t101).bind fun t105 => (if t104.toList = t105.toList then (laws_FnCodeCut.j0 k t101 t104 (t104.toList == ([] : List UInt8))) else (laws_FnCodeCut.j0 k t101 t104 true))) = some r := H; have A4 := Aside0.mk A40; clear A40; have HC5 := Aside0.mk H; clear H; go_enter Tryd.func6, Tryd.ntmps6; go_upto_region 5 with (first | ((with_reducible refine gate_callee (f := 15) rfl ?_); refine goesL_ (some 16) rfl rfl Tryd.func15 (by kernel_rfl) rfl #[.slice A0 l0.length c0] rfl bM ?_; (with_reducible refine (spec_DrawCodeWrite.calls k _ _ l0 t101 _ ?side1 ?side2 A3.out).mono ?_); (case side1 => repeat (first | exact HR0.out | (with_reducible refine Kd.C_alloc ?_ _) | (with_reducible refine Kd.C_drewN ?_ _) | (with_reducible refine Kd.C_drew ?_))); (case side2 => exact HC0.out); rintro e w6 ⟨v102, rfl, ho0, hb⟩; refine ⟨_, rfl, ?_⟩; have n0_ := Aside0.mk (Kd.R_lower ho0 (below_size (bC0 HB))); have n1_ := Aside0.mk (below_step (bC0 HB) hb); clear HB; have HO103 := n0_; have HB := n1_; clear n0_ n1_; (try clear hb); (try clear hb2); (try clear hk); (try clear hi); (try clear ho0); obtain ⟨Ao7, co7, eo7⟩ := Kd.R_slice HO103.out; subst eo7) | ((with_reducible refine gate_callee (f := 13) rfl ?_); refine goesL_ (some 18) rfl rfl Tryd.func13 (by kernel_rfl) rfl #[.slice Ao7 t101.length co7] rfl bM ?_; (with_reducible refine (impl_CodeWrite.calls k _ _ t101 t104 _ ?side1 ?side2 A4.out).mono ?_); (case side1 => repeat (first | exact (Kd.R_reads' HO103.out).2.2 | (with_reducible refine Kd.C_alloc ?_ _) | (with_reducible refine Kd.C_drewN ?_ _) | (with_reducible refine Kd.C_drew ?_))); (case side2 => exact (Kd.R_reads' HO103.out).2.1); rintro e w8 ⟨rfl, hb⟩; refine ⟨_, rfl, ?_⟩; have n0_ := Aside0.mk (Kd.R_below (bR HO103) hb); have n1_ := Aside0.mk (below_step (bC0 HB) hb); clear HO103; clear HB; have HO103 := n0_; have HB := n1_; clear n0_ n1_; (try clear hb); (try clear hb2); (try clear hk); (try clear hi))); (try simp only [Act.put, List.setIfInBounds_toArray, List.set_cons_zero, List.set_cons_succ]); go_cut [26] (fun v26 wc => ∃ (kq : Nat) (x26_4 : Bool), v26 = .bool x26_4 ∧ Aside0 (laws_FnCodeCut.j0 kq t101 t104 x26_4 = some r) ∧ Aside0 (kq ≤ k) ∧ Aside0 (Kd.R k35 35 wc w.heap.size (fun _ => True) (.slice Ao7 t101.length co7) t101) ∧ Aside0 (Below w.heap.size w wc))
  case first =>
   have H := HC5.out; clear HC5; replace H := Option.bind_eq_some_iff.mp H; obtain ⟨t105, A90, H⟩ := H; replace H : (if t104.toList = t105.toList then (laws_FnCodeCut.j0 k t101 t104 (t104.toList == ([] : List UInt8))) else (laws_FnCodeCut.j0 k t101 t104 true)) = some r := H; have A9 := Aside0.mk A90; clear A90
   by_cases c10 : t104.toList = t105.toList
   ·rw [if_pos c10] at H
    have c10b0 : (t104.toList == t105.toList) = true := beq_iff_eq.mpr c10; have c10b1 : (t104.toList != t105.toList) = false := bne_eq_false_iff_eq.mpr c10; clear c10; (first | rw [c10b0] | (simp only [i64_w, i32_w]; rw [c10b0]) | skip); have H' := Aside0.mk H; clear H; go_wp2_with (first | ((with_reducible refine gate_callee (f := 11) rfl ?_); refine goesL_ (some 21) rfl rfl Tryd.func11 (by kernel_rfl) rfl #[.slice Ao7 t101.length co7] rfl bM ?_; (with_reducible refine (spec_CodeWrite.calls k _ _ t101 t105 _ ?side1 ?side2 A9.out).mono ?_); (case side1 => repeat (first | exact (Kd.R_reads' HO103.out).2.2 | (with_reducible refine Kd.C_alloc ?_ _) | (with_reducible refine Kd.C_drewN ?_ _) | (with_reducible refine Kd.C_drew ?_))); (case side2 => exact (Kd.R_reads' HO103.out).2.1); rintro e w11 ⟨rfl, hb⟩; refine ⟨_, rfl, ?_⟩; have n0_ := Aside0.mk (Kd.R_below (bR HO103) hb); have n1_ := Aside0.mk (below_step (bC0 HB) hb); clear HO103; clear HB; have HO103 := n0_; have HB := n1_; clear n0_ n1_; (try clear hb); (try clear hb2); (try clear hk); (try clear hi))); go_meet
    case rel => exact ⟨_, ((t104.toList == ([] : List UInt8))), (by first | rfl | (simp; done) | (simp [*]; done)), H', ⟨by first | omega | exact Nat.le_refl _⟩, ⟨by (with_reducible repeat (first | apply Kd.R_alloc | apply Kd.R_drewN | apply Kd.R_drew)); exact HO103.out⟩, ⟨(bC0 HB)⟩⟩
   ·rw [if_neg c10] at H
    have c10b0 : (t104.toList == t105.toList) = false := beq_eq_false_iff_ne.mpr c10; have c10b1 : (t104.toList != t105.toList) = true := bne_iff_ne.mpr c10; (first | rw [c10b0] | (simp only [i64_w, i32_w]; rw [c10b0]) | skip); have H' := Aside0.mk H; clear H; go_wp2_with (first | ((with_reducible refine gate_callee (f := 11) rfl ?_); refine goesL_ (some 21) rfl rfl Tryd.func11 (by kernel_rfl) rfl #[.slice Ao7 t101.length co7] rfl bM ?_; (with_reducible refine (spec_CodeWrite.calls k _ _ t101 t105 _ ?side1 ?side2 A9.out).mono ?_); (case side1 => repeat (first | exact (Kd.R_reads' HO103.out).2.2 | (with_reducible refine Kd.C_alloc ?_ _) | (with_reducible refine Kd.C_drewN ?_ _) | (with_reducible refine Kd.C_drew ?_))); (case side2 => exact (Kd.R_reads' HO103.out).2.1); rintro e w12 ⟨rfl, hb⟩; refine ⟨_, rfl, ?_⟩; have n0_ := Aside0.mk (Kd.R_below (bR HO103) hb); have n1_ := Aside0.mk (below_step (bC0 HB) hb); clear HO103; clear HB; have HO103 := n0_; have HB := n1_; clear n0_ n1_; (try clear hb); (try clear hb2); (try clear hk); (try clear hi))); go_meet
    case rel => exact ⟨_, (true), (by first | rfl | (simp; done) | (simp [*]; done)), H', ⟨by first | omega | exact Nat.le_refl _⟩, ⟨by (with_reducible repeat (first | apply Kd.R_alloc | apply Kd.R_drewN | apply Kd.R_drew)); exact HO103.out⟩, ⟨(bC0 HB)⟩⟩
  case rest =>
   clear HC5
   try clear c1
   try clear c2
   try clear c2b0
   try clear c2b1
   try clear p2
   try clear c6
   try clear c10
   try clear c10b0
   try clear c10b1
   try clear c11
   obtain ⟨kq, x26_4, rfl, HA, HJ4, HO_3, HB⟩ := hcut
   cases kq with
   | zero => exact absurd HA.out (by simp [laws_FnCodeCut.j0])
   | succ kj4 =>
    have H := HA.out; clear HA; simp only [laws_FnCodeCut.j0] at H
    by_cases c13 : x26_4 = true
    ·subst c13
     have H1 : ((spec_CodeWrite.f kj4 t101).bind fun t106 => (some (t104.toList == t106.toList))) = some r := by rw [if_pos rfl] at H; exact H
     clear H; have H := H1; clear H1; replace H := Option.bind_eq_some_iff.mp H; obtain ⟨t106, A140, H⟩ := H; replace H : (some (t104.toList == t106.toList)) = some r := H; have A14 := Aside0.mk A140; clear A140; obtain rfl := Option.some.inj H; go_wp2_with (first | ((with_reducible refine gate_callee (f := 11) rfl ?_); refine goesL_ (some 29) rfl rfl Tryd.func11 (by kernel_rfl) rfl #[.slice Ao7 t101.length co7] rfl bM ?_; (with_reducible refine (spec_CodeWrite.calls kj4 _ _ t101 t106 _ ?side1 ?side2 A14.out).mono ?_); (case side1 => repeat (first | exact (Kd.R_reads' HO_3.out).2.2 | (with_reducible refine Kd.C_alloc ?_ _) | (with_reducible refine Kd.C_drewN ?_ _) | (with_reducible refine Kd.C_drew ?_))); (case side2 => exact (Kd.R_reads' HO_3.out).2.1); rintro e w15 ⟨rfl, hb⟩; refine ⟨_, rfl, ?_⟩; have n0_ := Aside0.mk (Kd.R_below (bR HO_3) hb); have n1_ := Aside0.mk (below_step (bC0 HB) hb); clear HO_3; clear HB; have HO_3 := n0_; have HB := n1_; clear n0_ n1_; (try clear hb); (try clear hb2); (try clear hk); (try clear hi))); go_ret
     exact ⟨bE, (bC0 HB)⟩
    ·replace c13 := Bool.eq_false_iff.mpr c13
     subst c13
     have H1 : (if 0 ≤ (wrap64 ((t104.size : Int) - 1)) then (if (wrap64 ((t104.size : Int) - 1)) ≤ (t104.size : Int) then ((impl_CodeRead.f kj4 (t104.extract 0 ((wrap64 ((t104.size : Int) - 1)) : Int).toNat)).bind fun bt107 => (if 0 ≤ (wrap64 ((t104.size : Int) - 9)) then (if (wrap64 ((t104.size : Int) - 9)) ≤ (t104.size : Int) then ((impl_CodeRead.f kj4 (t104.extract 0 ((wrap64 ((t104.size : Int) - 9)) : Int).toNat)).bind fun bt111 => (if t104.size + 1 ≤ 9223372036854775807 then ((impl_CodeRead.f kj4 (t104 ++ (⟨#[32]⟩ : ByteArray))).bind fun bt115 => ((impl_CodeTurns.f kj4 t101).bind fun t119 => (if bt107.2 = true then (some false) else (if bt115.2 = true then (some false) else (if (bt111.2 == (decide ((t119.length : Int) > 1))) = true then (if bt111.2 = true then (if (bt111.1.length : Int) < (t101.length : Int) then (if 0 ≤ (bt111.1.length : Int) then (if (bt111.1.length : Int) ≤ (t101.length : Int) then ((laws_luSame.f kj4 bt111.1 (t101.take ((bt111.1.length : Int) : Int).toNat)).bind fun t126 => (some t126)) else (none)) else (none)) else (some false)) else (some true)) else (some false)))))) else (none))) else (none)) else (none))) else (none)) else (none)) = some r := by rw [if_neg (show ¬ (false = true) by decide)] at H; exact H
     clear H; have H := H1; clear H1; obtain ⟨ji16, hji16⟩ : ∃ j_ : Int, (wrap64 ((t104.size : Int) - 1)) = j_ := ⟨_, rfl⟩
     replace H : (if 0 ≤ (ji16) then (if (ji16) ≤ (t104.size : Int) then ((impl_CodeRead.f kj4 (t104.extract 0 ((ji16) : Int).toNat)).bind fun bt107 => (if 0 ≤ (wrap64 ((t104.size : Int) - 9)) then (if (wrap64 ((t104.size : Int) - 9)) ≤ (t104.size : Int) then ((impl_CodeRead.f kj4 (t104.extract 0 ((wrap64 ((t104.size : Int) - 9)) : Int).toNat)).bind fun bt111 => (if t104.size + 1 ≤ 9223372036854775807 then ((impl_CodeRead.f kj4 (t104 ++ (⟨#[32]⟩ : ByteArray))).bind fun bt115 => ((impl_CodeTurns.f kj4 t101).bind fun t119 => (if bt107.2 = true then (some false) else (if bt115.2 = true then (some false) else (if (bt111.2 == (decide ((t119.length : Int) > 1))) = true then (if bt111.2 = true then (if (bt111.1.length : Int) < (t101.length : Int) then (if 0 ≤ (bt111.1.length : Int) then (if (bt111.1.length : Int) ≤ (t101.length : Int) then ((laws_luSame.f kj4 bt111.1 (t101.take ((bt111.1.length : Int) : Int).toNat)).bind fun t126 => (some t126)) else (none)) else (none)) else (some false)) else (some true)) else (some false)))))) else (none))) else (none)) else (none))) else (none)) else (none)) = some r := by first | (rw [hji16] at H; exact H) | (simp only [hji16] at H ⊢; exact H)
     have hji16w : (IntKind.i64.wrap ((t104.size : Int) - 1)) = ji16 := (i64_w _).trans hji16
     by_cases c17 : 0 ≤ (ji16)
     ·rw [if_pos c17] at H
      have c17b0 := eq_true c17; have c17b1 : decide (0 ≤ (ji16)) = true := decide_eq_true c17; clear c17
      by_cases c18 : (ji16) ≤ (t104.size : Int)
      ·rw [if_pos c18] at H
       have c18b0 := eq_true c18; have c18b1 : decide ((ji16) ≤ (t104.size : Int)) = true := decide_eq_true c18; clear c18; replace H := Option.bind_eq_some_iff.mp H; obtain ⟨⟨t107, t108⟩, A190, H⟩ := H; replace H : (if 0 ≤ (wrap64 ((t104.size : Int) - 9)) then (if (wrap64 ((t104.size : Int) - 9)) ≤ (t104.size : Int) then ((impl_CodeRead.f kj4 (t104.extract 0 ((wrap64 ((t104.size : Int) - 9)) : Int).toNat)).bind fun bt111 => (if t104.size + 1 ≤ 9223372036854775807 then ((impl_CodeRead.f kj4 (t104 ++ (⟨#[32]⟩ : ByteArray))).bind fun bt115 => ((impl_CodeTurns.f kj4 t101).bind fun t119 => (if t108 = true then (some false) else (if bt115.2 = true then (some false) else (if (bt111.2 == (decide ((t119.length : Int) > 1))) = true then (if bt111.2 = true then (if (bt111.1.length : Int) < (t101.length : Int) then (if 0 ≤ (bt111.1.length : Int) then (if (bt111.1.length : Int) ≤ (t101.length : Int) then ((laws_luSame.f kj4 bt111.1 (t101.take ((bt111.1.length : Int) : Int).toNat)).bind fun t126 => (some t126)) else (none)) else (none)) else (some false)) else (some true)) else (some false)))))) else (none))) else (none)) else (none)) = some r := H; have A19 := Aside0.mk A190; clear A190; obtain ⟨ji20, hji20⟩ : ∃ j_ : Int, (wrap64 ((t104.size : Int) - 9)) = j_ := ⟨_, rfl⟩
       replace H : (if 0 ≤ (ji20) then (if (ji20) ≤ (t104.size : Int) then ((impl_CodeRead.f kj4 (t104.extract 0 ((ji20) : Int).toNat)).bind fun bt111 => (if t104.size + 1 ≤ 9223372036854775807 then ((impl_CodeRead.f kj4 (t104 ++ (⟨#[32]⟩ : ByteArray))).bind fun bt115 => ((impl_CodeTurns.f kj4 t101).bind fun t119 => (if t108 = true then (some false) else (if bt115.2 = true then (some false) else (if (bt111.2 == (decide ((t119.length : Int) > 1))) = true then (if bt111.2 = true then (if (bt111.1.length : Int) < (t101.length : Int) then (if 0 ≤ (bt111.1.length : Int) then (if (bt111.1.length : Int) ≤ (t101.length : Int) then ((laws_luSame.f kj4 bt111.1 (t101.take ((bt111.1.length : Int) : Int).toNat)).bind fun t126 => (some t126)) else (none)) else (none)) else (some false)) else (some true)) else (some false)))))) else (none))) else (none)) else (none)) = some r := by first | (rw [hji20] at H; exact H) | (simp only [hji20] at H ⊢; exact H)
       (try rw [hji20] at A19); have hji20w : (IntKind.i64.wrap ((t104.size : Int) - 9)) = ji20 := (i64_w _).trans hji20
       by_cases c21 : 0 ≤ (ji20)
       ·rw [if_pos c21] at H
        have c21b0 := eq_true c21; have c21b1 : decide (0 ≤ (ji20)) = true := decide_eq_true c21; clear c21
        by_cases c22 : (ji20) ≤ (t104.size : Int)
        ·rw [if_pos c22] at H
         have c22b0 := eq_true c22; have c22b1 : decide ((ji20) ≤ (t104.size : Int)) = true := decide_eq_true c22; clear c22; replace H := Option.bind_eq_some_iff.mp H; obtain ⟨⟨t111, t112⟩, A230, H⟩ := H; replace H : (if t104.size + 1 ≤ 9223372036854775807 then ((impl_CodeRead.f kj4 (t104 ++ (⟨#[32]⟩ : ByteArray))).bind fun bt115 => ((impl_CodeTurns.f kj4 t101).bind fun t119 => (if t108 = true then (some false) else (if bt115.2 = true then (some false) else (if (t112 == (decide ((t119.length : Int) > 1))) = true then (if t112 = true then (if (t111.length : Int) < (t101.length : Int) then (if 0 ≤ (t111.length : Int) then (if (t111.length : Int) ≤ (t101.length : Int) then ((laws_luSame.f kj4 t111 (t101.take ((t111.length : Int) : Int).toNat)).bind fun t126 => (some t126)) else (none)) else (none)) else (some false)) else (some true)) else (some false)))))) else (none)) = some r := H; have A23 := Aside0.mk A230; clear A230
         by_cases c24 : t104.size + 1 ≤ 9223372036854775807
         ·rw [if_pos c24] at H
          have c24b0 := eq_true c24; have c24b1 : decide (t104.size + 1 ≤ 9223372036854775807) = true := decide_eq_true c24
          try have c24b2 : (9223372036854775807 < t104.size + 1) = False := eq_false (Nat.not_lt.2 c24)
          replace H := Option.bind_eq_some_iff.mp H; obtain ⟨⟨t115, t116⟩, A250, H⟩ := H; replace H : ((impl_CodeTurns.f kj4 t101).bind fun t119 => (if t108 = true then (some false) else (if t116 = true then (some false) else (if (t112 == (decide ((t119.length : Int) > 1))) = true then (if t112 = true then (if (t111.length : Int) < (t101.length : Int) then (if 0 ≤ (t111.length : Int) then (if (t111.length : Int) ≤ (t101.length : Int) then ((laws_luSame.f kj4 t111 (t101.take ((t111.length : Int) : Int).toNat)).bind fun t126 => (some t126)) else (none)) else (none)) else (some false)) else (some true)) else (some false))))) = some r := H; have A25 := Aside0.mk A250; clear A250; replace H := Option.bind_eq_some_iff.mp H; obtain ⟨t119, A260, H⟩ := H; replace H : (if t108 = true then (some false) else (if t116 = true then (some false) else (if (t112 == (decide ((t119.length : Int) > 1))) = true then (if t112 = true then (if (t111.length : Int) < (t101.length : Int) then (if 0 ≤ (t111.length : Int) then (if (t111.length : Int) ≤ (t101.length : Int) then ((laws_luSame.f kj4 t111 (t101.take ((t111.length : Int) : Int).toNat)).bind fun t126 => (some t126)) else (none)) else (none)) else (some false)) else (some true)) else (some false)))) = some r := H; have A26 := Aside0.mk A260; clear A260
          by_cases c27 : t108 = true
          ·subst c27
           have H1 : (some false) = some r := by rw [if_pos rfl] at H; exact H
           clear H; have H := H1; clear H1; obtain rfl := Option.some.inj H; go_wp2_with (first | ((with_reducible refine gate_callee (f := 21) rfl ?_); refine goesL_ (some 37) rfl rfl Tryd.func21 (by kernel_rfl) rfl #[.string (t104.extract 0 ((ji16) : Int).toNat)] rfl (by (try simp only [List.map_toArray, List.map_cons, List.map_nil]); first | done | (simp only [hji16]; rfl) | rfl | (simp only [List.length_drop, List.length_take]; rfl)) ?_; (with_reducible refine (impl_CodeRead.calls kj4 (t104.extract 0 ((ji16) : Int).toNat) t107 true _ A19.out).mono ?_); rintro e w28 ⟨v109, rfl, ho0, hb⟩; refine ⟨_, rfl, ?_⟩; have n0_ := Aside0.mk (Kd.R_elder' (bR HO_3) (Kd.R_base ho0) hb); have n1_ := Aside0.mk (Kd.R_lower (Kd.R_new' ho0 (Kd.R_lt (bR HO_3))) (below_size (bC0 HB))); have n2_ := Aside0.mk (below_step (bC0 HB) hb); clear HO_3; clear HB; have HO_3 := n0_; have HO110 := n1_; have HB := n2_; clear n0_ n1_ n2_; (try clear hb); (try clear hb2); (try clear hk); (try clear hi); (try clear ho0)) | ((with_reducible refine gate_callee (f := 21) rfl ?_); refine goesL_ (some 46) rfl rfl Tryd.func21 (by kernel_rfl) rfl #[.string (t104.extract 0 ((ji20) : Int).toNat)] rfl (by (try simp only [List.map_toArray, List.map_cons, List.map_nil]); first | done | (simp only [hji20]; rfl) | rfl | (simp only [List.length_drop, List.length_take]; rfl)) ?_; (with_reducible refine (impl_CodeRead.calls kj4 (t104.extract 0 ((ji20) : Int).toNat) t111 t112 _ A23.out).mono ?_); rintro e w29 ⟨v113, rfl, ho0, hb⟩; refine ⟨_, rfl, ?_⟩; have n0_ := Aside0.mk (Kd.R_elder' (bR HO_3) (Kd.R_base ho0) hb); have n1_ := Aside0.mk (Kd.R_elder' (bR HO110) (Kd.R_base ho0) hb); have n2_ := Aside0.mk (Kd.R_lower (Kd.R_new' (Kd.R_new' ho0 (Kd.R_lt (bR HO_3))) (Kd.R_lt (bR HO110))) (below_size (bC0 HB))); have n3_ := Aside0.mk (below_step (bC0 HB) hb); clear HO_3; clear HO110; clear HB; have HO_3 := n0_; have HO110 := n1_; have HO114 := n2_; have HB := n3_; clear n0_ n1_ n2_ n3_; (try clear hb); (try clear hb2); (try clear hk); (try clear hi); (try clear ho0)) | ((with_reducible refine gate_callee (f := 21) rfl ?_); refine goesL_ (some 52) rfl rfl Tryd.func21 (by kernel_rfl) rfl #[.string (t104 ++ (⟨#[32]⟩ : ByteArray))] rfl bM ?_; (with_reducible refine (impl_CodeRead.calls kj4 (t104 ++ (⟨#[32]⟩ : ByteArray)) t115 t116 _ A25.out).mono ?_); rintro e w30 ⟨v117, rfl, ho0, hb⟩; refine ⟨_, rfl, ?_⟩; have n0_ := Aside0.mk (Kd.R_elder' (bR HO_3) (Kd.R_base ho0) hb); have n1_ := Aside0.mk (Kd.R_elder' (bR HO110) (Kd.R_base ho0) hb); have n2_ := Aside0.mk (Kd.R_elder' (bR HO114) (Kd.R_base ho0) hb); have n3_ := Aside0.mk (Kd.R_lower (Kd.R_new' (Kd.R_new' (Kd.R_new' ho0 (Kd.R_lt (bR HO_3))) (Kd.R_lt (bR HO110))) (Kd.R_lt (bR HO114))) (below_size (bC0 HB))); have n4_ := Aside0.mk (below_step (bC0 HB) hb); clear HO_3; clear HO110; clear HO114; clear HB; have HO_3 := n0_; have HO110 := n1_; have HO114 := n2_; have HO118 := n3_; have HB := n4_; clear n0_ n1_ n2_ n3_ n4_; (try clear hb); (try clear hb2); (try clear hk); (try clear hi); (try clear ho0)) | ((with_reducible refine gate_callee (f := 22) rfl ?_); refine goesL_ (some 56) rfl rfl Tryd.func22 (by kernel_rfl) rfl #[.slice Ao7 t101.length co7] rfl bM ?_; (with_reducible refine (impl_CodeTurns.calls kj4 _ _ t101 t119 _ ?side1 ?side2 A26.out).mono ?_); (case side1 => repeat (first | exact (Kd.R_reads' HO_3.out).2.2 | (with_reducible refine Kd.C_alloc ?_ _) | (with_reducible refine Kd.C_drewN ?_ _) | (with_reducible refine Kd.C_drew ?_))); (case side2 => exact (Kd.R_reads' HO_3.out).2.1); rintro e w31 ⟨v120, rfl, ho0, hb⟩; refine ⟨_, rfl, ?_⟩; have n0_ := Aside0.mk (Kd.R_elder' (bR HO_3) (Kd.R_base ho0) hb); have n1_ := Aside0.mk (Kd.R_elder' (bR HO110) (Kd.R_base ho0) hb); have n2_ := Aside0.mk (Kd.R_elder' (bR HO114) (Kd.R_base ho0) hb); have n3_ := Aside0.mk (Kd.R_elder' (bR HO118) (Kd.R_base ho0) hb); have n4_ := Aside0.mk (Kd.R_lower (Kd.R_new' (Kd.R_new' (Kd.R_new' (Kd.R_new' ho0 (Kd.R_lt (bR HO_3))) (Kd.R_lt (bR HO110))) (Kd.R_lt (bR HO114))) (Kd.R_lt (bR HO118))) (below_size (bC0 HB))); have n5_ := Aside0.mk (below_step (bC0 HB) hb); clear HO_3; clear HO110; clear HO114; clear HO118; clear HB; have HO_3 := n0_; have HO110 := n1_; have HO114 := n2_; have HO118 := n3_; have HO121 := n4_; have HB := n5_; clear n0_ n1_ n2_ n3_ n4_ n5_; (try clear hb); (try clear hb2); (try clear hk); (try clear hi); (try clear ho0); obtain ⟨Ao32, co32, eo32⟩ := Kd.R_slice HO121.out; subst eo32))
           go_ret
           exact ⟨by first | rfl | (simp [errW_none, errW_some] <;> rfl) | (simp only [← hji16, ← hji20]; first | rfl | (simp [errW_none, errW_some] <;> rfl)) | (simp [*, errW_none, errW_some] <;> rfl), (bC0 HB)⟩
          ·replace c27 := Bool.eq_false_iff.mpr c27
           subst c27
           have H1 : (if t116 = true then (some false) else (if (t112 == (decide ((t119.length : Int) > 1))) = true then (if t112 = true then (if (t111.length : Int) < (t101.length : Int) then (if 0 ≤ (t111.length : Int) then (if (t111.length : Int) ≤ (t101.length : Int) then ((laws_luSame.f kj4 t111 (t101.take ((t111.length : Int) : Int).toNat)).bind fun t126 => (some t126)) else (none)) else (none)) else (some false)) else (some true)) else (some false))) = some r := by rw [if_neg (show ¬ (false = true) by decide)] at H; exact H
           clear H; have H := H1; clear H1
           by_cases c33 : t116 = true
           ·subst c33
            have H1 : (some false) = some r := by rw [if_pos rfl] at H; exact H
            clear H; have H := H1; clear H1; obtain rfl := Option.some.inj H; go_wp2_with (first | ((with_reducible refine gate_callee (f := 21) rfl ?_); refine goesL_ (some 37) rfl rfl Tryd.func21 (by kernel_rfl) rfl #[.string (t104.extract 0 ((ji16) : Int).toNat)] rfl (by (try simp only [List.map_toArray, List.map_cons, List.map_nil]); first | done | (simp only [hji16]; rfl) | rfl | (simp only [List.length_drop, List.length_take]; rfl)) ?_; (with_reducible refine (impl_CodeRead.calls kj4 (t104.extract 0 ((ji16) : Int).toNat) t107 false _ A19.out).mono ?_); rintro e w34 ⟨v109, rfl, ho0, hb⟩; refine ⟨_, rfl, ?_⟩; have n0_ := Aside0.mk (Kd.R_elder' (bR HO_3) (Kd.R_base ho0) hb); have n1_ := Aside0.mk (Kd.R_lower (Kd.R_new' ho0 (Kd.R_lt (bR HO_3))) (below_size (bC0 HB))); have n2_ := Aside0.mk (below_step (bC0 HB) hb); clear HO_3; clear HB; have HO_3 := n0_; have HO110 := n1_; have HB := n2_; clear n0_ n1_ n2_; (try clear hb); (try clear hb2); (try clear hk); (try clear hi); (try clear ho0)) | ((with_reducible refine gate_callee (f := 21) rfl ?_); refine goesL_ (some 46) rfl rfl Tryd.func21 (by kernel_rfl) rfl #[.string (t104.extract 0 ((ji20) : Int).toNat)] rfl (by (try simp only [List.map_toArray, List.map_cons, List.map_nil]); first | done | (simp only [hji20]; rfl) | rfl | (simp only [List.length_drop, List.length_take]; rfl)) ?_; (with_reducible refine (impl_CodeRead.calls kj4 (t104.extract 0 ((ji20) : Int).toNat) t111 t112 _ A23.out).mono ?_); rintro e w35 ⟨v113, rfl, ho0, hb⟩; refine ⟨_, rfl, ?_⟩; have n0_ := Aside0.mk (Kd.R_elder' (bR HO_3) (Kd.R_base ho0) hb); have n1_ := Aside0.mk (Kd.R_elder' (bR HO110) (Kd.R_base ho0) hb); have n2_ := Aside0.mk (Kd.R_lower (Kd.R_new' (Kd.R_new' ho0 (Kd.R_lt (bR HO_3))) (Kd.R_lt (bR HO110))) (below_size (bC0 HB))); have n3_ := Aside0.mk (below_step (bC0 HB) hb); clear HO_3; clear HO110; clear HB; have HO_3 := n0_; have HO110 := n1_; have HO114 := n2_; have HB := n3_; clear n0_ n1_ n2_ n3_; (try clear hb); (try clear hb2); (try clear hk); (try clear hi); (try clear ho0)) | ((with_reducible refine gate_callee (f := 21) rfl ?_); refine goesL_ (some 52) rfl rfl Tryd.func21 (by kernel_rfl) rfl #[.string (t104 ++ (⟨#[32]⟩ : ByteArray))] rfl bM ?_; (with_reducible refine (impl_CodeRead.calls kj4 (t104 ++ (⟨#[32]⟩ : ByteArray)) t115 true _ A25.out).mono ?_); rintro e w36 ⟨v117, rfl, ho0, hb⟩; refine ⟨_, rfl, ?_⟩; have n0_ := Aside0.mk (Kd.R_elder' (bR HO_3) (Kd.R_base ho0) hb); have n1_ := Aside0.mk (Kd.R_elder' (bR HO110) (Kd.R_base ho0) hb); have n2_ := Aside0.mk (Kd.R_elder' (bR HO114) (Kd.R_base ho0) hb); have n3_ := Aside0.mk (Kd.R_lower (Kd.R_new' (Kd.R_new' (Kd.R_new' ho0 (Kd.R_lt (bR HO_3))) (Kd.R_lt (bR HO110))) (Kd.R_lt (bR HO114))) (below_size (bC0 HB))); have n4_ := Aside0.mk (below_step (bC0 HB) hb); clear HO_3; clear HO110; clear HO114; clear HB; have HO_3 := n0_; have HO110 := n1_; have HO114 := n2_; have HO118 := n3_; have HB := n4_; clear n0_ n1_ n2_ n3_ n4_; (try clear hb); (try clear hb2); (try clear hk); (try clear hi); (try clear ho0)) | ((with_reducible refine gate_callee (f := 22) rfl ?_); refine goesL_ (some 56) rfl rfl Tryd.func22 (by kernel_rfl) rfl #[.slice Ao7 t101.length co7] rfl bM ?_; (with_reducible refine (impl_CodeTurns.calls kj4 _ _ t101 t119 _ ?side1 ?side2 A26.out).mono ?_); (case side1 => repeat (first | exact (Kd.R_reads' HO_3.out).2.2 | (with_reducible refine Kd.C_alloc ?_ _) | (with_reducible refine Kd.C_drewN ?_ _) | (with_reducible refine Kd.C_drew ?_))); (case side2 => exact (Kd.R_reads' HO_3.out).2.1); rintro e w37 ⟨v120, rfl, ho0, hb⟩; refine ⟨_, rfl, ?_⟩; have n0_ := Aside0.mk (Kd.R_elder' (bR HO_3) (Kd.R_base ho0) hb); have n1_ := Aside0.mk (Kd.R_elder' (bR HO110) (Kd.R_base ho0) hb); have n2_ := Aside0.mk (Kd.R_elder' (bR HO114) (Kd.R_base ho0) hb); have n3_ := Aside0.mk (Kd.R_elder' (bR HO118) (Kd.R_base ho0) hb); have n4_ := Aside0.mk (Kd.R_lower (Kd.R_new' (Kd.R_new' (Kd.R_new' (Kd.R_new' ho0 (Kd.R_lt (bR HO_3))) (Kd.R_lt (bR HO110))) (Kd.R_lt (bR HO114))) (Kd.R_lt (bR HO118))) (below_size (bC0 HB))); have n5_ := Aside0.mk (below_step (bC0 HB) hb); clear HO_3; clear HO110; clear HO114; clear HO118; clear HB; have HO_3 := n0_; have HO110 := n1_; have HO114 := n2_; have HO118 := n3_; have HO121 := n4_; have HB := n5_; clear n0_ n1_ n2_ n3_ n4_ n5_; (try clear hb); (try clear hb2); (try clear hk); (try clear hi); (try clear ho0); obtain ⟨Ao38, co38, eo38⟩ := Kd.R_slice HO121.out; subst eo38))
            go_ret
            exact ⟨by first | rfl | (simp [errW_none, errW_some] <;> rfl) | (simp only [← hji16, ← hji20]; first | rfl | (simp [errW_none, errW_some] <;> rfl)) | (simp [*, errW_none, errW_some] <;> rfl), (bC0 HB)⟩
           ·replace c33 := Bool.eq_false_iff.mpr c33
            subst c33
            have H1 : (if (t112 == (decide ((t119.length : Int) > 1))) = true then (if t112 = true then (if (t111.length : Int) < (t101.length : Int) then (if 0 ≤ (t111.length : Int) then (if (t111.length : Int) ≤ (t101.length : Int) then ((laws_luSame.f kj4 t111 (t101.take ((t111.length : Int) : Int).toNat)).bind fun t126 => (some t126)) else (none)) else (none)) else (some false)) else (some true)) else (some false)) = some r := by rw [if_neg (show ¬ (false = true) by decide)] at H; exact H
            clear H; have H := H1; clear H1
            by_cases c39 : (t112 == (decide ((t119.length : Int) > 1))) = true
            ·rw [if_pos c39] at H
             have c39b0 : (t112 == (decide ((t119.length : Int) > 1))) = true := c39; (try (have c39b1 : decide (t112 = (decide ((t119.length : Int) > 1))) = true := by simpa using c39)); (try (have c39b2 : (t112 == (decide ((t119.length : Int) > 1))) = true := by simpa using c39)); clear c39
             by_cases c40 : t112 = true
             ·subst c40
              have H1 : (if (t111.length : Int) < (t101.length : Int) then (if 0 ≤ (t111.length : Int) then (if (t111.length : Int) ≤ (t101.length : Int) then ((laws_luSame.f kj4 t111 (t101.take ((t111.length : Int) : Int).toNat)).bind fun t126 => (some t126)) else (none)) else (none)) else (some false)) = some r := by rw [if_pos rfl] at H; exact H
              clear H; have H := H1; clear H1
              by_cases c41 : (t111.length : Int) < (t101.length : Int)
              ·rw [if_pos c41] at H
               have c41b0 : decide ((t111.length : Int) < (t101.length : Int)) = true := decide_eq_true c41; have c41b1 : decide (t111.length < t101.length) = true := decide_eq_true (Int.ofNat_lt.mp c41); clear c41
               by_cases c42 : 0 ≤ (t111.length : Int)
               ·rw [if_pos c42] at H
                have c42b0 := eq_true c42; have c42b1 : decide (0 ≤ (t111.length : Int)) = true := decide_eq_true c42; clear c42
                by_cases c43 : (t111.length : Int) ≤ (t101.length : Int)
                ·rw [if_pos c43] at H
                 have c43b0 := eq_true c43; have c43b1 : decide ((t111.length : Int) ≤ (t101.length : Int)) = true := decide_eq_true c43; clear c43; obtain ⟨y122, hy122⟩ : ∃ y_ : List (S35), y_ = (t101.take ((t111.length : Int) : Int).toNat) := ⟨_, rfl⟩
                 replace H : ((laws_luSame.f kj4 t111 y122).bind fun t126 => (some t126)) = some r := by first | (rw [hy122]; with_reducible exact H) | (have H2_ := (Option.bind_some _ _).symm.trans H; rw [hy122]; with_reducible exact H2_) | (have H2_ := (Option.bind_some _ _).symm.trans H; with_reducible exact H2_) | with_reducible exact H | (rw [hy122]; exact H) | exact H
                 have Ny122 := Aside0.mk hy122; clear hy122; replace H := Option.bind_eq_some_iff.mp H; obtain ⟨t126, A440, H⟩ := H; replace H : (some t126) = some r := H; have A44 := Aside0.mk A440; clear A440; obtain rfl := Option.some.inj H; go_wp2_with (first | ((with_reducible refine gate_callee (f := 21) rfl ?_); refine goesL_ (some 37) rfl rfl Tryd.func21 (by kernel_rfl) rfl #[.string (t104.extract 0 ((ji16) : Int).toNat)] rfl (by (try simp only [List.map_toArray, List.map_cons, List.map_nil]); first | done | (simp only [hji16]; rfl) | rfl | (simp only [List.length_drop, List.length_take]; rfl)) ?_; (with_reducible refine (impl_CodeRead.calls kj4 (t104.extract 0 ((ji16) : Int).toNat) t107 false _ A19.out).mono ?_); rintro e w45 ⟨v109, rfl, ho0, hb⟩; refine ⟨_, rfl, ?_⟩; have n0_ := Aside0.mk (Kd.R_elder' (bR HO_3) (Kd.R_base ho0) hb); have n1_ := Aside0.mk (Kd.R_lower (Kd.R_new' ho0 (Kd.R_lt (bR HO_3))) (below_size (bC0 HB))); have n2_ := Aside0.mk (below_step (bC0 HB) hb); clear HO_3; clear HB; have HO_3 := n0_; have HO110 := n1_; have HB := n2_; clear n0_ n1_ n2_; (try clear hb); (try clear hb2); (try clear hk); (try clear hi); (try clear ho0)) | ((with_reducible refine gate_callee (f := 21) rfl ?_); refine goesL_ (some 46) rfl rfl Tryd.func21 (by kernel_rfl) rfl #[.string (t104.extract 0 ((ji20) : Int).toNat)] rfl (by (try simp only [List.map_toArray, List.map_cons, List.map_nil]); first | done | (simp only [hji20]; rfl) | rfl | (simp only [List.length_drop, List.length_take]; rfl)) ?_; (with_reducible refine (impl_CodeRead.calls kj4 (t104.extract 0 ((ji20) : Int).toNat) t111 true _ A23.out).mono ?_); rintro e w46 ⟨v113, rfl, ho0, hb⟩; refine ⟨_, rfl, ?_⟩; have n0_ := Aside0.mk (Kd.R_elder' (bR HO_3) (Kd.R_base ho0) hb); have n1_ := Aside0.mk (Kd.R_elder' (bR HO110) (Kd.R_base ho0) hb); have n2_ := Aside0.mk (Kd.R_lower (Kd.R_new' (Kd.R_new' ho0 (Kd.R_lt (bR HO_3))) (Kd.R_lt (bR HO110))) (below_size (bC0 HB))); have n3_ := Aside0.mk (below_step (bC0 HB) hb); clear HO_3; clear HO110; clear HB; have HO_3 := n0_; have HO110 := n1_; have HO114 := n2_; have HB := n3_; clear n0_ n1_ n2_ n3_; (try clear hb); (try clear hb2); (try clear hk); (try clear hi); (try clear ho0)) | ((with_reducible refine gate_callee (f := 21) rfl ?_); refine goesL_ (some 52) rfl rfl Tryd.func21 (by kernel_rfl) rfl #[.string (t104 ++ (⟨#[32]⟩ : ByteArray))] rfl bM ?_; (with_reducible refine (impl_CodeRead.calls kj4 (t104 ++ (⟨#[32]⟩ : ByteArray)) t115 false _ A25.out).mono ?_); rintro e w47 ⟨v117, rfl, ho0, hb⟩; refine ⟨_, rfl, ?_⟩; have n0_ := Aside0.mk (Kd.R_elder' (bR HO_3) (Kd.R_base ho0) hb); have n1_ := Aside0.mk (Kd.R_elder' (bR HO110) (Kd.R_base ho0) hb); have n2_ := Aside0.mk (Kd.R_elder' (bR HO114) (Kd.R_base ho0) hb); have n3_ := Aside0.mk (Kd.R_lower (Kd.R_new' (Kd.R_new' (Kd.R_new' ho0 (Kd.R_lt (bR HO_3))) (Kd.R_lt (bR HO110))) (Kd.R_lt (bR HO114))) (below_size (bC0 HB))); have n4_ := Aside0.mk (below_step (bC0 HB) hb); clear HO_3; clear HO110; clear HO114; clear HB; have HO_3 := n0_; have HO110 := n1_; have HO114 := n2_; have HO118 := n3_; have HB := n4_; clear n0_ n1_ n2_ n3_ n4_; (try clear hb); (try clear hb2); (try clear hk); (try clear hi); (try clear ho0)) | ((with_reducible refine gate_callee (f := 22) rfl ?_); refine goesL_ (some 56) rfl rfl Tryd.func22 (by kernel_rfl) rfl #[.slice Ao7 t101.length co7] rfl bM ?_; (with_reducible refine (impl_CodeTurns.calls kj4 _ _ t101 t119 _ ?side1 ?side2 A26.out).mono ?_); (case side1 => repeat (first | exact (Kd.R_reads' HO_3.out).2.2 | (with_reducible refine Kd.C_alloc ?_ _) | (with_reducible refine Kd.C_drewN ?_ _) | (with_reducible refine Kd.C_drew ?_))); (case side2 => exact (Kd.R_reads' HO_3.out).2.1); rintro e w48 ⟨v120, rfl, ho0, hb⟩; refine ⟨_, rfl, ?_⟩; have n0_ := Aside0.mk (Kd.R_elder' (bR HO_3) (Kd.R_base ho0) hb); have n1_ := Aside0.mk (Kd.R_elder' (bR HO110) (Kd.R_base ho0) hb); have n2_ := Aside0.mk (Kd.R_elder' (bR HO114) (Kd.R_base ho0) hb); have n3_ := Aside0.mk (Kd.R_elder' (bR HO118) (Kd.R_base ho0) hb); have n4_ := Aside0.mk (Kd.R_lower (Kd.R_new' (Kd.R_new' (Kd.R_new' (Kd.R_new' ho0 (Kd.R_lt (bR HO_3))) (Kd.R_lt (bR HO110))) (Kd.R_lt (bR HO114))) (Kd.R_lt (bR HO118))) (below_size (bC0 HB))); have n5_ := Aside0.mk (below_step (bC0 HB) hb); clear HO_3; clear HO110; clear HO114; clear HO118; clear HB; have HO_3 := n0_; have HO110 := n1_; have HO114 := n2_; have HO118 := n3_; have HO121 := n4_; have HB := n5_; clear n0_ n1_ n2_ n3_ n4_ n5_; (try clear hb); (try clear hb2); (try clear hk); (try clear hi); (try clear ho0); obtain ⟨Ao49, co49, eo49⟩ := Kd.R_slice HO121.out; subst eo49; obtain ⟨Ao50, co50, eo50⟩ := Kd.R_slice HO114.out; subst eo50; have q51 : ((t111.length : Int) : Int) ≤ ((t101.length : Int) : Int) := of_decide_eq_true bX; obtain ⟨i051, hi051, _, hsz51, _⟩ := info_parts info35; have hroom51 : t101.length ≤ co7 := (Kd.R_reads' HO_3.out).2.1; have hC51 : Kd.C k35 _ Ao7 t101.length t101 := (Kd.R_reads' HO_3.out).2.2; have hcut51 := cut_to (P := Tryd.prog) 25 35 .i64 Tryd.underlying25 hi051 Ao7 t101.length co7 (t111.length : Int) (of_decide_eq_true bX) q51 hroom51; have hr51 := Kd.C_take (m := ((t111.length : Int) : Int).toNat) hC51 (by omega); have hy51 : y122.length = ((t111.length : Int) : Int).toNat := (by rw [Ny122.out, List.length_take]; omega); rw [← Ny122.out] at hr51; rw [← hy51] at hcut51; have HR125 := Aside0.mk hr51; have HC125 := Aside0.mk (show y122.length ≤ co7 from by omega); clear hr51 hC51 hroom51 hi051 hsz51; have KY51 := Aside0.mk hy51; clear hy51; have KL51 := Aside0.mk (show ((t111.length : Int) : Int).toNat ≤ t101.length from by omega); replace q51 := eq_true q51) | (go_at_call 17; (with_reducible refine (laws_luSame.calls kj4 _ _ t111 _ _ y122 t126 _ ?side1 ?side2 ?side3 ?side4 A44.out).mono ?_); (case side1 => repeat (first | exact (Kd.R_reads' HO114.out).2.2 | (with_reducible refine Kd.C_alloc ?_ _) | (with_reducible refine Kd.C_drewN ?_ _) | (with_reducible refine Kd.C_drew ?_))); (case side2 => exact (Kd.R_reads' HO114.out).2.1); (case side3 => repeat (first | exact (by repeat (first | (with_reducible exact HR125.out) | (with_reducible refine Kd.C_alloc ?_ _) | (with_reducible refine Kd.C_drewN ?_ _) | (with_reducible refine Kd.C_drew ?_) | exact HR125.out)) | (with_reducible refine Kd.C_alloc ?_ _) | (with_reducible refine Kd.C_drewN ?_ _) | (with_reducible refine Kd.C_drew ?_))); (case side4 => exact HC125.out); rintro e w' ⟨rfl, ⟨nd, rfl⟩⟩))
                 go_ret
                 exact ⟨by first | rfl | (simp [errW_none, errW_some] <;> rfl) | (simp only [← hji16, ← hji20]; first | rfl | (simp [errW_none, errW_some] <;> rfl)) | (simp [*, errW_none, errW_some] <;> rfl), (bC0 HB)⟩
                ·rw [if_neg c43] at H; exact absurd H (by simp)
               ·rw [if_neg c42] at H; exact absurd H (by simp)
              ·rw [if_neg c41] at H
               have c41b0 : decide ((t111.length : Int) < (t101.length : Int)) = false := decide_eq_false c41; have c41b1 : decide (t111.length < t101.length) = false := decide_eq_false (fun h => c41 (Int.ofNat_lt.mpr h)); clear c41; obtain rfl := Option.some.inj H; go_wp2_with (first | ((with_reducible refine gate_callee (f := 21) rfl ?_); refine goesL_ (some 37) rfl rfl Tryd.func21 (by kernel_rfl) rfl #[.string (t104.extract 0 ((ji16) : Int).toNat)] rfl (by (try simp only [List.map_toArray, List.map_cons, List.map_nil]); first | done | (simp only [hji16]; rfl) | rfl | (simp only [List.length_drop, List.length_take]; rfl)) ?_; (with_reducible refine (impl_CodeRead.calls kj4 (t104.extract 0 ((ji16) : Int).toNat) t107 false _ A19.out).mono ?_); rintro e w52 ⟨v109, rfl, ho0, hb⟩; refine ⟨_, rfl, ?_⟩; have n0_ := Aside0.mk (Kd.R_elder' (bR HO_3) (Kd.R_base ho0) hb); have n1_ := Aside0.mk (Kd.R_lower (Kd.R_new' ho0 (Kd.R_lt (bR HO_3))) (below_size (bC0 HB))); have n2_ := Aside0.mk (below_step (bC0 HB) hb); clear HO_3; clear HB; have HO_3 := n0_; have HO110 := n1_; have HB := n2_; clear n0_ n1_ n2_; (try clear hb); (try clear hb2); (try clear hk); (try clear hi); (try clear ho0)) | ((with_reducible refine gate_callee (f := 21) rfl ?_); refine goesL_ (some 46) rfl rfl Tryd.func21 (by kernel_rfl) rfl #[.string (t104.extract 0 ((ji20) : Int).toNat)] rfl (by (try simp only [List.map_toArray, List.map_cons, List.map_nil]); first | done | (simp only [hji20]; rfl) | rfl | (simp only [List.length_drop, List.length_take]; rfl)) ?_; (with_reducible refine (impl_CodeRead.calls kj4 (t104.extract 0 ((ji20) : Int).toNat) t111 true _ A23.out).mono ?_); rintro e w53 ⟨v113, rfl, ho0, hb⟩; refine ⟨_, rfl, ?_⟩; have n0_ := Aside0.mk (Kd.R_elder' (bR HO_3) (Kd.R_base ho0) hb); have n1_ := Aside0.mk (Kd.R_elder' (bR HO110) (Kd.R_base ho0) hb); have n2_ := Aside0.mk (Kd.R_lower (Kd.R_new' (Kd.R_new' ho0 (Kd.R_lt (bR HO_3))) (Kd.R_lt (bR HO110))) (below_size (bC0 HB))); have n3_ := Aside0.mk (below_step (bC0 HB) hb); clear HO_3; clear HO110; clear HB; have HO_3 := n0_; have HO110 := n1_; have HO114 := n2_; have HB := n3_; clear n0_ n1_ n2_ n3_; (try clear hb); (try clear hb2); (try clear hk); (try clear hi); (try clear ho0)) | ((with_reducible refine gate_callee (f := 21) rfl ?_); refine goesL_ (some 52) rfl rfl Tryd.func21 (by kernel_rfl) rfl #[.string (t104 ++ (⟨#[32]⟩ : ByteArray))] rfl bM ?_; (with_reducible refine (impl_CodeRead.calls kj4 (t104 ++ (⟨#[32]⟩ : ByteArray)) t115 false _ A25.out).mono ?_); rintro e w54 ⟨v117, rfl, ho0, hb⟩; refine ⟨_, rfl, ?_⟩; have n0_ := Aside0.mk (Kd.R_elder' (bR HO_3) (Kd.R_base ho0) hb); have n1_ := Aside0.mk (Kd.R_elder' (bR HO110) (Kd.R_base ho0) hb); have n2_ := Aside0.mk (Kd.R_elder' (bR HO114) (Kd.R_base ho0) hb); have n3_ := Aside0.mk (Kd.R_lower (Kd.R_new' (Kd.R_new' (Kd.R_new' ho0 (Kd.R_lt (bR HO_3))) (Kd.R_lt (bR HO110))) (Kd.R_lt (bR HO114))) (below_size (bC0 HB))); have n4_ := Aside0.mk (below_step (bC0 HB) hb); clear HO_3; clear HO110; clear HO114; clear HB; have HO_3 := n0_; have HO110 := n1_; have HO114 := n2_; have HO118 := n3_; have HB := n4_; clear n0_ n1_ n2_ n3_ n4_; (try clear hb); (try clear hb2); (try clear hk); (try clear hi); (try clear ho0)) | ((with_reducible refine gate_callee (f := 22) rfl ?_); refine goesL_ (some 56) rfl rfl Tryd.func22 (by kernel_rfl) rfl #[.slice Ao7 t101.length co7] rfl bM ?_; (with_reducible refine (impl_CodeTurns.calls kj4 _ _ t101 t119 _ ?side1 ?side2 A26.out).mono ?_); (case side1 => repeat (first | exact (Kd.R_reads' HO_3.out).2.2 | (with_reducible refine Kd.C_alloc ?_ _) | (with_reducible refine Kd.C_drewN ?_ _) | (with_reducible refine Kd.C_drew ?_))); (case side2 => exact (Kd.R_reads' HO_3.out).2.1); rintro e w55 ⟨v120, rfl, ho0, hb⟩; refine ⟨_, rfl, ?_⟩; have n0_ := Aside0.mk (Kd.R_elder' (bR HO_3) (Kd.R_base ho0) hb); have n1_ := Aside0.mk (Kd.R_elder' (bR HO110) (Kd.R_base ho0) hb); have n2_ := Aside0.mk (Kd.R_elder' (bR HO114) (Kd.R_base ho0) hb); have n3_ := Aside0.mk (Kd.R_elder' (bR HO118) (Kd.R_base ho0) hb); have n4_ := Aside0.mk (Kd.R_lower (Kd.R_new' (Kd.R_new' (Kd.R_new' (Kd.R_new' ho0 (Kd.R_lt (bR HO_3))) (Kd.R_lt (bR HO110))) (Kd.R_lt (bR HO114))) (Kd.R_lt (bR HO118))) (below_size (bC0 HB))); have n5_ := Aside0.mk (below_step (bC0 HB) hb); clear HO_3; clear HO110; clear HO114; clear HO118; clear HB; have HO_3 := n0_; have HO110 := n1_; have HO114 := n2_; have HO118 := n3_; have HO121 := n4_; have HB := n5_; clear n0_ n1_ n2_ n3_ n4_ n5_; (try clear hb); (try clear hb2); (try clear hk); (try clear hi); (try clear ho0); obtain ⟨Ao56, co56, eo56⟩ := Kd.R_slice HO121.out; subst eo56; obtain ⟨Ao57, co57, eo57⟩ := Kd.R_slice HO114.out; subst eo57))
               go_ret
               exact ⟨by first | rfl | (simp [errW_none, errW_some] <;> rfl) | (simp only [← hji16, ← hji20]; first | rfl | (simp [errW_none, errW_some] <;> rfl)) | (simp [*, errW_none, errW_some] <;> rfl), (bC0 HB)⟩
             ·replace c40 := Bool.eq_false_iff.mpr c40
              subst c40
              have H1 : (some true) = some r := by rw [if_neg (show ¬ (false = true) by decide)] at H; exact H
              clear H; have H := H1; clear H1; obtain rfl := Option.some.inj H; go_wp2_with (first | ((with_reducible refine gate_callee (f := 21) rfl ?_); refine goesL_ (some 37) rfl rfl Tryd.func21 (by kernel_rfl) rfl #[.string (t104.extract 0 ((ji16) : Int).toNat)] rfl (by (try simp only [List.map_toArray, List.map_cons, List.map_nil]); first | done | (simp only [hji16]; rfl) | rfl | (simp only [List.length_drop, List.length_take]; rfl)) ?_; (with_reducible refine (impl_CodeRead.calls kj4 (t104.extract 0 ((ji16) : Int).toNat) t107 false _ A19.out).mono ?_); rintro e w58 ⟨v109, rfl, ho0, hb⟩; refine ⟨_, rfl, ?_⟩; have n0_ := Aside0.mk (Kd.R_elder' (bR HO_3) (Kd.R_base ho0) hb); have n1_ := Aside0.mk (Kd.R_lower (Kd.R_new' ho0 (Kd.R_lt (bR HO_3))) (below_size (bC0 HB))); have n2_ := Aside0.mk (below_step (bC0 HB) hb); clear HO_3; clear HB; have HO_3 := n0_; have HO110 := n1_; have HB := n2_; clear n0_ n1_ n2_; (try clear hb); (try clear hb2); (try clear hk); (try clear hi); (try clear ho0)) | ((with_reducible refine gate_callee (f := 21) rfl ?_); refine goesL_ (some 46) rfl rfl Tryd.func21 (by kernel_rfl) rfl #[.string (t104.extract 0 ((ji20) : Int).toNat)] rfl (by (try simp only [List.map_toArray, List.map_cons, List.map_nil]); first | done | (simp only [hji20]; rfl) | rfl | (simp only [List.length_drop, List.length_take]; rfl)) ?_; (with_reducible refine (impl_CodeRead.calls kj4 (t104.extract 0 ((ji20) : Int).toNat) t111 false _ A23.out).mono ?_); rintro e w59 ⟨v113, rfl, ho0, hb⟩; refine ⟨_, rfl, ?_⟩; have n0_ := Aside0.mk (Kd.R_elder' (bR HO_3) (Kd.R_base ho0) hb); have n1_ := Aside0.mk (Kd.R_elder' (bR HO110) (Kd.R_base ho0) hb); have n2_ := Aside0.mk (Kd.R_lower (Kd.R_new' (Kd.R_new' ho0 (Kd.R_lt (bR HO_3))) (Kd.R_lt (bR HO110))) (below_size (bC0 HB))); have n3_ := Aside0.mk (below_step (bC0 HB) hb); clear HO_3; clear HO110; clear HB; have HO_3 := n0_; have HO110 := n1_; have HO114 := n2_; have HB := n3_; clear n0_ n1_ n2_ n3_; (try clear hb); (try clear hb2); (try clear hk); (try clear hi); (try clear ho0)) | ((with_reducible refine gate_callee (f := 21) rfl ?_); refine goesL_ (some 52) rfl rfl Tryd.func21 (by kernel_rfl) rfl #[.string (t104 ++ (⟨#[32]⟩ : ByteArray))] rfl bM ?_; (with_reducible refine (impl_CodeRead.calls kj4 (t104 ++ (⟨#[32]⟩ : ByteArray)) t115 false _ A25.out).mono ?_); rintro e w60 ⟨v117, rfl, ho0, hb⟩; refine ⟨_, rfl, ?_⟩; have n0_ := Aside0.mk (Kd.R_elder' (bR HO_3) (Kd.R_base ho0) hb); have n1_ := Aside0.mk (Kd.R_elder' (bR HO110) (Kd.R_base ho0) hb); have n2_ := Aside0.mk (Kd.R_elder' (bR HO114) (Kd.R_base ho0) hb); have n3_ := Aside0.mk (Kd.R_lower (Kd.R_new' (Kd.R_new' (Kd.R_new' ho0 (Kd.R_lt (bR HO_3))) (Kd.R_lt (bR HO110))) (Kd.R_lt (bR HO114))) (below_size (bC0 HB))); have n4_ := Aside0.mk (below_step (bC0 HB) hb); clear HO_3; clear HO110; clear HO114; clear HB; have HO_3 := n0_; have HO110 := n1_; have HO114 := n2_; have HO118 := n3_; have HB := n4_; clear n0_ n1_ n2_ n3_ n4_; (try clear hb); (try clear hb2); (try clear hk); (try clear hi); (try clear ho0)) | ((with_reducible refine gate_callee (f := 22) rfl ?_); refine goesL_ (some 56) rfl rfl Tryd.func22 (by kernel_rfl) rfl #[.slice Ao7 t101.length co7] rfl bM ?_; (with_reducible refine (impl_CodeTurns.calls kj4 _ _ t101 t119 _ ?side1 ?side2 A26.out).mono ?_); (case side1 => repeat (first | exact (Kd.R_reads' HO_3.out).2.2 | (with_reducible refine Kd.C_alloc ?_ _) | (with_reducible refine Kd.C_drewN ?_ _) | (with_reducible refine Kd.C_drew ?_))); (case side2 => exact (Kd.R_reads' HO_3.out).2.1); rintro e w61 ⟨v120, rfl, ho0, hb⟩; refine ⟨_, rfl, ?_⟩; have n0_ := Aside0.mk (Kd.R_elder' (bR HO_3) (Kd.R_base ho0) hb); have n1_ := Aside0.mk (Kd.R_elder' (bR HO110) (Kd.R_base ho0) hb); have n2_ := Aside0.mk (Kd.R_elder' (bR HO114) (Kd.R_base ho0) hb); have n3_ := Aside0.mk (Kd.R_elder' (bR HO118) (Kd.R_base ho0) hb); have n4_ := Aside0.mk (Kd.R_lower (Kd.R_new' (Kd.R_new' (Kd.R_new' (Kd.R_new' ho0 (Kd.R_lt (bR HO_3))) (Kd.R_lt (bR HO110))) (Kd.R_lt (bR HO114))) (Kd.R_lt (bR HO118))) (below_size (bC0 HB))); have n5_ := Aside0.mk (below_step (bC0 HB) hb); clear HO_3; clear HO110; clear HO114; clear HO118; clear HB; have HO_3 := n0_; have HO110 := n1_; have HO114 := n2_; have HO118 := n3_; have HO121 := n4_; have HB := n5_; clear n0_ n1_ n2_ n3_ n4_ n5_; (try clear hb); (try clear hb2); (try clear hk); (try clear hi); (try clear ho0); obtain ⟨Ao62, co62, eo62⟩ := Kd.R_slice HO121.out; subst eo62))
              go_ret
              exact ⟨by first | rfl | (simp [errW_none, errW_some] <;> rfl) | (simp only [← hji16, ← hji20]; first | rfl | (simp [errW_none, errW_some] <;> rfl)) | (simp [*, errW_none, errW_some] <;> rfl), (bC0 HB)⟩
            ·rw [if_neg c39] at H
             have c39b0 : (t112 == (decide ((t119.length : Int) > 1))) = false := by simpa using c39
             (try (have c39b1 : decide (t112 = (decide ((t119.length : Int) > 1))) = false := by simpa using c39)); (try (have c39b2 : (t112 == (decide ((t119.length : Int) > 1))) = false := by simpa using c39)); (try (have c39b3 : ¬ (t112 = (decide ((t119.length : Int) > 1))) := by simpa using c39)); clear c39; obtain rfl := Option.some.inj H; go_wp2_with (first | ((with_reducible refine gate_callee (f := 21) rfl ?_); refine goesL_ (some 37) rfl rfl Tryd.func21 (by kernel_rfl) rfl #[.string (t104.extract 0 ((ji16) : Int).toNat)] rfl (by (try simp only [List.map_toArray, List.map_cons, List.map_nil]); first | done | (simp only [hji16]; rfl) | rfl | (simp only [List.length_drop, List.length_take]; rfl)) ?_; (with_reducible refine (impl_CodeRead.calls kj4 (t104.extract 0 ((ji16) : Int).toNat) t107 false _ A19.out).mono ?_); rintro e w63 ⟨v109, rfl, ho0, hb⟩; refine ⟨_, rfl, ?_⟩; have n0_ := Aside0.mk (Kd.R_elder' (bR HO_3) (Kd.R_base ho0) hb); have n1_ := Aside0.mk (Kd.R_lower (Kd.R_new' ho0 (Kd.R_lt (bR HO_3))) (below_size (bC0 HB))); have n2_ := Aside0.mk (below_step (bC0 HB) hb); clear HO_3; clear HB; have HO_3 := n0_; have HO110 := n1_; have HB := n2_; clear n0_ n1_ n2_; (try clear hb); (try clear hb2); (try clear hk); (try clear hi); (try clear ho0)) | ((with_reducible refine gate_callee (f := 21) rfl ?_); refine goesL_ (some 46) rfl rfl Tryd.func21 (by kernel_rfl) rfl #[.string (t104.extract 0 ((ji20) : Int).toNat)] rfl (by (try simp only [List.map_toArray, List.map_cons, List.map_nil]); first | done | (simp only [hji20]; rfl) | rfl | (simp only [List.length_drop, List.length_take]; rfl)) ?_; (with_reducible refine (impl_CodeRead.calls kj4 (t104.extract 0 ((ji20) : Int).toNat) t111 t112 _ A23.out).mono ?_); rintro e w64 ⟨v113, rfl, ho0, hb⟩; refine ⟨_, rfl, ?_⟩; have n0_ := Aside0.mk (Kd.R_elder' (bR HO_3) (Kd.R_base ho0) hb); have n1_ := Aside0.mk (Kd.R_elder' (bR HO110) (Kd.R_base ho0) hb); have n2_ := Aside0.mk (Kd.R_lower (Kd.R_new' (Kd.R_new' ho0 (Kd.R_lt (bR HO_3))) (Kd.R_lt (bR HO110))) (below_size (bC0 HB))); have n3_ := Aside0.mk (below_step (bC0 HB) hb); clear HO_3; clear HO110; clear HB; have HO_3 := n0_; have HO110 := n1_; have HO114 := n2_; have HB := n3_; clear n0_ n1_ n2_ n3_; (try clear hb); (try clear hb2); (try clear hk); (try clear hi); (try clear ho0)) | ((with_reducible refine gate_callee (f := 21) rfl ?_); refine goesL_ (some 52) rfl rfl Tryd.func21 (by kernel_rfl) rfl #[.string (t104 ++ (⟨#[32]⟩ : ByteArray))] rfl bM ?_; (with_reducible refine (impl_CodeRead.calls kj4 (t104 ++ (⟨#[32]⟩ : ByteArray)) t115 false _ A25.out).mono ?_); rintro e w65 ⟨v117, rfl, ho0, hb⟩; refine ⟨_, rfl, ?_⟩; have n0_ := Aside0.mk (Kd.R_elder' (bR HO_3) (Kd.R_base ho0) hb); have n1_ := Aside0.mk (Kd.R_elder' (bR HO110) (Kd.R_base ho0) hb); have n2_ := Aside0.mk (Kd.R_elder' (bR HO114) (Kd.R_base ho0) hb); have n3_ := Aside0.mk (Kd.R_lower (Kd.R_new' (Kd.R_new' (Kd.R_new' ho0 (Kd.R_lt (bR HO_3))) (Kd.R_lt (bR HO110))) (Kd.R_lt (bR HO114))) (below_size (bC0 HB))); have n4_ := Aside0.mk (below_step (bC0 HB) hb); clear HO_3; clear HO110; clear HO114; clear HB; have HO_3 := n0_; have HO110 := n1_; have HO114 := n2_; have HO118 := n3_; have HB := n4_; clear n0_ n1_ n2_ n3_ n4_; (try clear hb); (try clear hb2); (try clear hk); (try clear hi); (try clear ho0)) | ((with_reducible refine gate_callee (f := 22) rfl ?_); refine goesL_ (some 56) rfl rfl Tryd.func22 (by kernel_rfl) rfl #[.slice Ao7 t101.length co7] rfl bM ?_; (with_reducible refine (impl_CodeTurns.calls kj4 _ _ t101 t119 _ ?side1 ?side2 A26.out).mono ?_); (case side1 => repeat (first | exact (Kd.R_reads' HO_3.out).2.2 | (with_reducible refine Kd.C_alloc ?_ _) | (with_reducible refine Kd.C_drewN ?_ _) | (with_reducible refine Kd.C_drew ?_))); (case side2 => exact (Kd.R_reads' HO_3.out).2.1); rintro e w66 ⟨v120, rfl, ho0, hb⟩; refine ⟨_, rfl, ?_⟩; have n0_ := Aside0.mk (Kd.R_elder' (bR HO_3) (Kd.R_base ho0) hb); have n1_ := Aside0.mk (Kd.R_elder' (bR HO110) (Kd.R_base ho0) hb); have n2_ := Aside0.mk (Kd.R_elder' (bR HO114) (Kd.R_base ho0) hb); have n3_ := Aside0.mk (Kd.R_elder' (bR HO118) (Kd.R_base ho0) hb); have n4_ := Aside0.mk (Kd.R_lower (Kd.R_new' (Kd.R_new' (Kd.R_new' (Kd.R_new' ho0 (Kd.R_lt (bR HO_3))) (Kd.R_lt (bR HO110))) (Kd.R_lt (bR HO114))) (Kd.R_lt (bR HO118))) (below_size (bC0 HB))); have n5_ := Aside0.mk (below_step (bC0 HB) hb); clear HO_3; clear HO110; clear HO114; clear HO118; clear HB; have HO_3 := n0_; have HO110 := n1_; have HO114 := n2_; have HO118 := n3_; have HO121 := n4_; have HB := n5_; clear n0_ n1_ n2_ n3_ n4_ n5_; (try clear hb); (try clear hb2); (try clear hk); (try clear hi); (try clear ho0); obtain ⟨Ao67, co67, eo67⟩ := Kd.R_slice HO121.out; subst eo67))
             go_ret
             exact ⟨by first | rfl | (simp [errW_none, errW_some] <;> rfl) | (simp only [← hji16, ← hji20]; first | rfl | (simp [errW_none, errW_some] <;> rfl)) | (simp [*, errW_none, errW_some] <;> rfl), (bC0 HB)⟩
         ·rw [if_neg c24] at H; exact absurd H (by simp)
        ·rw [if_neg c22] at H; exact absurd H (by simp)
       ·rw [if_neg c21] at H; exact absurd H (by simp)
      ·rw [if_neg c18] at H; exact absurd H (by simp)
     ·rw [if_neg c17] at H; exact absurd H (by simp)

def laws_FnCodeCut.Pure : Prop := ∀ (l0 : List Int), l0.length ≤ maxLen → l0.length * 1 ≤ 140737488351232 → (∀ x ∈ l0, (Lit.int .u8 x).wf = true) → ∃ k, laws_FnCodeCut.f k l0 = some true
theorem laws_FnCodeCut.walk (P : laws_FnCodeCut.Pure) (a0 : Option Addr) (len0 cap0 : Nat) (z0 : List Int) (w : World) (w0 : (a0 = none ∧ len0 = 0 ∧ cap0 = 0 ∧ z0 = []) ∨ ∃ x, a0 = some x ∧ len0 ≤ cap0 ∧ cap0 ≤ maxLen ∧ z0.length = cap0 ∧ (∀ i, i < z0.length → w.cell? (x.add i) = some (.int .u8 (z0.getD i 0))) ∧ ∀ n ∈ z0, (Lit.int .u8 n).wf = true) (y0 : len0 * 1 ≤ 140737488351232) :
  Calls Tryd.prog 6 #[.slice a0 len0 cap0] w fun e w' => e = .returned (.bool true) ∧ Below w.heap.size w w' := by
 obtain ⟨l0, rfl, hr0, hm0, hw0, hc0⟩ := ReadsInt.ofRowC w0; obtain ⟨k, h⟩ := P l0 hm0 y0 hw0; refine (laws_FnCodeCut.calls k _ _ l0 true w (Kd.C_of_reads (d := (0 : Int)) (h1 := fun _ => rfl) hr0) hc0 h).mono ?_; rintro e w' ⟨rfl, hd⟩
 exact ⟨rfl, hd⟩

end Go.Proofs.YtdacpdhpifocbaaDoor.P

namespace Go.Proofs.YtdacpdhpifocbaaDoor.Q
open Go.RowKit Go.Proofs.YtdacpdhpifocbaaDoor.P Go.Proofs.YtdacpdhpifocbaaDoorW.PrintWords Go.Proofs.YtdacpdhpifocbaaDoorW.PrintLast
set_option linter.unusedVariables false

abbrev PT := S35
def g (l : List PT) (i : Nat) : PT := l.getD i z35
theorem rd_nat (l : List PT) (i : Nat) : rd_T35 l (i : Int) = g l i := by simp [rd_T35, g]
theorem rd_zero (l : List PT) : rd_T35 l 0 = g l 0 := by simp [rd_T35, g]
theorem w_id {x : Int} (h0 : -9223372036854775808 ≤ x) (h1 : x < 9223372036854775808) : wrap64 x = x := by unfold wrap64; omega
theorem w_succ {i : Nat} (h : i < 1000000000000000000) : wrap64 ((i : Int) + 1) = ((i + 1 : Nat) : Int) := by rw [w_id (by omega) (by omega)]; omega
theorem w_pred {i : Nat} (h0 : 0 < i) (h : i < 1000000000000000000) : wrap64 ((i : Int) - 1) = ((i - 1 : Nat) : Int) := by rw [w_id (by omega) (by omega)]; omega
theorem g_eq {l : List PT} {i : Nat} (h : i < l.length) : g l i = l[i] := by simp [g, List.getD_eq_getElem?_getD, h]
theorem PT.ext {a b : PT} (h0 : a.f0 = b.f0) (h1 : a.f1 = b.f1) : a = b := by cases a; cases b; simp_all

instance : DecidableEq PT := fun a b => if h : a.f0 = b.f0 ∧ a.f1 = b.f1 then isTrue (PT.ext h.1 h.2) else isFalse (fun e => h ⟨by rw [e], by rw [e]⟩)
def okP (p : PT) : Bool := decide (0 ≤ p.f0 ∧ p.f0 ≤ 9 ∧ 0 ≤ p.f1 ∧ p.f1 ≤ 9)
theorem okP_iff {p : PT} : okP p = true ↔ 0 ≤ p.f0 ∧ p.f0 ≤ 9 ∧ 0 ≤ p.f1 ∧ p.f1 ≤ 9 := by simp [okP]
theorem implOk (a b : Int) : impl_PtOk.f a b = some (okP ⟨a, b⟩) := by
  unfold impl_PtOk.f okP
  by_cases h1 : a ≥ 0
  · by_cases h2 : a ≤ 9
    · by_cases h3 : b ≥ 0
      · rw [if_pos h1, if_pos h2, if_pos h3]; congr 1; simp only [decide_eq_decide]; omega
      · rw [if_pos h1, if_pos h2, if_neg h3]; congr 1; symm; simp only [decide_eq_false_iff_not]; omega
    · rw [if_pos h1, if_neg h2]; congr 1; symm; simp only [decide_eq_false_iff_not]; omega
  · rw [if_neg h1]; congr 1; symm; simp only [decide_eq_false_iff_not]; omega
theorem specIn (a b c : Int) : spec_l6In.f a b c = some (decide (b ≤ a ∧ a ≤ c)) := by
  unfold spec_l6In.f
  by_cases h1 : a ≥ b
  · rw [if_pos h1]; congr 1; simp only [decide_eq_decide]; omega
  · rw [if_neg h1]; congr 1; symm; simp only [decide_eq_false_iff_not]; omega
theorem specOk (a b : Int) : spec_PtOk.f a b = some (okP ⟨a, b⟩) := by
  unfold spec_PtOk.f okP
  rw [specIn, specIn]
  simp only [Option.bind_some]
  by_cases h1 : 0 ≤ a ∧ a ≤ 9
  · rw [decide_eq_true h1, if_pos rfl]; congr 1; simp only [decide_eq_decide]; omega
  · rw [decide_eq_false h1, if_neg (by decide)]; congr 1; symm; simp only [decide_eq_false_iff_not]; omega

def stepP (a b : PT) : Bool := (wrap64 (a.f0 + 1) == b.f0 && a.f1 == b.f1) || ((a.f0 == b.f0 && wrap64 (a.f1 + 1) == b.f1) || ((wrap64 (a.f0 - 1) == b.f0 && a.f1 == b.f1) || (a.f0 == b.f0 && wrap64 (a.f1 - 1) == b.f1)))
theorem implStep (a b : PT) : impl_isStep.f a.f0 a.f1 b.f0 b.f1 = some (stepP a b) := rfl
def Step (a b : PT) : Prop := (b.f0 = a.f0 + 1 ∧ b.f1 = a.f1) ∨ (b.f0 = a.f0 ∧ b.f1 = a.f1 + 1) ∨ (b.f0 = a.f0 - 1 ∧ b.f1 = a.f1) ∨ (b.f0 = a.f0 ∧ b.f1 = a.f1 - 1)
instance (a b : PT) : Decidable (Step a b) := by unfold Step; infer_instance
theorem stepP_iff {a b : PT} (ha : okP a = true) : stepP a b = true ↔ Step a b := by
  rw [okP_iff] at ha
  unfold stepP Step
  rw [w_id (x := a.f0 + 1) (by omega) (by omega), w_id (x := a.f1 + 1) (by omega) (by omega), w_id (x := a.f0 - 1) (by omega) (by omega), w_id (x := a.f1 - 1) (by omega) (by omega)]
  simp only [Bool.or_eq_true, Bool.and_eq_true, beq_iff_eq]
  omega
theorem dot_one {x y : Int} (hx : -9 ≤ x ∧ x ≤ 9) (hy : -9 ≤ y ∧ y ≤ 9) : x * x + y * y = 1 ↔ (x = 1 ∧ y = 0) ∨ (x = 0 ∧ y = 1) ∨ (x = -1 ∧ y = 0) ∨ (x = 0 ∧ y = -1) := by
  obtain ⟨h1, h2⟩ := hx
  obtain ⟨h3, h4⟩ := hy
  have ex : x * x = 0 ∧ x = 0 ∨ x * x = 1 ∧ (x = 1 ∨ x = -1) ∨ 4 ≤ x * x ∧ (x ≤ -2 ∨ 2 ≤ x) := by
    have : x = -9 ∨ x = -8 ∨ x = -7 ∨ x = -6 ∨ x = -5 ∨ x = -4 ∨ x = -3 ∨ x = -2 ∨ x = -1 ∨ x = 0 ∨ x = 1 ∨ x = 2 ∨ x = 3 ∨ x = 4 ∨ x = 5 ∨ x = 6 ∨ x = 7 ∨ x = 8 ∨ x = 9 := by omega
    rcases this with h | h | h | h | h | h | h | h | h | h | h | h | h | h | h | h | h | h | h <;> subst h <;> decide
  have ey : y * y = 0 ∧ y = 0 ∨ y * y = 1 ∧ (y = 1 ∨ y = -1) ∨ 4 ≤ y * y ∧ (y ≤ -2 ∨ 2 ≤ y) := by
    have : y = -9 ∨ y = -8 ∨ y = -7 ∨ y = -6 ∨ y = -5 ∨ y = -4 ∨ y = -3 ∨ y = -2 ∨ y = -1 ∨ y = 0 ∨ y = 1 ∨ y = 2 ∨ y = 3 ∨ y = 4 ∨ y = 5 ∨ y = 6 ∨ y = 7 ∨ y = 8 ∨ y = 9 := by omega
    rcases this with h | h | h | h | h | h | h | h | h | h | h | h | h | h | h | h | h | h | h <;> subst h <;> decide
  generalize x * x = a at *
  generalize y * y = b at *
  omega
theorem w_mul {x y : Int} (hx : -9 ≤ x ∧ x ≤ 9) (hy : -9 ≤ y ∧ y ≤ 9) : -81 ≤ x * y ∧ x * y ≤ 81 := by
  have : x = -9 ∨ x = -8 ∨ x = -7 ∨ x = -6 ∨ x = -5 ∨ x = -4 ∨ x = -3 ∨ x = -2 ∨ x = -1 ∨ x = 0 ∨ x = 1 ∨ x = 2 ∨ x = 3 ∨ x = 4 ∨ x = 5 ∨ x = 6 ∨ x = 7 ∨ x = 8 ∨ x = 9 := by omega
  rcases this with h | h | h | h | h | h | h | h | h | h | h | h | h | h | h | h | h | h | h <;> subst h <;> omega
theorem specBeside {a b : PT} (ha : okP a = true) (hb : okP b = true) : spec_l13Beside.f a.f0 a.f1 b.f0 b.f1 = some (decide (Step a b)) := by
  rw [okP_iff] at ha hb
  unfold spec_l13Beside.f spec_l2Dot.f
  simp only [Option.bind_some]
  have hx : -9 ≤ b.f0 - a.f0 ∧ b.f0 - a.f0 ≤ 9 := by omega
  have hy : -9 ≤ b.f1 - a.f1 ∧ b.f1 - a.f1 ≤ 9 := by omega
  have mx := w_mul hx hx
  have my := w_mul hy hy
  rw [w_id (x := b.f0 - a.f0) (by omega) (by omega), w_id (x := b.f1 - a.f1) (by omega) (by omega), w_id (x := (b.f0 - a.f0) * (b.f0 - a.f0)) (by omega) (by omega), w_id (x := (b.f1 - a.f1) * (b.f1 - a.f1)) (by omega) (by omega), w_id (by omega) (by omega)]
  congr 1
  rw [Bool.eq_iff_iff, beq_iff_eq, decide_eq_true_eq, dot_one hx hy]
  unfold Step
  omega

def PathTo (l : List PT) (i : Nat) : Prop := ∀ j, i ≤ j → j < l.length → okP (g l j) = true ∧ (0 < j → Step (g l (j - 1)) (g l j))
def IsPath (l : List PT) : Prop := 1 ≤ l.length ∧ l.length ≤ 400 ∧ PathTo l 0
theorem PathTo.cons {l : List PT} {i : Nat} (h : okP (g l i) = true) (h' : 0 < i → Step (g l (i - 1)) (g l i)) (r : PathTo l (i + 1)) : PathTo l i := by
  intro j h1 h2
  rcases Nat.eq_or_lt_of_le h1 with e | e
  · subst e; exact ⟨h, h'⟩
  · exact r j e h2
theorem isPath_l0 (l : List PT) (hl : l.length < 1000000000000000000) : ∀ (d k i : Nat), l.length - i = d → i ≤ l.length → d < k → (∀ j, j < i → okP (g l j) = true) →
    ∃ b, impl_isPath.l0 k l l (l.length : Int) (i : Int) = some b ∧ (b = true ↔ PathTo l i) := by
  intro d
  induction d with
  | zero =>
    intro k i hd hi hk _
    obtain ⟨k, rfl⟩ : ∃ m, k = m + 1 := ⟨k - 1, by omega⟩
    refine ⟨true, ?_, by simp only [true_iff]; intro j h1 h2; omega⟩
    simp only [impl_isPath.l0]
    rw [if_neg (by omega)]
  | succ d ih =>
    intro k i hd hi hk hbef
    obtain ⟨k, rfl⟩ : ∃ m, k = m + 1 := ⟨k - 1, by omega⟩
    simp only [impl_isPath.l0]
    rw [if_pos (by omega), if_pos (by omega), if_pos (by omega), rd_nat, implOk]
    simp only [Option.bind_some]
    by_cases hok : okP (g l i) = true
    · rw [if_pos (by simpa using hok), w_succ (by omega)]
      have hbef' : ∀ j, j < i + 1 → okP (g l j) = true := fun j hj => by
        rcases Nat.eq_or_lt_of_le (Nat.le_of_lt_succ hj) with e | e
        · subst e; exact hok
        · exact hbef j e
      by_cases h0 : 0 < i
      · rw [if_pos (by omega), w_pred h0 (by omega), if_pos (by omega), if_pos (by omega), rd_nat, implStep]
        simp only [Option.bind_some]
        by_cases hs : stepP (g l (i - 1)) (g l i) = true
        · rw [if_pos hs]
          obtain ⟨b, hb, hb'⟩ := ih k (i + 1) (by omega) (by omega) (by omega) hbef'
          refine ⟨b, hb, hb'.trans ⟨fun r => PathTo.cons hok (fun _ => (stepP_iff (hbef _ (by omega))).1 hs) r, fun r j h1 h2 => r j (by omega) h2⟩⟩
        · rw [if_neg hs]
          refine ⟨false, rfl, by simp only [Bool.false_eq_true, false_iff]; exact fun r => hs ((stepP_iff (hbef _ (by omega))).2 ((r i (Nat.le_refl _) (by omega)).2 h0))⟩
      · rw [if_neg (by omega)]
        obtain ⟨b, hb, hb'⟩ := ih k (i + 1) (by omega) (by omega) (by omega) hbef'
        exact ⟨b, hb, hb'.trans ⟨fun r => PathTo.cons hok (fun h => absurd h h0) r, fun r j h1 h2 => r j (by omega) h2⟩⟩
    · rw [if_neg (by simpa using hok)]
      exact ⟨false, rfl, by simp only [Bool.false_eq_true, false_iff]; exact fun r => hok (r i (Nat.le_refl _) (by omega)).1⟩
theorem isPath_f (l : List PT) (hl : l.length < 1000000000000000000) (k : Nat) (hk : l.length + 2 ≤ k) : ∃ b, impl_isPath.f k l = some b ∧ (b = true ↔ IsPath l) := by
  obtain ⟨k, rfl⟩ : ∃ m, k = m + 1 := ⟨k - 1, by omega⟩
  unfold impl_isPath.f IsPath
  simp only [impl_isPath.j0]
  by_cases h1 : (l.length : Int) < 1
  · rw [if_pos h1, if_pos trivial]
    exact ⟨false, rfl, by simp only [Bool.false_eq_true, false_iff]; omega⟩
  · rw [if_neg h1]
    by_cases h2 : (l.length : Int) > 400
    · rw [decide_eq_true h2, if_pos rfl]
      exact ⟨false, rfl, by simp only [Bool.false_eq_true, false_iff]; omega⟩
    · rw [decide_eq_false h2, if_neg (by decide)]
      obtain ⟨b, hb, hb'⟩ := isPath_l0 l hl l.length k 0 (by omega) (by omega) (by omega) (fun j hj => by omega)
      exact ⟨b, hb, hb'.trans ⟨fun r => ⟨by omega, by omega, r⟩, fun r => r.2.2⟩⟩
theorem l22Path_l0 (l : List PT) (hl : l.length < 1000000000000000000) : ∀ (d k i : Nat), l.length - i = d → i ≤ l.length → d < k → (∀ j, j < i → okP (g l j) = true) →
    ∃ b, spec_l22Path.l0 k l (i : Int) = some b ∧ (b = true ↔ PathTo l i ∧ 1 ≤ l.length ∧ l.length ≤ 400) := by
  intro d
  induction d with
  | zero =>
    intro k i hd hi hk _
    obtain ⟨k, rfl⟩ : ∃ m, k = m + 1 := ⟨k - 1, by omega⟩
    simp only [spec_l22Path.l0]
    rw [if_neg (by omega), specIn]
    refine ⟨_, rfl, ?_⟩
    rw [decide_eq_true_eq]
    exact ⟨fun h => ⟨fun j h1 h2 => by omega, by omega, by omega⟩, fun h => by omega⟩
  | succ d ih =>
    intro k i hd hi hk hbef
    obtain ⟨k, rfl⟩ : ∃ m, k = m + 1 := ⟨k - 1, by omega⟩
    simp only [spec_l22Path.l0]
    rw [if_pos (by omega), if_pos (by omega), rd_nat, specOk]
    simp only [Option.bind_some]
    by_cases hok : okP (g l i) = true
    · rw [if_pos (by simpa using hok), w_succ (by omega)]
      have hbef' : ∀ j, j < i + 1 → okP (g l j) = true := fun j hj => by
        rcases Nat.eq_or_lt_of_le (Nat.le_of_lt_succ hj) with e | e
        · subst e; exact hok
        · exact hbef j e
      by_cases h0 : 0 < i
      · rw [if_pos (by omega), w_pred h0 (by omega), if_pos (by omega), if_pos (by omega), rd_nat, specBeside (hbef _ (by omega)) hok]
        simp only [Option.bind_some]
        by_cases hs : Step (g l (i - 1)) (g l i)
        · rw [if_pos (decide_eq_true hs)]
          obtain ⟨b, hb, hb'⟩ := ih k (i + 1) (by omega) (by omega) (by omega) hbef'
          exact ⟨b, hb, hb'.trans ⟨fun r => ⟨PathTo.cons hok (fun _ => hs) r.1, r.2⟩, fun r => ⟨fun j h1 h2 => r.1 j (by omega) h2, r.2⟩⟩⟩
        · rw [if_neg (by simpa using hs)]
          exact ⟨false, rfl, by simp only [Bool.false_eq_true, false_iff]; exact fun r => hs ((r.1 i (Nat.le_refl _) (by omega)).2 h0)⟩
      · rw [if_neg (by omega)]
        obtain ⟨b, hb, hb'⟩ := ih k (i + 1) (by omega) (by omega) (by omega) hbef'
        exact ⟨b, hb, hb'.trans ⟨fun r => ⟨PathTo.cons hok (fun h => absurd h h0) r.1, r.2⟩, fun r => ⟨fun j h1 h2 => r.1 j (by omega) h2, r.2⟩⟩⟩
    · rw [if_neg (by simpa using hok)]
      exact ⟨false, rfl, by simp only [Bool.false_eq_true, false_iff]; exact fun r => hok (r.1 i (Nat.le_refl _) (by omega)).1⟩
theorem l22Path_f (l : List PT) (hl : l.length < 1000000000000000000) (k : Nat) (hk : l.length + 2 ≤ k) : ∃ b, spec_l22Path.f k l = some b ∧ (b = true ↔ IsPath l) := by
  obtain ⟨b, hb, hb'⟩ := l22Path_l0 l hl l.length k 0 (by omega) (by omega) (by omega) (fun j hj => by omega)
  exact ⟨b, hb, hb'.trans ⟨fun r => ⟨r.2.1, r.2.2, r.1⟩, fun r => ⟨r.2.2, r.1, r.2.1⟩⟩⟩

def goesOn (a b c : PT) : Bool := c.f0 - b.f0 == b.f0 - a.f0 && c.f1 - b.f1 == b.f1 - a.f1
theorem implGoes {a b c : PT} (ha : okP a = true) (hb : okP b = true) (hc : okP c = true) : impl_goesOn.f a.f0 a.f1 b.f0 b.f1 c.f0 c.f1 = some (goesOn a b c) := by
  rw [okP_iff] at ha hb hc
  unfold impl_goesOn.f goesOn
  rw [w_id (x := c.f0 - b.f0) (by omega) (by omega), w_id (x := b.f0 - a.f0) (by omega) (by omega), w_id (x := c.f1 - b.f1) (by omega) (by omega), w_id (x := b.f1 - a.f1) (by omega) (by omega)]
  by_cases h : c.f0 - b.f0 = b.f0 - a.f0
  · rw [if_pos h, h]; simp
  · rw [if_neg h, show (c.f0 - b.f0 == b.f0 - a.f0) = false from beq_eq_false_iff_ne.2 h]; rfl
def turnAt (l : List PT) (j : Nat) : Bool := decide (j = 0) || decide (j + 1 = l.length) || !goesOn (g l (j - 1)) (g l j) (g l (j + 1))
def turnsFrom (l : List PT) (i : Nat) : List PT := ((List.range' i (l.length - i)).filter (turnAt l)).map (g l)
def turns (l : List PT) : List PT := turnsFrom l 0
theorem turnsFrom_end (l : List PT) (i : Nat) (h : l.length ≤ i) : turnsFrom l i = [] := by
  unfold turnsFrom
  rw [show l.length - i = 0 by omega]; rfl
theorem turnsFrom_step (l : List PT) (i : Nat) (h : i < l.length) : turnsFrom l i = (if turnAt l i = true then [g l i] else []) ++ turnsFrom l (i + 1) := by
  unfold turnsFrom
  rw [show l.length - i = (l.length - (i + 1)) + 1 by omega, List.range'_succ, List.filter_cons]
  split <;> simp
theorem pt_eta (p : PT) : (⟨p.f0, p.f1⟩ : PT) = p := rfl
theorem codeTurns_l0 (l : List PT) (hp : IsPath l) : ∀ (d k i : Nat) (acc : List PT), l.length - i = d → i ≤ l.length → d < k → acc.length ≤ i →
    impl_CodeTurns.l0 k l acc (wrap64 ((l.length : Int) - 1)) l (l.length : Int) (i : Int) = some (acc ++ turnsFrom l i) := by
  obtain ⟨h1, h2, hp⟩ := hp
  have hw : wrap64 ((l.length : Int) - 1) = ((l.length - 1 : Nat) : Int) := w_pred (by omega) (by omega)
  rw [hw]
  intro d
  induction d with
  | zero =>
    intro k i acc hd hi hk ha
    obtain ⟨k, rfl⟩ : ∃ m, k = m + 1 := ⟨k - 1, by omega⟩
    simp only [impl_CodeTurns.l0]
    rw [if_neg (by omega), turnsFrom_end l i (by omega), List.append_nil]
  | succ d ih =>
    intro k i acc hd hi hk ha
    obtain ⟨k, rfl⟩ : ∃ m, k = m + 1 := ⟨k - 1, by omega⟩
    simp only [impl_CodeTurns.l0]
    rw [if_pos (by omega), if_pos (by omega), if_pos (by omega), rd_nat, pt_eta, turnsFrom_step l i (by omega), w_succ (by omega)]
    have hadd : turnAt l i = true → impl_CodeTurns.l0 k l (acc ++ [g l i]) ((l.length - 1 : Nat) : Int) l (l.length : Int) ((i + 1 : Nat) : Int) = some (acc ++ ((if turnAt l i = true then [g l i] else []) ++ turnsFrom l (i + 1))) := fun ht => by
      rw [if_pos ht, ih k (i + 1) (acc ++ [g l i]) (by omega) (by omega) (by omega) (by simp; omega), List.append_assoc]
    by_cases e0 : i = 0
    · rw [if_pos (by omega), if_pos (by omega)]
      exact hadd (by simp [turnAt, e0])
    · rw [if_neg (by omega)]
      by_cases e1 : i + 1 = l.length
      · rw [if_pos (by omega), if_pos (by omega)]
        exact hadd (by simp [turnAt, e1])
      · rw [if_neg (by omega), w_pred (by omega) (by omega), if_pos (by omega), if_pos (by omega), if_pos (by omega), if_pos (by omega), rd_nat, rd_nat,
          implGoes (hp _ (by omega) (by omega)).1 (hp _ (by omega) (by omega)).1 (hp _ (by omega) (by omega)).1]
        simp only [Option.bind_some]
        have ht : turnAt l i = !goesOn (g l (i - 1)) (g l i) (g l (i + 1)) := by simp [turnAt, e0, e1]
        by_cases hg : goesOn (g l (i - 1)) (g l i) (g l (i + 1)) = true
        · rw [if_pos hg, ih k (i + 1) acc (by omega) (by omega) (by omega) (by omega), ht, hg]
          rfl
        · rw [if_neg hg, if_pos (by omega)]
          exact hadd (by rw [ht]; simpa using hg)
theorem l22Turns_l0 (l : List PT) (hp : IsPath l) : ∀ (d k i : Nat) (acc : List PT), l.length - i = d → i ≤ l.length → 1 ≤ i → d < k → acc.length ≤ i →
    spec_l22Turns.l0 k l acc (i : Int) = some (acc ++ turnsFrom l i) := by
  obtain ⟨h1, h2, hp⟩ := hp
  have hw : wrap64 ((l.length : Int) - 1) = ((l.length - 1 : Nat) : Int) := w_pred (by omega) (by omega)
  intro d
  induction d with
  | zero =>
    intro k i acc hd hi _ hk ha
    obtain ⟨k, rfl⟩ : ∃ m, k = m + 1 := ⟨k - 1, by omega⟩
    simp only [spec_l22Turns.l0]
    rw [if_neg (by omega), turnsFrom_end l i (by omega), List.append_nil]
  | succ d ih =>
    intro k i acc hd hi e0 hk ha
    obtain ⟨k, rfl⟩ : ∃ m, k = m + 1 := ⟨k - 1, by omega⟩
    simp only [spec_l22Turns.l0]
    rw [if_pos (by omega), hw, turnsFrom_step l i (by omega), w_succ (by omega), rd_nat]
    have hadd : turnAt l i = true → spec_l22Turns.l0 k l (acc ++ [g l i]) ((i + 1 : Nat) : Int) = some (acc ++ ((if turnAt l i = true then [g l i] else []) ++ turnsFrom l (i + 1))) := fun ht => by
      rw [if_pos ht, ih k (i + 1) (acc ++ [g l i]) (by omega) (by omega) (by omega) (by omega) (by simp; omega), List.append_assoc]
    by_cases e1 : i + 1 = l.length
    · rw [if_pos (by omega), if_pos (by omega), if_pos (by omega), pt_eta]
      exact hadd (by simp [turnAt, e1])
    · have oa := (hp (i - 1) (by omega) (by omega)).1
      have ob := (hp i (by omega) (by omega)).1
      have oc := (hp (i + 1) (by omega) (by omega)).1
      have ht : turnAt l i = !goesOn (g l (i - 1)) (g l i) (g l (i + 1)) := by simp [turnAt, e1]; omega
      rw [okP_iff] at oa ob oc
      rw [if_neg (by omega), if_pos (by omega), if_pos (by omega), if_pos (by omega), w_pred (by omega) (by omega), if_pos (by omega), if_pos (by omega), rd_nat, rd_nat, pt_eta,
        w_id (x := (g l (i + 1)).f0 - (g l i).f0) (by omega) (by omega), w_id (x := (g l i).f0 - (g l (i - 1)).f0) (by omega) (by omega), w_id (x := (g l (i + 1)).f1 - (g l i).f1) (by omega) (by omega), w_id (x := (g l i).f1 - (g l (i - 1)).f1) (by omega) (by omega)]
      by_cases hx : (g l (i + 1)).f0 - (g l i).f0 = (g l i).f0 - (g l (i - 1)).f0
      · rw [if_pos hx]
        by_cases hy : (g l (i + 1)).f1 - (g l i).f1 = (g l i).f1 - (g l (i - 1)).f1
        · rw [if_pos hy, ih k (i + 1) acc (by omega) (by omega) (by omega) (by omega) (by omega), ht, show goesOn (g l (i - 1)) (g l i) (g l (i + 1)) = true by simp [goesOn, hx, hy]]
          rfl
        · rw [if_neg hy, if_pos (by omega)]
          exact hadd (by rw [ht]; simp [goesOn, hy])
      · rw [if_neg hx, if_pos (by omega)]
        exact hadd (by rw [ht]; simp [goesOn, hx])
theorem l22Turns_f (l : List PT) (hp : IsPath l) (k : Nat) (hk : l.length < k) : spec_l22Turns.f k l = some (turns l) := by
  have h1 := hp.1
  unfold spec_l22Turns.f turns
  rw [if_pos (by omega), rd_zero, pt_eta, turnsFrom_step l 0 (by omega), if_pos (by simp [turnAt])]
  exact l22Turns_l0 l hp (l.length - 1) k 1 [g l 0] (by omega) (by omega) (by omega) (by omega) (by simp)
open Classical in
noncomputable def codeTurns (l : List PT) : List PT := if IsPath l then turns l else []
theorem implCodeTurns (l : List PT) (hl : l.length < 1000000000000000000) (k : Nat) (hk : l.length + 2 ≤ k) : impl_CodeTurns.f k l = some (codeTurns l) := by
  obtain ⟨b, hb, hb'⟩ := isPath_f l hl k hk
  unfold impl_CodeTurns.f codeTurns
  rw [hb]
  simp only [Option.bind_some]
  by_cases hp : IsPath l
  · rw [if_pos (hb'.2 hp), if_pos hp]
    exact codeTurns_l0 l hp l.length k 0 [] (by omega) (by omega) (by omega) (by simp)
  · rw [if_neg (fun h => hp (hb'.1 h)), if_neg hp]
set_option linter.unusedVariables false

def sgn (a b : Int) : Int := if a < b then 1 else if a > b then -1 else 0
def nxt (a b : PT) : PT := ⟨a.f0 + sgn a.f0 b.f0, a.f1 + sgn a.f1 b.f1⟩
def dist (a b : PT) : Nat := (a.f0 - b.f0).natAbs + (a.f1 - b.f1).natAbs
def leg : Nat → PT → PT → List PT
  | 0, _, _ => []
  | n + 1, a, b => nxt a b :: leg n (nxt a b) b
def InLine (a b : PT) : Prop := a.f0 = b.f0 ∨ a.f1 = b.f1
theorem sgn_spec (a b : Int) : a < b ∧ sgn a b = 1 ∨ b < a ∧ sgn a b = -1 ∨ a = b ∧ sgn a b = 0 := by
  unfold sgn
  by_cases h : a < b
  · rw [if_pos h]; omega
  · rw [if_neg h]
    by_cases h' : a > b
    · rw [if_pos h']; omega
    · rw [if_neg h']; omega
theorem dist_zero {a b : PT} : dist a b = 0 ↔ a = b := by
  unfold dist
  constructor
  · intro h
    exact PT.ext (by omega) (by omega)
  · intro h
    subst h
    omega
theorem nxt_dist {a b : PT} (h : InLine a b) (n : Nat) (hd : dist a b = n + 1) : dist (nxt a b) b = n ∧ InLine (nxt a b) b ∧ Step a (nxt a b) ∧ (n ≠ 0 → sgn (nxt a b).f0 b.f0 = sgn a.f0 b.f0 ∧ sgn (nxt a b).f1 b.f1 = sgn a.f1 b.f1) := by
  unfold dist InLine nxt Step at *
  simp only
  rcases sgn_spec a.f0 b.f0 with ⟨h0, e0⟩ | ⟨h0, e0⟩ | ⟨h0, e0⟩ <;> rcases sgn_spec a.f1 b.f1 with ⟨h1, e1⟩ | ⟨h1, e1⟩ | ⟨h1, e1⟩ <;>
    (try rw [e0]) <;> (try rw [e1]) <;>
    first
      | omega
      | (refine ⟨by omega, by omega, by omega, fun hn => ?_⟩
         rcases sgn_spec (a.f0 + 1) b.f0 with ⟨h2, e2⟩ | ⟨h2, e2⟩ | ⟨h2, e2⟩ <;> rcases sgn_spec (a.f0 + -1) b.f0 with ⟨h3, e3⟩ | ⟨h3, e3⟩ | ⟨h3, e3⟩ <;> rcases sgn_spec (a.f0 + 0) b.f0 with ⟨h4, e4⟩ | ⟨h4, e4⟩ | ⟨h4, e4⟩ <;>
         rcases sgn_spec (a.f1 + 1) b.f1 with ⟨h5, e5⟩ | ⟨h5, e5⟩ | ⟨h5, e5⟩ <;> rcases sgn_spec (a.f1 + -1) b.f1 with ⟨h6, e6⟩ | ⟨h6, e6⟩ | ⟨h6, e6⟩ <;> rcases sgn_spec (a.f1 + 0) b.f1 with ⟨h7, e7⟩ | ⟨h7, e7⟩ | ⟨h7, e7⟩ <;> omega)
theorem nxt_ok {a b : PT} (ha : okP a = true) (hb : okP b = true) : okP (nxt a b) = true := by
  rw [okP_iff] at *
  unfold nxt
  simp only
  rcases sgn_spec a.f0 b.f0 with ⟨h0, e0⟩ | ⟨h0, e0⟩ | ⟨h0, e0⟩ <;> rcases sgn_spec a.f1 b.f1 with ⟨h1, e1⟩ | ⟨h1, e1⟩ | ⟨h1, e1⟩ <;> rw [e0, e1] <;> omega
theorem ok_dist {a b : PT} (ha : okP a = true) (hb : okP b = true) (h : InLine a b) : dist a b ≤ 9 := by
  rw [okP_iff] at *
  unfold dist InLine at *
  omega
theorem leg_length : ∀ (n : Nat) (a b : PT), (leg n a b).length = n
  | 0, _, _ => rfl
  | n + 1, a, b => by simp [leg, leg_length n]
theorem implToward (a b : Int) : impl_toward.f a b = some (sgn a b) := by
  unfold impl_toward.f sgn
  by_cases h : a < b
  · rw [if_pos h, if_pos h]
  · rw [if_neg h, if_neg h]
    by_cases h' : a > b
    · rw [if_pos h', if_pos h']
    · rw [if_neg h', if_neg h']
theorem ne_bool {a b : PT} : ((!(a.f0 == b.f0) || (!(a.f1 == b.f1))) = true) ↔ a ≠ b := by
  simp only [Bool.or_eq_true, Bool.not_eq_true', beq_eq_false_iff_ne]
  constructor
  · rintro h rfl
    omega
  · intro h
    by_cases h0 : a.f0 = b.f0
    · exact .inr fun h1 => h (PT.ext h0 h1)
    · exact .inl h0
theorem eq_bool {a b : PT} : ((a.f0 == b.f0 && (a.f1 == b.f1)) = true) ↔ a = b := by
  simp only [Bool.and_eq_true, beq_iff_eq]
  exact ⟨fun h => PT.ext h.1 h.2, fun h => by subst h; exact ⟨rfl, rfl⟩⟩
theorem impl_l1 (xs : List PT) (len i : Int) (b : PT) (hb : okP b = true) : ∀ (n m : Nat) (acc : List PT) (a : PT) (x y : Int), okP a = true → InLine a b → dist a b = n → (n ≠ 0 → x = sgn a.f0 b.f0 ∧ y = sgn a.f1 b.f1) → acc.length + n < 8796093022208 →
    impl_CodeStay.l1 (m + n + 1) acc x y xs len i a.f0 a.f1 b.f0 b.f1 = impl_CodeStay.l0 m (acc ++ leg n a b) xs len (wrap64 (i + 1)) b.f0 b.f1 := by
  intro n
  induction n with
  | zero =>
    intro m acc a x y ha hl hd hxy hacc
    obtain rfl := dist_zero.1 hd
    simp only [impl_CodeStay.l1]
    rw [if_neg (by rw [ne_bool]; simp)]
    simp [leg]
  | succ n ih =>
    intro m acc a x y ha hl hd hxy hacc
    obtain ⟨rfl, rfl⟩ := hxy (by omega)
    obtain ⟨h1, h2, h3, h4⟩ := nxt_dist hl n hd
    have hn := nxt_ok ha hb
    have hn' := hn
    rw [okP_iff] at hn'
    obtain ⟨q, hq⟩ : ∃ q, q = m + n + 1 := ⟨_, rfl⟩
    rw [show m + (n + 1) + 1 = q + 1 by omega]
    simp only [impl_CodeStay.l1]
    rw [if_pos (by rw [ne_bool]; intro e; rw [dist_zero.2 e] at hd; omega), if_pos (by omega)]
    have e0 : wrap64 (a.f0 + sgn a.f0 b.f0) = (nxt a b).f0 := by have e : (nxt a b).f0 = a.f0 + sgn a.f0 b.f0 := rfl; rw [e] at hn' ⊢; exact w_id (by omega) (by omega)
    have e1 : wrap64 (a.f1 + sgn a.f1 b.f1) = (nxt a b).f1 := by have e : (nxt a b).f1 = a.f1 + sgn a.f1 b.f1 := rfl; rw [e] at hn' ⊢; exact w_id (by omega) (by omega)
    rw [e0, e1, pt_eta, hq, ih m (acc ++ [nxt a b]) (nxt a b) _ _ hn h2 h1 (fun hn => ⟨(h4 hn).1.symm, (h4 hn).2.symm⟩) (by simp; omega)]
    simp [leg]
instance (a b : PT) : Decidable (InLine a b) := by unfold InLine; infer_instance
def good (a b : PT) : Bool := okP b && decide (a ≠ b) && decide (InLine a b)
def stayGo : PT → List PT → Option (List PT)
  | _, [] => some []
  | a, b :: r => if good a b = true then (stayGo b r).map (leg (dist a b) a b ++ ·) else none
theorem good_iff {a b : PT} : good a b = true ↔ okP b = true ∧ a ≠ b ∧ InLine a b := by simp [good, and_assoc]
def Ends (acc : List PT) (p : PT) : Prop := 0 < acc.length ∧ g acc (acc.length - 1) = p
theorem g_append_left {l r : List PT} {i : Nat} (h : i < l.length) : g (l ++ r) i = g l i := by simp [g, List.getD_eq_getElem?_getD, List.getElem?_append_left h]
theorem g_append_last (l : List PT) (p : PT) : g (l ++ [p]) l.length = p := by simp [g, List.getD_eq_getElem?_getD]
theorem pathTo_snoc {acc : List PT} {a p : PT} (h : PathTo acc 0) (he : Ends acc a) (hp : okP p = true) (hs : Step a p) : PathTo (acc ++ [p]) 0 ∧ Ends (acc ++ [p]) p := by
  constructor
  · intro j _ hj
    simp only [List.length_append, List.length_cons, List.length_nil] at hj
    rcases Nat.lt_or_ge j acc.length with h1 | h1
    · rw [g_append_left h1, g_append_left (by omega)]
      exact h j (by omega) h1
    · obtain rfl : j = acc.length := by omega
      rw [g_append_last, g_append_left (by have := he.1; omega), he.2]
      exact ⟨hp, fun _ => hs⟩
  · refine ⟨by simp, ?_⟩
    rw [show (acc ++ [p]).length - 1 = acc.length by simp]
    exact g_append_last acc p
theorem pathTo_leg (b : PT) (hb : okP b = true) : ∀ (n : Nat) (acc : List PT) (a : PT), okP a = true → InLine a b → dist a b = n → PathTo acc 0 → Ends acc a → PathTo (acc ++ leg n a b) 0 ∧ Ends (acc ++ leg n a b) b := by
  intro n
  induction n with
  | zero =>
    intro acc a ha hl hd hp he
    obtain rfl := dist_zero.1 hd
    simp only [leg, List.append_nil]
    exact ⟨hp, he⟩
  | succ n ih =>
    intro acc a ha hl hd hp he
    obtain ⟨h1, h2, h3, h4⟩ := nxt_dist hl n hd
    obtain ⟨hp', he'⟩ := pathTo_snoc hp he (nxt_ok ha hb) h3
    have := ih (acc ++ [nxt a b]) (nxt a b) (nxt_ok ha hb) h2 h1 hp' he'
    simpa [leg] using this
def fin (r : Option (List PT)) (acc : List PT) : List PT × Bool :=
  match r with
  | none => ([], false)
  | some l => if (acc ++ l).length ≤ 400 then (acc ++ l, true) else ([], false)
theorem fin_map (r : Option (List PT)) (acc l : List PT) : fin (r.map (l ++ ·)) acc = fin r (acc ++ l) := by
  cases r <;> simp [fin, List.append_assoc]
theorem impl_l0 (r : List PT) (hr : r.length ≤ 400) : ∀ (rem : List PT) (k i : Nat) (acc : List PT) (a : PT), r.drop i = rem → i ≤ r.length → okP a = true → PathTo acc 0 → Ends acc a → acc.length ≤ 1 + 9 * i → 20 * rem.length + 4000 ≤ k →
    impl_CodeStay.l0 k acc r (r.length : Int) (i : Int) a.f0 a.f1 = some (fin (stayGo a rem) acc) := by
  intro rem
  induction rem with
  | nil =>
    intro k i acc a hd hi ha hp he hacc hk
    have hlen : r.length ≤ i := by have := congrArg List.length hd; simp at this; omega
    obtain ⟨k, rfl⟩ : ∃ m, k = m + 1 := ⟨k - 1, by omega⟩
    simp only [impl_CodeStay.l0]
    rw [if_neg (by omega)]
    obtain ⟨b, hb, hb'⟩ := isPath_f acc (by omega) k (by simp at hk; omega)
    rw [hb]
    simp only [Option.bind_some, stayGo, fin, List.append_nil]
    have h0 := he.1
    by_cases h : acc.length ≤ 400
    · rw [if_pos (hb'.2 ⟨by omega, h, hp⟩), if_pos h]
    · rw [if_neg (fun hh => h (hb'.1 hh).2.1), if_neg h]
  | cons b rem ih =>
    intro k i acc a hd hi ha hp he hacc hk
    have hlt : i < r.length := by
      rcases Nat.lt_or_ge i r.length with h | h
      · exact h
      · rw [List.drop_of_length_le h] at hd; cases hd
    have hg : g r i = b := by
      rw [List.drop_eq_getElem_cons hlt] at hd
      rw [g_eq hlt]
      exact (List.cons.inj hd).1
    have hdrop : r.drop (i + 1) = rem := by
      rw [List.drop_eq_getElem_cons hlt] at hd
      exact (List.cons.inj hd).2
    simp only [List.length_cons] at hk
    obtain ⟨k, rfl⟩ : ∃ m, k = m + 2 := ⟨k - 2, by omega⟩
    simp only [impl_CodeStay.l0]
    rw [if_pos (by omega), if_pos (by omega), if_pos (by omega), rd_nat, hg, implOk, pt_eta]
    simp only [Option.bind_some, stayGo]
    have hbad : ∀ x0 x1 y0 y1 : Int, impl_CodeStay.j2 (k + 1) acc r (r.length : Int) (i : Int) true x0 x1 y0 y1 = some ([], false) := fun _ _ _ _ => by simp only [impl_CodeStay.j2, if_true]
    have hgo : good a b = true → impl_CodeStay.j2 (k + 1) acc r (r.length : Int) (i : Int) false a.f0 a.f1 b.f0 b.f1 = some (fin ((stayGo b rem).map (leg (dist a b) a b ++ ·)) acc) := fun hgd => by
      obtain ⟨hb, hne, hl⟩ := good_iff.1 hgd
      have h9 := ok_dist ha hb hl
      simp only [impl_CodeStay.j2, Bool.false_eq_true, if_false]
      rw [implToward, implToward]
      simp only [Option.bind_some]
      obtain ⟨m, hm⟩ : ∃ m, k = m + dist a b + 1 := ⟨k - dist a b - 1, by omega⟩
      obtain ⟨hp', he'⟩ := pathTo_leg b hb _ acc a ha hl rfl hp he
      rw [hm, impl_l1 r _ _ b hb (dist a b) m acc a _ _ ha hl rfl (fun _ => ⟨rfl, rfl⟩) (by omega), w_succ (by omega),
        ih m (i + 1) (acc ++ leg (dist a b) a b) b hdrop (by omega) hb hp' he' (by rw [List.length_append, leg_length]; omega) (by omega), fin_map]
    by_cases hok : okP b = true
    · rw [if_pos hok]
      by_cases heq : a = b
      · subst heq
        rw [if_pos (by rw [eq_bool]), hbad, if_neg (by rw [good_iff]; simp)]
        rfl
      · rw [if_neg (by rw [eq_bool]; exact fun e => heq e.symm)]
        by_cases hx : b.f0 = a.f0
        · have hgd : good a b = true := good_iff.2 ⟨hok, heq, .inl hx.symm⟩
          rw [if_pos hx, hgo hgd, if_pos hgd]
        · rw [if_neg hx]
          by_cases hy : b.f1 = a.f1
          · have hgd : good a b = true := good_iff.2 ⟨hok, heq, .inr hy.symm⟩
            rw [show (b.f1 != a.f1) = false by simp [hy], hgo hgd, if_pos hgd]
          · rw [show (b.f1 != a.f1) = true by simp [hy], hbad, if_neg (by rw [good_iff]; unfold InLine; omega)]
            rfl
    · rw [if_neg hok, hbad, if_neg (by rw [good_iff]; exact fun h => hok h.1)]
      rfl
def stay (t : List PT) : List PT × Bool :=
  match t with
  | [] => ([], false)
  | a :: r => if r.length ≤ 399 ∧ okP a = true then fin (stayGo a r) [a] else ([], false)
theorem one_path {a : PT} (ha : okP a = true) : PathTo [a] 0 ∧ Ends [a] a := by
  refine ⟨fun j _ hj => ?_, by simp [Ends, g]⟩
  obtain rfl : j = 0 := by simpa using hj
  exact ⟨by simpa [g] using ha, fun h => absurd h (by omega)⟩
theorem implCodeStay (t : List PT) (hl : t.length < 1000000000000000000) (k : Nat) (hk : 20000 ≤ k) : impl_CodeStay.f k t = some (stay t) := by
  obtain ⟨k, rfl⟩ : ∃ m, k = m + 1 := ⟨k - 1, by omega⟩
  have hbad : impl_CodeStay.j0 (k + 1) t true = some ([], false) := by simp only [impl_CodeStay.j0, if_true]
  unfold impl_CodeStay.f
  match t, hl, hbad with
  | [], hl, hbad =>
    rw [if_pos (by simp), hbad]
    rfl
  | a :: r, hl, hbad =>
    rw [if_neg (by simp only [List.length_cons]; omega)]
    simp only [List.length_cons] at hl
    by_cases h4 : r.length ≤ 399
    · rw [if_neg (by simp only [List.length_cons]; omega), if_pos (by simp only [List.length_cons]; omega), rd_zero, show g (a :: r) 0 = a from rfl, implOk, pt_eta]
      simp only [Option.bind_some, stay]
      by_cases hok : okP a = true
      · rw [if_pos ⟨h4, hok⟩, hok]
        simp only [impl_CodeStay.j0, Bool.not_true, Bool.false_eq_true, if_false]
        rw [if_pos (by simp only [List.length_cons]; omega), if_pos (by simp only [List.length_cons]; omega), rd_zero, show g (a :: r) 0 = a from rfl, pt_eta]
        simp only [Option.bind_some, List.drop_succ_cons, List.drop_zero]
        obtain ⟨hp, he⟩ := one_path hok
        exact impl_l0 r (by omega) r k 0 [a] a rfl (by omega) hok hp he (by simp) (by omega)
      · rw [if_neg (fun h => hok h.2), show okP a = false by simpa using hok]
        exact hbad
    · rw [if_pos (by simp only [List.length_cons]; omega), hbad]
      simp only [stay]
      rw [if_neg (fun h => h4 h.1)]
end Go.Proofs.YtdacpdhpifocbaaDoor.Q

