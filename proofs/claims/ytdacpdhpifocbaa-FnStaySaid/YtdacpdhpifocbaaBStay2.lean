/- Part 3 of what Stay rests on: contracts of the program's functions and plain facts (the print's texts and the session's own, put together). -/
import Derived.Test.YtdacpdhpifocbaaBStay1
namespace Go.Proofs.Ytdacpdhpifocbaa.P
open Go.RowKit Go.Proofs.YtdacpdhpifocbaaW.PrintWords Go.Proofs.YtdacpdhpifocbaaW.PrintLast Go.Proofs.YtdacpdhpifocbaaW.PrintMore
attribute [local go_sem] max2_int min2_int max_two min_two max_three min_three max_four min_four   -- for this text's walks alone
set_option linter.unusedVariables false
set_option linter.unusedSimpArgs false

attribute [local go_sem high] eqA38
/-! ### impl_CodeStay: function 17 -/
mutual
def impl_CodeStay.j0 : Nat → List (S38) → Bool → Option ((List (S38)) × Bool)
  | 0, _, _ => none
  | k + 1, x0, x24 => if x24 = true then (some (([] : List (S38)), false)) else (if 0 < (x0.length : Int) then (if 1 ≤ (x0.length : Int) then ((some (x0.drop 1 : List (S38))).bind fun y108 => (impl_CodeStay.l0 k (([(⟨(rd_T38 x0 0).f0, (rd_T38 x0 0).f1⟩ : S38)] : List (S38))) y108 (y108.length : Int) 0 ((rd_T38 x0 0).f0) ((rd_T38 x0 0).f1))) else (none)) else (none))
def impl_CodeStay.l0 : Nat → List (S38) → List (S38) → Int → Int → Int → Int → Option ((List (S38)) × Bool)
  | 0, _, _, _, _, _, _ => none
  | k + 1, x5, x31, x32, x33, x105000, x105001 => if x33 < x32 then (if 0 ≤ x33 then (if x33 < (x31.length : Int) then ((impl_PtOk.f ((rd_T38 x31 x33).f0) ((rd_T38 x31 x33).f1)).bind fun t115 => (if t115 = true then (if (((rd_T38 x31 x33).f0) == x105000 && (((rd_T38 x31 x33).f1) == x105001)) = true then (impl_CodeStay.j2 k x5 x31 x32 x33 true x105000 x105001 ((rd_T38 x31 x33).f0) ((rd_T38 x31 x33).f1)) else (if ((rd_T38 x31 x33).f0) = x105000 then (impl_CodeStay.j2 k x5 x31 x32 x33 false x105000 x105001 ((rd_T38 x31 x33).f0) ((rd_T38 x31 x33).f1)) else (impl_CodeStay.j2 k x5 x31 x32 x33 (((rd_T38 x31 x33).f1) != x105001) x105000 x105001 ((rd_T38 x31 x33).f0) ((rd_T38 x31 x33).f1)))) else (impl_CodeStay.j2 k x5 x31 x32 x33 true x105000 x105001 ((rd_T38 x31 x33).f0) ((rd_T38 x31 x33).f1)))) else (none)) else (none)) else ((impl_isPath.f k x5).bind fun t112 => (if t112 = true then (some (x5, true)) else (some (([] : List (S38)), false))))
def impl_CodeStay.j2 : Nat → List (S38) → List (S38) → Int → Int → Bool → Int → Int → Int → Int → Option ((List (S38)) × Bool)
  | 0, _, _, _, _, _, _, _, _, _ => none
  | k + 1, x5, x31, x32, x33, x58, x105000, x105001, x115000, x115001 => if x58 = true then (some (([] : List (S38)), false)) else ((impl_toward.f x105000 x115000).bind fun t116 => ((impl_toward.f x105001 x115001).bind fun t117 => (impl_CodeStay.l1 k x5 t116 t117 x31 x32 x33 x105000 x105001 x115000 x115001)))
def impl_CodeStay.l1 : Nat → List (S38) → Int → Int → List (S38) → Int → Int → Int → Int → Int → Int → Option ((List (S38)) × Bool)
  | 0, _, _, _, _, _, _, _, _, _, _ => none
  | k + 1, x5, x8, x9, x31, x32, x33, x105000, x105001, x115000, x115001 => if (!(x105000 == x115000) || (!(x105001 == x115001))) = true then (if x5.length < 8796093022208 then (impl_CodeStay.l1 k (x5 ++ [(⟨wrap64 (x105000 + x8), wrap64 (x105001 + x9)⟩ : S38)]) x8 x9 x31 x32 x33 (wrap64 (x105000 + x8)) (wrap64 (x105001 + x9)) x115000 x115001) else (none)) else (impl_CodeStay.l0 k x5 x31 x32 (wrap64 (x33 + 1)) x105000 x105001)
end
def impl_CodeStay.f (k : Nat) (l0 : List (S38)) : Option ((List (S38)) × Bool) := if (l0.length : Int) < 1 then (impl_CodeStay.j0 k l0 true) else (if (l0.length : Int) > 400 then (impl_CodeStay.j0 k l0 true) else (if 0 < (l0.length : Int) then ((impl_PtOk.f ((rd_T38 l0 0).f0) ((rd_T38 l0 0).f1)).bind fun t102 => (impl_CodeStay.j0 k l0 (!t102))) else (none)))
theorem impl_CodeStay.mono_l : ∀ k, (∀ y0 y1, LeO (impl_CodeStay.j0 k y0 y1) (impl_CodeStay.j0 (k + 1) y0 y1)) ∧ (∀ y0 y1 y2 y3 y4 y5, LeO (impl_CodeStay.l0 k y0 y1 y2 y3 y4 y5) (impl_CodeStay.l0 (k + 1) y0 y1 y2 y3 y4 y5)) ∧ (∀ y0 y1 y2 y3 y4 y5 y6 y7 y8, LeO (impl_CodeStay.j2 k y0 y1 y2 y3 y4 y5 y6 y7 y8) (impl_CodeStay.j2 (k + 1) y0 y1 y2 y3 y4 y5 y6 y7 y8)) ∧ (∀ y0 y1 y2 y3 y4 y5 y6 y7 y8 y9, LeO (impl_CodeStay.l1 k y0 y1 y2 y3 y4 y5 y6 y7 y8 y9) (impl_CodeStay.l1 (k + 1) y0 y1 y2 y3 y4 y5 y6 y7 y8 y9))
  | 0 => ⟨fun _ _ r h => by simp [impl_CodeStay.j0] at h, fun _ _ _ _ _ _ r h => by simp [impl_CodeStay.l0] at h, fun _ _ _ _ _ _ _ _ _ r h => by simp [impl_CodeStay.j2] at h, fun _ _ _ _ _ _ _ _ _ _ r h => by simp [impl_CodeStay.l1] at h⟩
  | k + 1 => by
    obtain ⟨ih0, ih1, ih2, ih3⟩ := impl_CodeStay.mono_l k
    refine ⟨?_, ?_, ?_, ?_⟩
    · intro y0 y1
      unfold impl_CodeStay.j0
      repeat' first
      | (with_reducible exact ih0 _ _)
      | (with_reducible exact ih1 _ _ _ _ _ _)
      | (with_reducible exact ih2 _ _ _ _ _ _ _ _ _)
      | (with_reducible exact ih3 _ _ _ _ _ _ _ _ _ _)
      | (with_reducible exact impl_isPath.mono _ _)
      | (with_reducible exact LeO.refl _)
      | (with_reducible exact LeO.none _)
      | (with_reducible refine LeO.ite ?_ ?_)
      | (with_reducible refine LeO.bind ?_ (fun _ => ?_))
      | exact ih0 _ _
      | exact ih1 _ _ _ _ _ _
      | exact ih2 _ _ _ _ _ _ _ _ _
      | exact ih3 _ _ _ _ _ _ _ _ _ _
      | exact impl_isPath.mono _ _
      | exact LeO.none _
      | refine LeO.ite ?_ ?_
      | refine LeO.bind ?_ (fun _ => ?_)
    · intro y0 y1 y2 y3 y4 y5
      unfold impl_CodeStay.l0
      repeat' first
      | (with_reducible exact ih0 _ _)
      | (with_reducible exact ih1 _ _ _ _ _ _)
      | (with_reducible exact ih2 _ _ _ _ _ _ _ _ _)
      | (with_reducible exact ih3 _ _ _ _ _ _ _ _ _ _)
      | (with_reducible exact impl_isPath.mono _ _)
      | (with_reducible exact LeO.refl _)
      | (with_reducible exact LeO.none _)
      | (with_reducible refine LeO.ite ?_ ?_)
      | (with_reducible refine LeO.bind ?_ (fun _ => ?_))
      | exact ih0 _ _
      | exact ih1 _ _ _ _ _ _
      | exact ih2 _ _ _ _ _ _ _ _ _
      | exact ih3 _ _ _ _ _ _ _ _ _ _
      | exact impl_isPath.mono _ _
      | exact LeO.none _
      | refine LeO.ite ?_ ?_
      | refine LeO.bind ?_ (fun _ => ?_)
    · intro y0 y1 y2 y3 y4 y5 y6 y7 y8
      unfold impl_CodeStay.j2
      repeat' first
      | (with_reducible exact ih0 _ _)
      | (with_reducible exact ih1 _ _ _ _ _ _)
      | (with_reducible exact ih2 _ _ _ _ _ _ _ _ _)
      | (with_reducible exact ih3 _ _ _ _ _ _ _ _ _ _)
      | (with_reducible exact impl_isPath.mono _ _)
      | (with_reducible exact LeO.refl _)
      | (with_reducible exact LeO.none _)
      | (with_reducible refine LeO.ite ?_ ?_)
      | (with_reducible refine LeO.bind ?_ (fun _ => ?_))
      | exact ih0 _ _
      | exact ih1 _ _ _ _ _ _
      | exact ih2 _ _ _ _ _ _ _ _ _
      | exact ih3 _ _ _ _ _ _ _ _ _ _
      | exact impl_isPath.mono _ _
      | exact LeO.none _
      | refine LeO.ite ?_ ?_
      | refine LeO.bind ?_ (fun _ => ?_)
    · intro y0 y1 y2 y3 y4 y5 y6 y7 y8 y9
      unfold impl_CodeStay.l1
      repeat' first
      | (with_reducible exact ih0 _ _)
      | (with_reducible exact ih1 _ _ _ _ _ _)
      | (with_reducible exact ih2 _ _ _ _ _ _ _ _ _)
      | (with_reducible exact ih3 _ _ _ _ _ _ _ _ _ _)
      | (with_reducible exact impl_isPath.mono _ _)
      | (with_reducible exact LeO.refl _)
      | (with_reducible exact LeO.none _)
      | (with_reducible refine LeO.ite ?_ ?_)
      | (with_reducible refine LeO.bind ?_ (fun _ => ?_))
      | exact ih0 _ _
      | exact ih1 _ _ _ _ _ _
      | exact ih2 _ _ _ _ _ _ _ _ _
      | exact ih3 _ _ _ _ _ _ _ _ _ _
      | exact impl_isPath.mono _ _
      | exact LeO.none _
      | refine LeO.ite ?_ ?_
      | refine LeO.bind ?_ (fun _ => ?_)
theorem impl_CodeStay.mono : ∀ a0 k, LeO (impl_CodeStay.f k a0) (impl_CodeStay.f (k + 1) a0) := by
  intro a0 k
  obtain ⟨ih0, ih1, ih2, ih3⟩ := impl_CodeStay.mono_l k
  unfold impl_CodeStay.f
  repeat' first
      | (with_reducible exact ih0 _ _)
      | (with_reducible exact ih1 _ _ _ _ _ _)
      | (with_reducible exact ih2 _ _ _ _ _ _ _ _ _)
      | (with_reducible exact ih3 _ _ _ _ _ _ _ _ _ _)
      | (with_reducible exact impl_isPath.mono _ _)
      | (with_reducible exact LeO.refl _)
      | (with_reducible exact LeO.none _)
      | (with_reducible refine LeO.ite ?_ ?_)
      | (with_reducible refine LeO.bind ?_ (fun _ => ?_))
      | exact ih0 _ _
      | exact ih1 _ _ _ _ _ _
      | exact ih2 _ _ _ _ _ _ _ _ _
      | exact ih3 _ _ _ _ _ _ _ _ _ _
      | exact impl_isPath.mono _ _
      | exact LeO.none _
      | refine LeO.ite ?_ ?_
      | refine LeO.bind ?_ (fun _ => ?_)
set_option hygiene false in
local macro "zq11_1" : tactic => `(tactic| (with_reducible repeat (first | refine blk_drewN ?_ _ | refine blk_drew ?_ | refine blk_alloc ?_ _)))
set_option hygiene false in
local macro "zq11_3" : term => `((by repeat (first | (with_reducible first | exact HB.out | apply below_alloc | apply pw_below_drewN | apply below_drew1 | refine below_set ?_ GE104.out | refine below_set ?_ GE114.out) | exact HB.out)))
set_option hygiene false in
local macro "zq11_4" : term => `((by repeat (first | (with_reducible first | exact HB.out | apply below_alloc | apply pw_below_drewN | apply below_drew1 | refine below_set ?_ GE104.out) | exact HB.out)))
set_option hygiene false in
local macro "zq11_6" : tactic => `(tactic| (with_reducible repeat (first | apply Kd.R_alloc | apply Kd.R_drewN | apply Kd.R_drew)))
set_option hygiene false in
local macro "zq11_7" : term => `((by repeat (first | (with_reducible first | exact HB.out | apply below_alloc | apply pw_below_drewN | apply below_drew1) | exact HB.out)))
set_option hygiene false in
local macro "zq11_11" : tactic => `(tactic| (case side1 => repeat (first | exact (Kd.R_reads' HO_5.out).2.2 | (with_reducible refine Kd.C_alloc ?_ _) | (with_reducible refine Kd.C_drewN ?_ _) | (with_reducible refine Kd.C_drew ?_))))
set_option hygiene false in
local macro "zq11_12" : tactic => `(tactic| (with_reducible refine (impl_PtOk.calls ((rd_T38 y108 x33_2).f0) ((rd_T38 y108 x33_2).f1) true _ A23.out).mono ?_))
set_option hygiene false in
local macro "zq11_14" : tactic => `(tactic| (case hp => exact (Reps.c2 (show Kd.M k38 _ _ _ (⟨(rd_T38 l0 0).f0, (rd_T38 l0 0).f1⟩ : S38) [.int .i64 ((rd_T38 l0 0).f0), .int .i64 ((rd_T38 l0 0).f1)] from (k38_mkM _ _ _ (⟨(rd_T38 l0 0).f0, (rd_T38 l0 0).f1⟩ : S38) )) (Reps.none _ _))))
set_option hygiene false in
local macro "zq11_16" : tactic => `(tactic| (case hr => first | (go_simp; done) | (go_simp; rfl)))
set_option hygiene false in
local macro "zq11_17" : term => `((by first | rfl | (simp; done) | (simp [*]; done)))
set_option hygiene false in
local macro "zq11_22" : term => `((by first | (with_reducible assumption) | assumption))
set_option hygiene false in
local macro "zq11_24" : tactic => `(tactic| (with_reducible refine (impl_PtOk.calls ((rd_T38 y108 x33_2).f0) ((rd_T38 y108 x33_2).f1) false _ A23.out).mono ?_))
set_option hygiene false in
local macro "zq11_25" : tactic => `(tactic| (case side2 => exact (Kd.R_reads' HO_5.out).2.1))
set_option hygiene false in
local macro "zq11_26" : tactic => `(tactic| (first | rw [← Ny105.out] at ho14 | (simp only [Int.reduceToNat] at ho14; rw [← Ny105.out] at ho14)))
set_option hygiene false in
local macro "zq11_27" : tactic => `(tactic| (with_reducible refine (impl_PtOk.calls ((rd_T38 l0 0).f0) ((rd_T38 l0 0).f1) t102 _ A6.out).mono ?_))
set_option hygiene false in
local macro "zq11_28" : tactic => `(tactic| (with_reducible refine (impl_toward.calls x105000_2 ((rd_T38 y108 x33_2).f0) t116 _ A46.out).mono ?_))
set_option hygiene false in
local macro "zq11_29" : tactic => `(tactic| (with_reducible refine (impl_toward.calls x105001_2 ((rd_T38 y108 x33_2).f1) t117 _ A47.out).mono ?_))
set_option hygiene false in
local macro "zq11_30" : tactic => `(tactic| (case aP => exact k38_mkM _ _ _ (⟨wrap64 (x105000_4 + t116), wrap64 (x105001_4 + t117)⟩ : S38)))
set_option hygiene false in
local macro "zq11_31" : tactic => `(tactic| (with_reducible refine (impl_isPath.calls k2 _ _ x5_2 false _ ?side1 ?side2 A60.out).mono ?_))
set_option hygiene false in
local macro "zq11_32" : tactic => `(tactic| (with_reducible refine (impl_isPath.calls k2 _ _ x5_2 true _ ?side1 ?side2 A60.out).mono ?_))
set_option hygiene false in
local macro "zq11_2" : term => `((by (zq11_6); exact (Kd.R_mono (Kd.R_far (p := ⟨gb114, 1, none⟩) (Kd.R_far (p := ⟨gb114, 0, none⟩) (Kd.R_mono HO_5.out (fun k_ hk => (⟨hk, hk.2⟩ : _ ∧ k_ ≠ gb114))) (fun _ hk => hk.2) (.int .i64 ((rd_T38 y108 x33_2).f0))) (fun _ hk => hk.2) (.int .i64 ((rd_T38 y108 x33_2).f1))) (fun _ h_ => h_.1))))
set_option hygiene false in
local macro "zq11_5" : term => `((by (zq11_1); refine blk_put (cs := #[.int .i64 ((rd_T38 y108 x33_2).f0), .int .i64 0]) ?_ 1 _ rfl; (zq11_1); refine blk_put (cs := #[.int .i64 0, .int .i64 0]) ?_ 0 _ rfl; (zq11_1); exact BK114.out))
set_option hygiene false in
local macro "zq11_9" : term => `((by (zq11_1); refine blk_far ?_ NB104_114.out _; (zq11_1); refine blk_far ?_ NB104_114.out _; (zq11_1); exact BK104.out))
set_option hygiene false in
local macro "zq11_10" : term => `((by (zq11_1); refine blk_put (cs := #[.int .i64 ((rd_T38 l0 0).f0), .int .i64 0]) ?_ 1 _ rfl; (zq11_1); refine blk_put (cs := #[.int .i64 0, .int .i64 0]) ?_ 0 _ rfl; (zq11_1); exact BK104.out))
set_option hygiene false in
local macro "zq11_13" : tactic => `(tactic| (case aO => exact (by (zq11_6); exact Kd.R_mono (Kd.R_far (p := ⟨gb104, 1, none⟩) (Kd.R_far (p := ⟨gb104, 0, none⟩) (Kd.R_mono HO_5.out (fun k_ hk => (⟨hk, hk.1⟩ : _ ∧ k_ ≠ gb104))) (fun _ hk => hk.2) (.int .i64 (wrap64 (x105000_4 + t116)))) (fun _ hk => hk.2) (.int .i64 (wrap64 (x105001_4 + t117)))) (fun _ hk => ⟨hk.1.1, hk.1.2⟩))))
set_option hygiene false in
local macro "zq11_15" : term => `((by (zq11_1); refine blk_put (cs := #[.int .i64 (wrap64 (x105000_4 + t116)), .int .i64 x105001_4]) ?_ 1 _ rfl; (zq11_1); refine blk_put (cs := #[.int .i64 x105000_4, .int .i64 x105001_4]) ?_ 0 _ rfl; (zq11_1); exact BK104.out))
set_option hygiene false in
local macro "zq11_18" : term => `((by rw [hg]; exact Nat.ne_of_lt (blk_lt (g := gb104) (o := .cells #[.int .i64 x105000_2, .int .i64 x105001_2] 38 (0, 0)) (by (zq11_1); exact BK104.out)) : gb104 ≠ gb114))
set_option hygiene false in
local macro "zq11_19" : term => `((by rw [hg]; exact Nat.ne_of_gt (blk_lt (g := gb104) (o := .cells #[.int .i64 x105000_2, .int .i64 x105001_2] 38 (0, 0)) (by (zq11_1); exact BK104.out)) : gb114 ≠ gb104))
set_option hygiene false in
local macro "zq11_20" : term => `((by rw [hg]; exact (below_size zq11_7) : w.heap.size ≤ gb104))
set_option hygiene false in
local macro "zq11_21" : term => `((by rw [hg]; exact (below_size zq11_4) : w.heap.size ≤ gb114))
set_option hygiene false in
local macro "zq11_23" : term => `((by (zq11_1); refine blk_far ?_ NB114_104.out _; (zq11_1); refine blk_far ?_ NB114_104.out _; (zq11_1); exact BK114.out))
set_option hygiene false in
local macro "zq11_8" : tactic => `(tactic| (case aF => exact (fun k_ hk => ⟨Kd.freshB (g := gb104) (o := .cells #[.int .i64 (wrap64 (x105000_4 + t116)), .int .i64 (wrap64 (x105001_4 + t117))] 38 (0, 0)) zq11_15 k_ hk, Kd.freshB (g := gb114) (o := .cells #[.int .i64 ((rd_T38 y108 x33_2).f0), .int .i64 ((rd_T38 y108 x33_2).f1)] 38 (0, 0)) zq11_23 k_ hk⟩)))
set_option maxHeartbeats 8000000 in
set_option maxRecDepth 100000 in
theorem impl_CodeStay.calls (k : Nat) (A0 : Option Addr) (c0 : Nat) (l0 : List (S38)) (r1 : List (S38)) (r2 : Bool) (w : World) (hr0 : Kd.C k38 w A0 l0.length l0) (hc0 : l0.length ≤ c0) (h : impl_CodeStay.f k l0 = some (r1, r2)) :
  Calls Try.prog 17 #[.slice A0 l0.length c0] w fun e w' => ∃ v0_ : Value, e = .returned (.tuple #[v0_, .bool r2]) ∧ Kd.R k38 38 w' w.heap.size (fun _ => True) v0_ r1 ∧ Below w.heap.size w w' := by
 have hu38 := Try.underlying38
 have HR0 := Aside0.mk hr0
 have HC0 := Aside0.mk hc0
 clear hr0 hc0
 have HB := Aside0.mk (Below.refl w.heap.size w)
 have H : (if (l0.length : Int) < 1 then (impl_CodeStay.j0 k l0 true) else (if (l0.length : Int) > 400 then (impl_CodeStay.j0 k l0 true) else (if 0 < (l0.length : Int) then ((impl_PtOk.f ((rd_T38 l0 0).f0) ((rd_T38 l0 0).f1)).bind fun t102 => (impl_CodeStay.j0 k l0 (!t102))) else (none)))) = some (r1, r2) := h
 clear h
 have HC2 := Aside0.mk H
 clear H
 go_enter Try.func17, Try.ntmps17
 go_upto_region 1 with (fail)
 repeat (go_quiet (fail); go_upto_region 1 with (fail))
 go_cut [24] (fun v24 wc => ∃ (kq : Nat) (x24_1 : Bool), v24 = .bool x24_1 ∧ Aside0 (impl_CodeStay.j0 kq l0 x24_1 = some (r1, r2)) ∧ Aside0 (kq ≤ k) ∧ Aside0 (Below w.heap.size w wc))
 case first =>
  have H := HC2.out
  clear HC2
  by_cases c3 : (l0.length : Int) < 1
  ·rw [if_pos c3] at H
   have c3b0 : decide ((l0.length : Int) < 1) = true := decide_eq_true c3
   have c3b1 : decide (l0.length < 1) = true := decide_eq_true (by omega)
   clear c3
   (first | rw [c3b0] | (simp only [i64_w, i32_w]; rw [c3b0]) | skip)
   have H' := Aside0.mk H
   clear H
   go_wp2
   repeat (go_quiet (fail); try go_wp2)
   go_meet
   case rel => exact ⟨_, (true), zq11_17, H', ⟨by first | omega | exact Nat.le_refl _⟩, ⟨by repeat (first | (with_reducible first | exact HB.out | apply below_alloc | apply pw_below_drewN | apply below_drew1) | exact HB.out)⟩⟩
  ·rw [if_neg c3] at H
   have c3b0 : decide ((l0.length : Int) < 1) = false := decide_eq_false c3
   have c3b1 : decide (l0.length < 1) = false := decide_eq_false (by omega)
   clear c3
   (first | rw [c3b0] | (simp only [i64_w, i32_w]; rw [c3b0]) | skip)
   by_cases c4 : (l0.length : Int) > 400
   ·rw [if_pos c4] at H
    have c4b0 : decide (400 < (l0.length : Int)) = true := decide_eq_true c4
    have c4b1 : decide (400 < l0.length) = true := decide_eq_true (by omega)
    clear c4
    have H' := Aside0.mk H
    clear H
    go_wp2
    repeat (go_quiet (fail); try go_wp2)
    go_meet
    case rel => exact ⟨_, (true), zq11_17, H', ⟨by first | omega | exact Nat.le_refl _⟩, ⟨by repeat (first | (with_reducible first | exact HB.out | apply below_alloc | apply pw_below_drewN | apply below_drew1) | exact HB.out)⟩⟩
   ·rw [if_neg c4] at H
    have c4b0 : decide (400 < (l0.length : Int)) = false := decide_eq_false c4
    have c4b1 : decide (400 < l0.length) = false := decide_eq_false (by omega)
    clear c4
    by_cases c5 : 0 < (l0.length : Int)
    ·rw [if_pos c5] at H
     have c5b0 : decide (0 < (l0.length : Int)) = true := decide_eq_true c5
     have c5b1 : decide (0 < l0.length) = true := decide_eq_true (by omega)
     clear c5
     replace H := Option.bind_eq_some_iff.mp H
     obtain ⟨t102, A60, H⟩ := H
     replace H : (impl_CodeStay.j0 k l0 (!t102)) = some (r1, r2) := H
     have A6 := Aside0.mk A60
     clear A60
     have H' := Aside0.mk H
     clear H
     have p101 : 0 ≤ (0 : Int) := (by omega)
     have q101 : 0 < (l0.length : Int) := of_decide_eq_true zq11_22
     obtain ⟨ad101, e101, hx101_0, hx101_1⟩ := at_T38 HR0.out 0 p101 q101
     cases e101
     have qi101 : (0 < l0.length) = True := eq_true (by omega)
     (try rw [show ((0 : Int)).toNat = 0 from rfl] at hx101_0)
     (try rw [show 0 * 2 = 0 from rfl] at hx101_0)
     (try rw [Addr.add_zero'] at hx101_0)
     (try rw [show ((0 : Int)).toNat = 0 from rfl] at hx101_1)
     (try rw [show 0 * 2 = 0 from rfl] at hx101_1)
     (try rw [Addr.add_zero'] at hx101_1)
     replace hx101_0 := (HB.out.cell (World.block_lt_of_cell? w _ hx101_0)).trans hx101_0
     replace hx101_1 := (HB.out.cell (World.block_lt_of_cell? w _ hx101_1)).trans hx101_1
     replace p101 := eq_true p101
     replace q101 := eq_true q101
     go_wp2_with (first | (go_at_call 23; (zq11_27); rintro e w7 ⟨rfl, hb⟩; have n0_ := Aside0.mk (below_step zq11_7 hb); clear HB; have HB := n0_; clear n0_; (try clear hb); (try clear hb2); (try clear hk); (try clear hi)))
     repeat (go_quiet (first | (go_at_call 23; (zq11_27); rintro e w7 ⟨rfl, hb⟩; have n0_ := Aside0.mk (below_step zq11_7 hb); clear HB; have HB := n0_; clear n0_; (try clear hb); (try clear hb2); (try clear hk); (try clear hi))); try go_wp2_with (first | (go_at_call 23; (zq11_27); rintro e w7 ⟨rfl, hb⟩; have n0_ := Aside0.mk (below_step zq11_7 hb); clear HB; have HB := n0_; clear n0_; (try clear hb); (try clear hb2); (try clear hk); (try clear hi))))
     go_meet
     case rel => exact ⟨_, (!t102), zq11_17, H', ⟨by first | omega | exact Nat.le_refl _⟩, ⟨by repeat (first | (with_reducible first | exact HB.out | apply below_alloc | apply pw_below_drewN | apply below_drew1) | exact HB.out)⟩⟩
    ·rw [if_neg c5] at H
     exact absurd H (by simp)
 case rest =>
  clear HC2
  try clear c1
  try clear p1
  try clear q1
  try clear hx1
  try clear qi1
  try clear p2
  try clear c3
  try clear c3b0
  try clear c3b1
  try clear c4
  try clear c4b0
  try clear c4b1
  try clear c5
  try clear c5b0
  try clear c5b1
  try clear hx101_0
  try clear hx101_1
  try clear p101
  try clear q101
  obtain ⟨kq, x24_1, rfl, HA, HJ1, HB⟩ := hcut
  cases kq with
  | zero => exact absurd HA.out (by simp [impl_CodeStay.j0])
  | succ kj1 =>
   have H := HA.out
   clear HA
   simp only [impl_CodeStay.j0] at H
   by_cases c8 : x24_1 = true
   ·subst c8
    have H1 : (some (([] : List (S38)), false)) = some (r1, r2) := by rw [if_pos rfl] at H; exact H
    clear H
    have H := H1
    clear H1
    simp only [Option.some.injEq, Prod.mk.injEq] at H
    obtain ⟨rfl, rfl⟩ := H
    go_wp2
    repeat (go_quiet (fail); try go_wp2)
    go_ret2
    exact ⟨_, by first | rfl | (simp [errW_none, errW_some] <;> rfl) | (simp [*, errW_none, errW_some] <;> rfl), by first | exact Kd.R_nil _ _ _ _ _ | exact Kd.N_nil _ _ _ _ _ | exact Kd.V_nil _ _ _ _ _ | exact Kd.Q_nil _ _ _ _ _ | exact Kd.S_nil _ _ _ _ _, by repeat (first | (with_reducible first | exact HB.out | apply below_alloc | apply pw_below_drewN | apply below_drew1) | exact HB.out)⟩
   ·replace c8 := Bool.eq_false_iff.mpr c8
    subst c8
    have H1 : (if 0 < (l0.length : Int) then (if 1 ≤ (l0.length : Int) then ((some (l0.drop 1 : List (S38))).bind fun y108 => (impl_CodeStay.l0 kj1 (([(⟨(rd_T38 l0 0).f0, (rd_T38 l0 0).f1⟩ : S38)] : List (S38))) y108 (y108.length : Int) 0 ((rd_T38 l0 0).f0) ((rd_T38 l0 0).f1))) else (none)) else (none)) = some (r1, r2) := by rw [if_neg (show ¬ (false = true) by decide)] at H; exact H
    clear H
    have H := H1
    clear H1
    by_cases c9 : 0 < (l0.length : Int)
    ·rw [if_pos c9] at H
     have c9b0 : decide (0 < (l0.length : Int)) = true := decide_eq_true c9
     have c9b1 : decide (0 < l0.length) = true := decide_eq_true (by omega)
     clear c9
     obtain ⟨y105, hy105⟩ : ∃ y_ : List (S38), y_ = (([(⟨(rd_T38 l0 0).f0, (rd_T38 l0 0).f1⟩ : S38)] : List (S38))) := ⟨_, rfl⟩
     replace H : (if 1 ≤ (l0.length : Int) then ((some (l0.drop 1 : List (S38))).bind fun y108 => (impl_CodeStay.l0 kj1 y105 y108 (y108.length : Int) 0 ((rd_T38 l0 0).f0) ((rd_T38 l0 0).f1))) else (none)) = some (r1, r2) := by first | (rw [hy105]; with_reducible exact H) | (have H2_ := (Option.bind_some _ _).symm.trans H; rw [hy105]; with_reducible exact H2_) | (have H2_ := (Option.bind_some _ _).symm.trans H; with_reducible exact H2_) | with_reducible exact H | (rw [hy105]; exact H) | exact H
     have Ny105 := Aside0.mk hy105
     clear hy105
     by_cases c10 : 1 ≤ (l0.length : Int)
     ·rw [if_pos c10] at H
      have c10b0 := eq_true c10
      have c10b1 : decide (1 ≤ (l0.length : Int)) = true := decide_eq_true c10
      clear c10
      obtain ⟨y108, hy108⟩ : ∃ y_ : List (S38), y_ = (l0.drop 1) := ⟨_, rfl⟩
      replace H : (impl_CodeStay.l0 kj1 y105 y108 (y108.length : Int) 0 ((rd_T38 l0 0).f0) ((rd_T38 l0 0).f1)) = some (r1, r2) := by first | (rw [hy108]; with_reducible exact H) | (have H2_ := (Option.bind_some _ _).symm.trans H; rw [hy108]; with_reducible exact H2_) | (have H2_ := (Option.bind_some _ _).symm.trans H; with_reducible exact H2_) | with_reducible exact H | (rw [hy108]; exact H) | exact H
      have Ny108 := Aside0.mk hy108
      clear hy108
      have H' := Aside0.mk H
      clear H
      have p103 : 0 ≤ (0 : Int) := (by omega)
      have q103 : 0 < (l0.length : Int) := of_decide_eq_true zq11_22
      obtain ⟨ad103, e103, hx103_0, hx103_1⟩ := at_T38 HR0.out 0 p103 q103
      cases e103
      have qi103 : (0 < l0.length) = True := eq_true (by omega)
      (try rw [show ((0 : Int)).toNat = 0 from rfl] at hx103_0)
      (try rw [show 0 * 2 = 0 from rfl] at hx103_0)
      (try rw [Addr.add_zero'] at hx103_0)
      (try rw [show ((0 : Int)).toNat = 0 from rfl] at hx103_1)
      (try rw [show 0 * 2 = 0 from rfl] at hx103_1)
      (try rw [Addr.add_zero'] at hx103_1)
      replace hx103_0 := (HB.out.cell (World.block_lt_of_cell? w _ hx103_0)).trans hx103_0
      replace hx103_1 := (HB.out.cell (World.block_lt_of_cell? w _ hx103_1)).trans hx103_1
      replace p103 := eq_true p103
      replace q103 := eq_true q103
      go_wp2_with (first | ((with_reducible refine gate_dst (N := 4) rfl ?_); (try (refine gate_guard (by rfl) ?_; dsimp only)); refine box_event ?hg (N := 4) ?hd (cs := #[.int .i64 0, .int .i64 0]) (t := 38) ?hr ?_; (case hd => rfl); (case hg => rfl); (zq11_16); intro gb104 hg w11 hbox hb; have n0_ := Aside0.mk (below_step zq11_7 hb); have n1_ := Aside0.mk (hbox); have n2_ := Aside0.mk (zq11_20); have n3_ := Aside0.mk (zq11_20); clear HB; have HB := n0_; have BK104 := n1_; have GW104 := n2_; have GE104 := n3_; clear n0_ n1_ n2_ n3_; clear hb hbox hg; have hcz12_0 : w11.cell? ⟨gb104, 0, none⟩ = some (.int .i64 0) := (blk_cell BK104.out 0).trans rfl; have hcz12_1 : w11.cell? ⟨gb104, 1, none⟩ = some (.int .i64 0) := (blk_cell BK104.out 1).trans rfl; have hfz12_0 := blk_frozen BK104.out 0; have hfz12_1 := blk_frozen BK104.out 1) | ((with_reducible refine gate_dst (N := 29) rfl ?_); (try (refine gate_guard (by rfl) ?_; dsimp only)); refine Kd.R_lit k38 _ 38 ?hg (N := 29) ?hd (xs := ([(⟨(rd_T38 l0 0).f0, (rd_T38 l0 0).f1⟩ : S38)] : List (S38))) (inner := [.int .i64 ((rd_T38 l0 0).f0), .int .i64 ((rd_T38 l0 0).f1)]) (ok := fun _ => True) (okp := fun _ => True) ?hr ?hp (fun _ hk => hk) trivial (Below.refl _ _) (Nat.le_refl _) (by simp) ?_; (case hd => rfl); (case hg => rfl); (zq11_16); (zq11_14); intro v106 w13 ho14 hb hg_ hnew_; clear hg_ hnew_; (zq11_26); have n0_ := Aside0.mk (Kd.R_lower (Kd.R_newB ho14 (g := gb104) (o := .cells #[.int .i64 ((rd_T38 l0 0).f0), .int .i64 ((rd_T38 l0 0).f1)] 38 (0, 0)) zq11_10) (below_size zq11_4)); have n1_ := Aside0.mk (blk_below (g := gb104) (o := .cells #[.int .i64 ((rd_T38 l0 0).f0), .int .i64 ((rd_T38 l0 0).f1)] 38 (0, 0)) zq11_10 hb); have n2_ := Aside0.mk (below_step zq11_4 hb); clear BK104; clear HB; have HO107 := n0_; have BK104 := n1_; have HB := n2_; clear n0_ n1_ n2_; clear hb ho14; have q15 : (1 : Int) ≤ ((l0.length : Int) : Int) := of_decide_eq_true zq11_22; obtain ⟨i015, hi015, _, hsz15, _⟩ := info_parts info38; have hroom15 : l0.length ≤ c0 := HC0.out; have hC15 : Kd.C k38 _ (some ad103) l0.length l0 := HR0.out; have hcut15 := cut_from (P := Try.prog) 24 38 .i64 Try.underlying24 hi015 2 hsz15 (some ad103) l0.length c0 1 (by omega) q15; have hr15 := Kd.C_drop (m := (1 : Int).toNat) (c := c0) hC15 (by omega) hroom15; obtain ⟨A15, hA15⟩ : ∃ A1, A1 = (if c0 = (1 : Int).toNat then (some ad103) else ((some ad103) : Option Addr).map (·.add ((1 : Int).toNat * 2))) := ⟨_, rfl⟩; obtain ⟨c15, hc15⟩ : ∃ c1, c1 = c0 - (1 : Int).toNat := ⟨_, rfl⟩; have hy15 : y108.length = l0.length - (1 : Int).toNat := (by rw [Ny108.out, List.length_drop] <;> omega); rw [show (l0).drop (1 : Int).toNat = y108 from Ny108.out.symm] at hr15; replace hr15 : Kd.C k38 _ A15 y108.length y108 := (by rw [hA15]; exact hr15); rw [← hy15, ← hA15, ← hc15] at hcut15; have HR111 := Aside0.mk hr15; have HC111 := Aside0.mk (show y108.length ≤ c15 from by rw [hy15, hc15]; exact Nat.sub_le_sub_right hroom15 _); clear hr15 hC15 hroom15 hi015 hsz15 hc15; have KY15 := Aside0.mk hy15; have KA15 := Aside0.mk hA15; clear hy15 hA15; replace q15 := eq_true q15))
      repeat (go_quiet (first | ((with_reducible refine gate_dst (N := 4) rfl ?_); (try (refine gate_guard (by rfl) ?_; dsimp only)); refine box_event ?hg (N := 4) ?hd (cs := #[.int .i64 0, .int .i64 0]) (t := 38) ?hr ?_; (case hd => rfl); (case hg => rfl); (zq11_16); intro gb104 hg w11 hbox hb; have n0_ := Aside0.mk (below_step zq11_7 hb); have n1_ := Aside0.mk (hbox); have n2_ := Aside0.mk (zq11_20); have n3_ := Aside0.mk (zq11_20); clear HB; have HB := n0_; have BK104 := n1_; have GW104 := n2_; have GE104 := n3_; clear n0_ n1_ n2_ n3_; clear hb hbox hg; have hcz12_0 : w11.cell? ⟨gb104, 0, none⟩ = some (.int .i64 0) := (blk_cell BK104.out 0).trans rfl; have hcz12_1 : w11.cell? ⟨gb104, 1, none⟩ = some (.int .i64 0) := (blk_cell BK104.out 1).trans rfl; have hfz12_0 := blk_frozen BK104.out 0; have hfz12_1 := blk_frozen BK104.out 1) | ((with_reducible refine gate_dst (N := 29) rfl ?_); (try (refine gate_guard (by rfl) ?_; dsimp only)); refine Kd.R_lit k38 _ 38 ?hg (N := 29) ?hd (xs := ([(⟨(rd_T38 l0 0).f0, (rd_T38 l0 0).f1⟩ : S38)] : List (S38))) (inner := [.int .i64 ((rd_T38 l0 0).f0), .int .i64 ((rd_T38 l0 0).f1)]) (ok := fun _ => True) (okp := fun _ => True) ?hr ?hp (fun _ hk => hk) trivial (Below.refl _ _) (Nat.le_refl _) (by simp) ?_; (case hd => rfl); (case hg => rfl); (zq11_16); (zq11_14); intro v106 w13 ho14 hb hg_ hnew_; clear hg_ hnew_; (zq11_26); have n0_ := Aside0.mk (Kd.R_lower (Kd.R_newB ho14 (g := gb104) (o := .cells #[.int .i64 ((rd_T38 l0 0).f0), .int .i64 ((rd_T38 l0 0).f1)] 38 (0, 0)) zq11_10) (below_size zq11_4)); have n1_ := Aside0.mk (blk_below (g := gb104) (o := .cells #[.int .i64 ((rd_T38 l0 0).f0), .int .i64 ((rd_T38 l0 0).f1)] 38 (0, 0)) zq11_10 hb); have n2_ := Aside0.mk (below_step zq11_4 hb); clear BK104; clear HB; have HO107 := n0_; have BK104 := n1_; have HB := n2_; clear n0_ n1_ n2_; clear hb ho14; have q15 : (1 : Int) ≤ ((l0.length : Int) : Int) := of_decide_eq_true zq11_22; obtain ⟨i015, hi015, _, hsz15, _⟩ := info_parts info38; have hroom15 : l0.length ≤ c0 := HC0.out; have hC15 : Kd.C k38 _ (some ad103) l0.length l0 := HR0.out; have hcut15 := cut_from (P := Try.prog) 24 38 .i64 Try.underlying24 hi015 2 hsz15 (some ad103) l0.length c0 1 (by omega) q15; have hr15 := Kd.C_drop (m := (1 : Int).toNat) (c := c0) hC15 (by omega) hroom15; obtain ⟨A15, hA15⟩ : ∃ A1, A1 = (if c0 = (1 : Int).toNat then (some ad103) else ((some ad103) : Option Addr).map (·.add ((1 : Int).toNat * 2))) := ⟨_, rfl⟩; obtain ⟨c15, hc15⟩ : ∃ c1, c1 = c0 - (1 : Int).toNat := ⟨_, rfl⟩; have hy15 : y108.length = l0.length - (1 : Int).toNat := (by rw [Ny108.out, List.length_drop] <;> omega); rw [show (l0).drop (1 : Int).toNat = y108 from Ny108.out.symm] at hr15; replace hr15 : Kd.C k38 _ A15 y108.length y108 := (by rw [hA15]; exact hr15); rw [← hy15, ← hA15, ← hc15] at hcut15; have HR111 := Aside0.mk hr15; have HC111 := Aside0.mk (show y108.length ≤ c15 from by rw [hy15, hc15]; exact Nat.sub_le_sub_right hroom15 _); clear hr15 hC15 hroom15 hi015 hsz15 hc15; have KY15 := Aside0.mk hy15; have KA15 := Aside0.mk hA15; clear hy15 hA15; replace q15 := eq_true q15)); try go_wp2_with (first | ((with_reducible refine gate_dst (N := 4) rfl ?_); (try (refine gate_guard (by rfl) ?_; dsimp only)); refine box_event ?hg (N := 4) ?hd (cs := #[.int .i64 0, .int .i64 0]) (t := 38) ?hr ?_; (case hd => rfl); (case hg => rfl); (zq11_16); intro gb104 hg w11 hbox hb; have n0_ := Aside0.mk (below_step zq11_7 hb); have n1_ := Aside0.mk (hbox); have n2_ := Aside0.mk (zq11_20); have n3_ := Aside0.mk (zq11_20); clear HB; have HB := n0_; have BK104 := n1_; have GW104 := n2_; have GE104 := n3_; clear n0_ n1_ n2_ n3_; clear hb hbox hg; have hcz12_0 : w11.cell? ⟨gb104, 0, none⟩ = some (.int .i64 0) := (blk_cell BK104.out 0).trans rfl; have hcz12_1 : w11.cell? ⟨gb104, 1, none⟩ = some (.int .i64 0) := (blk_cell BK104.out 1).trans rfl; have hfz12_0 := blk_frozen BK104.out 0; have hfz12_1 := blk_frozen BK104.out 1) | ((with_reducible refine gate_dst (N := 29) rfl ?_); (try (refine gate_guard (by rfl) ?_; dsimp only)); refine Kd.R_lit k38 _ 38 ?hg (N := 29) ?hd (xs := ([(⟨(rd_T38 l0 0).f0, (rd_T38 l0 0).f1⟩ : S38)] : List (S38))) (inner := [.int .i64 ((rd_T38 l0 0).f0), .int .i64 ((rd_T38 l0 0).f1)]) (ok := fun _ => True) (okp := fun _ => True) ?hr ?hp (fun _ hk => hk) trivial (Below.refl _ _) (Nat.le_refl _) (by simp) ?_; (case hd => rfl); (case hg => rfl); (zq11_16); (zq11_14); intro v106 w13 ho14 hb hg_ hnew_; clear hg_ hnew_; (zq11_26); have n0_ := Aside0.mk (Kd.R_lower (Kd.R_newB ho14 (g := gb104) (o := .cells #[.int .i64 ((rd_T38 l0 0).f0), .int .i64 ((rd_T38 l0 0).f1)] 38 (0, 0)) zq11_10) (below_size zq11_4)); have n1_ := Aside0.mk (blk_below (g := gb104) (o := .cells #[.int .i64 ((rd_T38 l0 0).f0), .int .i64 ((rd_T38 l0 0).f1)] 38 (0, 0)) zq11_10 hb); have n2_ := Aside0.mk (below_step zq11_4 hb); clear BK104; clear HB; have HO107 := n0_; have BK104 := n1_; have HB := n2_; clear n0_ n1_ n2_; clear hb ho14; have q15 : (1 : Int) ≤ ((l0.length : Int) : Int) := of_decide_eq_true zq11_22; obtain ⟨i015, hi015, _, hsz15, _⟩ := info_parts info38; have hroom15 : l0.length ≤ c0 := HC0.out; have hC15 : Kd.C k38 _ (some ad103) l0.length l0 := HR0.out; have hcut15 := cut_from (P := Try.prog) 24 38 .i64 Try.underlying24 hi015 2 hsz15 (some ad103) l0.length c0 1 (by omega) q15; have hr15 := Kd.C_drop (m := (1 : Int).toNat) (c := c0) hC15 (by omega) hroom15; obtain ⟨A15, hA15⟩ : ∃ A1, A1 = (if c0 = (1 : Int).toNat then (some ad103) else ((some ad103) : Option Addr).map (·.add ((1 : Int).toNat * 2))) := ⟨_, rfl⟩; obtain ⟨c15, hc15⟩ : ∃ c1, c1 = c0 - (1 : Int).toNat := ⟨_, rfl⟩; have hy15 : y108.length = l0.length - (1 : Int).toNat := (by rw [Ny108.out, List.length_drop] <;> omega); rw [show (l0).drop (1 : Int).toNat = y108 from Ny108.out.symm] at hr15; replace hr15 : Kd.C k38 _ A15 y108.length y108 := (by rw [hA15]; exact hr15); rw [← hy15, ← hA15, ← hc15] at hcut15; have HR111 := Aside0.mk hr15; have HC111 := Aside0.mk (show y108.length ≤ c15 from by rw [hy15, hc15]; exact Nat.sub_le_sub_right hroom15 _); clear hr15 hC15 hroom15 hi015 hsz15 hc15; have KY15 := Aside0.mk hy15; have KA15 := Aside0.mk hA15; clear hy15 hA15; replace q15 := eq_true q15)))
      go_loopg [5, 33] kj1 (fun kq v5 v33 w' => ∃ (x5_2 : List (S38)) (x33_2 : Int) (x105000_2 : Int) (x105001_2 : Int), v33 = .int .i64 x33_2 ∧ Aside0 (impl_CodeStay.l0 kq x5_2 y108 (y108.length : Int) x33_2 x105000_2 x105001_2 = some (r1, r2)) ∧ Aside0 (kq ≤ kj1) ∧ Aside0 (Kd.R k38 38 w' w.heap.size (fun k_ => k_ ≠ gb104) v5 x5_2) ∧ Aside0 (w'.heap[gb104]? = some (.cells #[.int .i64 x105000_2, .int .i64 x105001_2] 38 (0, 0))) ∧ Aside0 (Below w.heap.size w w'))
      case atStart => exact ⟨(y105), (0), ((rd_T38 l0 0).f0), ((rd_T38 l0 0).f1), zq11_17, H', ⟨Nat.le_refl _⟩, ⟨by (zq11_6); exact Kd.R_mono HO107.out (fun _ hk => hk.2)⟩, ⟨by (zq11_1); exact BK104.out⟩, ⟨by repeat (first | (with_reducible first | exact HB.out | apply below_alloc | apply pw_below_drewN | apply below_drew1 | refine below_set ?_ GE104.out) | exact HB.out)⟩⟩
      case round =>
       clear H'
       try clear c1
       try clear p1
       try clear q1
       try clear hx1
       try clear qi1
       try clear c2
       try clear p2
       try clear c3
       try clear c3b0
       try clear c3b1
       try clear c4
       try clear c4b0
       try clear c4b1
       try clear c5
       try clear c5b0
       try clear c5b1
       try clear c8
       try clear c9
       try clear c9b0
       try clear c9b1
       try clear c10
       try clear c10b0
       try clear c10b1
       try clear p10
       try clear q10
       try clear hx10
       try clear qi10
       try clear c15
       try clear q15
       try clear hcz12_0
       try clear hcz12_1
       try clear hfz12_0
       try clear hfz12_1
       try clear hx101_0
       try clear hx101_1
       try clear hx103_0
       try clear hx103_1
       try clear p1
       try clear p101
       try clear p103
       try clear p2
       try clear q1
       try clear q101
       try clear q103
       try clear q15
       obtain ⟨x5_2, x33_2, x105000_2, x105001_2, rfl, HA, HK2, HO_5, BK104, HB⟩ := hrel
       cases gk with
       | zero => exact absurd HA.out (by simp [impl_CodeStay.l0])
       | succ k2 =>
        have H := HA.out
        clear HA
        simp only [impl_CodeStay.l0] at H
        by_cases c16 : x33_2 < (y108.length : Int)
        ·rw [if_pos c16] at H
         have c16b0 : decide (x33_2 < (y108.length : Int)) = true := decide_eq_true c16
         clear c16
         by_cases c17 : 0 ≤ x33_2
         ·rw [if_pos c17] at H
          have c17b0 : decide (0 ≤ x33_2) = true := decide_eq_true c17
          clear c17
          by_cases c18 : x33_2 < (y108.length : Int)
          ·rw [if_pos c18] at H
           have c18b0 : decide (x33_2 < (y108.length : Int)) = true := decide_eq_true c18
           clear c18
           have HC19 := Aside0.mk H
           clear H
           have p113 : 0 ≤ (x33_2 : Int) := of_decide_eq_true zq11_22
           have q113 : x33_2 < (y108.length : Int) := of_decide_eq_true zq11_22
           obtain ⟨ad113, e113, hx113_0, hx113_1⟩ := at_T38 HR111.out x33_2 p113 q113
           cases e113
           replace hx113_0 := (HB.out.cell (World.block_lt_of_cell? w _ hx113_0)).trans hx113_0
           replace hx113_1 := (HB.out.cell (World.block_lt_of_cell? w _ hx113_1)).trans hx113_1
           replace p113 := eq_true p113
           replace q113 := eq_true q113
           go_upto_region 8 with (first | ((with_reducible refine gate_dst (N := 7) rfl ?_); (try (refine gate_guard (by rfl) ?_; dsimp only)); refine box_event ?hg (N := 7) ?hd (cs := #[.int .i64 0, .int .i64 0]) (t := 38) ?hr ?_; (case hd => rfl); (case hg => rfl); (zq11_16); intro gb114 hg w20 hbox hb; have n0_ := Aside0.mk (Kd.R_below (Kd.R_elderB (by (zq11_6); exact HO_5.out) gb114 (Nat.le_of_eq hg.symm)) hb); have n1_ := Aside0.mk (blk_below (g := gb104) (o := .cells #[.int .i64 x105000_2, .int .i64 x105001_2] 38 (0, 0)) (by (zq11_1); exact BK104.out) hb); have n2_ := Aside0.mk (below_step zq11_4 hb); have n3_ := Aside0.mk (hbox); have n4_ := Aside0.mk (zq11_21); have n5_ := Aside0.mk (zq11_21); have n6_ := Aside0.mk (zq11_18); have n7_ := Aside0.mk (zq11_19); clear HO_5; clear BK104; clear HB; have HO_5 := n0_; have BK104 := n1_; have HB := n2_; have BK114 := n3_; have GW114 := n4_; have GE114 := n5_; have NB104_114 := n6_; have NB114_104 := n7_; clear n0_ n1_ n2_ n3_ n4_ n5_ n6_ n7_; clear hb hbox hg; have hnb21 := NB114_104.out; have hnc21 := NB104_114.out; have hcz22_0 : w20.cell? ⟨gb114, 0, none⟩ = some (.int .i64 0) := (blk_cell BK114.out 0).trans rfl; have hcz22_1 : w20.cell? ⟨gb114, 1, none⟩ = some (.int .i64 0) := (blk_cell BK114.out 1).trans rfl; have hfz22_0 := blk_frozen BK114.out 0; have hfz22_1 := blk_frozen BK114.out 1))
           repeat (go_quiet (first | ((with_reducible refine gate_dst (N := 7) rfl ?_); (try (refine gate_guard (by rfl) ?_; dsimp only)); refine box_event ?hg (N := 7) ?hd (cs := #[.int .i64 0, .int .i64 0]) (t := 38) ?hr ?_; (case hd => rfl); (case hg => rfl); (zq11_16); intro gb114 hg w20 hbox hb; have n0_ := Aside0.mk (Kd.R_below (Kd.R_elderB (by (zq11_6); exact HO_5.out) gb114 (Nat.le_of_eq hg.symm)) hb); have n1_ := Aside0.mk (blk_below (g := gb104) (o := .cells #[.int .i64 x105000_2, .int .i64 x105001_2] 38 (0, 0)) (by (zq11_1); exact BK104.out) hb); have n2_ := Aside0.mk (below_step zq11_4 hb); have n3_ := Aside0.mk (hbox); have n4_ := Aside0.mk (zq11_21); have n5_ := Aside0.mk (zq11_21); have n6_ := Aside0.mk (zq11_18); have n7_ := Aside0.mk (zq11_19); clear HO_5; clear BK104; clear HB; have HO_5 := n0_; have BK104 := n1_; have HB := n2_; have BK114 := n3_; have GW114 := n4_; have GE114 := n5_; have NB104_114 := n6_; have NB114_104 := n7_; clear n0_ n1_ n2_ n3_ n4_ n5_ n6_ n7_; clear hb hbox hg; have hnb21 := NB114_104.out; have hnc21 := NB104_114.out; have hcz22_0 : w20.cell? ⟨gb114, 0, none⟩ = some (.int .i64 0) := (blk_cell BK114.out 0).trans rfl; have hcz22_1 : w20.cell? ⟨gb114, 1, none⟩ = some (.int .i64 0) := (blk_cell BK114.out 1).trans rfl; have hfz22_0 := blk_frozen BK114.out 0; have hfz22_1 := blk_frozen BK114.out 1)); go_upto_region 8 with (first | ((with_reducible refine gate_dst (N := 7) rfl ?_); (try (refine gate_guard (by rfl) ?_; dsimp only)); refine box_event ?hg (N := 7) ?hd (cs := #[.int .i64 0, .int .i64 0]) (t := 38) ?hr ?_; (case hd => rfl); (case hg => rfl); (zq11_16); intro gb114 hg w20 hbox hb; have n0_ := Aside0.mk (Kd.R_below (Kd.R_elderB (by (zq11_6); exact HO_5.out) gb114 (Nat.le_of_eq hg.symm)) hb); have n1_ := Aside0.mk (blk_below (g := gb104) (o := .cells #[.int .i64 x105000_2, .int .i64 x105001_2] 38 (0, 0)) (by (zq11_1); exact BK104.out) hb); have n2_ := Aside0.mk (below_step zq11_4 hb); have n3_ := Aside0.mk (hbox); have n4_ := Aside0.mk (zq11_21); have n5_ := Aside0.mk (zq11_21); have n6_ := Aside0.mk (zq11_18); have n7_ := Aside0.mk (zq11_19); clear HO_5; clear BK104; clear HB; have HO_5 := n0_; have BK104 := n1_; have HB := n2_; have BK114 := n3_; have GW114 := n4_; have GE114 := n5_; have NB104_114 := n6_; have NB114_104 := n7_; clear n0_ n1_ n2_ n3_ n4_ n5_ n6_ n7_; clear hb hbox hg; have hnb21 := NB114_104.out; have hnc21 := NB104_114.out; have hcz22_0 : w20.cell? ⟨gb114, 0, none⟩ = some (.int .i64 0) := (blk_cell BK114.out 0).trans rfl; have hcz22_1 : w20.cell? ⟨gb114, 1, none⟩ = some (.int .i64 0) := (blk_cell BK114.out 1).trans rfl; have hfz22_0 := blk_frozen BK114.out 0; have hfz22_1 := blk_frozen BK114.out 1)))
           (try simp only [Act.put, List.setIfInBounds_toArray, List.set_cons_zero, List.set_cons_succ])
           go_cut [58] (fun v58 wc => ∃ (kq : Nat) (x58_18 : Bool), v58 = .bool x58_18 ∧ Aside0 (impl_CodeStay.j2 kq x5_2 y108 (y108.length : Int) x33_2 x58_18 x105000_2 x105001_2 ((rd_T38 y108 x33_2).f0) ((rd_T38 y108 x33_2).f1) = some (r1, r2)) ∧ Aside0 (kq ≤ k2) ∧ Aside0 (Kd.R k38 38 wc w.heap.size (fun k_ => k_ ≠ gb104 ∧ k_ ≠ gb114) u5 x5_2) ∧ Aside0 (wc.heap[gb104]? = some (.cells #[.int .i64 x105000_2, .int .i64 x105001_2] 38 (0, 0))) ∧ Aside0 (wc.heap[gb114]? = some (.cells #[.int .i64 ((rd_T38 y108 x33_2).f0), .int .i64 ((rd_T38 y108 x33_2).f1)] 38 (0, 0))) ∧ Aside0 (Below w.heap.size w wc))
           case first =>
            have H := HC19.out
            clear HC19
            replace H := Option.bind_eq_some_iff.mp H
            obtain ⟨t115, A230, H⟩ := H
            replace H : (if t115 = true then (if (((rd_T38 y108 x33_2).f0) == x105000_2 && (((rd_T38 y108 x33_2).f1) == x105001_2)) = true then (impl_CodeStay.j2 k2 x5_2 y108 (y108.length : Int) x33_2 true x105000_2 x105001_2 ((rd_T38 y108 x33_2).f0) ((rd_T38 y108 x33_2).f1)) else (if ((rd_T38 y108 x33_2).f0) = x105000_2 then (impl_CodeStay.j2 k2 x5_2 y108 (y108.length : Int) x33_2 false x105000_2 x105001_2 ((rd_T38 y108 x33_2).f0) ((rd_T38 y108 x33_2).f1)) else (impl_CodeStay.j2 k2 x5_2 y108 (y108.length : Int) x33_2 (((rd_T38 y108 x33_2).f1) != x105001_2) x105000_2 x105001_2 ((rd_T38 y108 x33_2).f0) ((rd_T38 y108 x33_2).f1)))) else (impl_CodeStay.j2 k2 x5_2 y108 (y108.length : Int) x33_2 true x105000_2 x105001_2 ((rd_T38 y108 x33_2).f0) ((rd_T38 y108 x33_2).f1))) = some (r1, r2) := H
            have A23 := Aside0.mk A230
            clear A230
            by_cases c24 : t115 = true
            ·subst c24
             have H1 : (if (((rd_T38 y108 x33_2).f0) == x105000_2 && (((rd_T38 y108 x33_2).f1) == x105001_2)) = true then (impl_CodeStay.j2 k2 x5_2 y108 (y108.length : Int) x33_2 true x105000_2 x105001_2 ((rd_T38 y108 x33_2).f0) ((rd_T38 y108 x33_2).f1)) else (if ((rd_T38 y108 x33_2).f0) = x105000_2 then (impl_CodeStay.j2 k2 x5_2 y108 (y108.length : Int) x33_2 false x105000_2 x105001_2 ((rd_T38 y108 x33_2).f0) ((rd_T38 y108 x33_2).f1)) else (impl_CodeStay.j2 k2 x5_2 y108 (y108.length : Int) x33_2 (((rd_T38 y108 x33_2).f1) != x105001_2) x105000_2 x105001_2 ((rd_T38 y108 x33_2).f0) ((rd_T38 y108 x33_2).f1)))) = some (r1, r2) := by rw [if_pos rfl] at H; exact H
             clear H
             have H := H1
             clear H1
             by_cases c25 : (((rd_T38 y108 x33_2).f0) == x105000_2 && (((rd_T38 y108 x33_2).f1) == x105001_2)) = true
             ·rw [if_pos c25] at H
              have c25b0 : (((rd_T38 y108 x33_2).f0) == x105000_2 && (((rd_T38 y108 x33_2).f1) == x105001_2)) = true := c25
              (try (have c25b1 : decide (((rd_T38 y108 x33_2).f0) = x105000_2 && (((rd_T38 y108 x33_2).f1) == x105001_2)) = true := by simpa using c25))
              (try (have c25b2 : (((rd_T38 y108 x33_2).f0) == x105000_2 && (((rd_T38 y108 x33_2).f1) == x105001_2)) = true := by simpa using c25))
              clear c25
              (first | rw [c25b0] | (simp only [i64_w, i32_w]; rw [c25b0]) | skip)
              have H' := Aside0.mk H
              clear H
              have hnb26 := NB114_104.out
              have hnc26 := NB104_114.out
              have hcz27_0 : w20.cell? ⟨gb114, 0, none⟩ = some (.int .i64 0) := (blk_cell BK114.out 0).trans rfl
              have hcz27_1 : w20.cell? ⟨gb114, 1, none⟩ = some (.int .i64 0) := (blk_cell BK114.out 1).trans rfl
              have hfz27_0 := blk_frozen BK114.out 0
              have hfz27_1 := blk_frozen BK114.out 1
              go_wp2_with (first | (go_at_call 23; (zq11_12); rintro e w28 ⟨rfl, hb⟩; have n0_ := Aside0.mk (Kd.R_below zq11_2 hb); have n1_ := Aside0.mk (blk_below (g := gb104) (o := .cells #[.int .i64 x105000_2, .int .i64 x105001_2] 38 (0, 0)) zq11_9 hb); have n2_ := Aside0.mk (blk_below (g := gb114) (o := .cells #[.int .i64 ((rd_T38 y108 x33_2).f0), .int .i64 ((rd_T38 y108 x33_2).f1)] 38 (0, 0)) zq11_5 hb); have n3_ := Aside0.mk (below_step zq11_3 hb); clear HO_5; clear BK104; clear BK114; clear HB; have HO_5 := n0_; have BK104 := n1_; have BK114 := n2_; have HB := n3_; clear n0_ n1_ n2_ n3_; (try clear hb); (try clear hb2); (try clear hk); (try clear hi); have hcz29_0 : w28.cell? ⟨gb114, 0, none⟩ = some (.int .i64 ((rd_T38 y108 x33_2).f0)) := (blk_cell BK114.out 0).trans rfl; have hcz29_1 : w28.cell? ⟨gb114, 1, none⟩ = some (.int .i64 ((rd_T38 y108 x33_2).f1)) := (blk_cell BK114.out 1).trans rfl; have hfz29_0 := blk_frozen BK114.out 0; have hfz29_1 := blk_frozen BK114.out 1; have hcz30_0 : w28.cell? ⟨gb104, 0, none⟩ = some (.int .i64 x105000_2) := (blk_cell BK104.out 0).trans rfl; have hcz30_1 : w28.cell? ⟨gb104, 1, none⟩ = some (.int .i64 x105001_2) := (blk_cell BK104.out 1).trans rfl; have hfz30_0 := blk_frozen BK104.out 0; have hfz30_1 := blk_frozen BK104.out 1))
              repeat (go_quiet (first | (go_at_call 23; (zq11_12); rintro e w28 ⟨rfl, hb⟩; have n0_ := Aside0.mk (Kd.R_below zq11_2 hb); have n1_ := Aside0.mk (blk_below (g := gb104) (o := .cells #[.int .i64 x105000_2, .int .i64 x105001_2] 38 (0, 0)) zq11_9 hb); have n2_ := Aside0.mk (blk_below (g := gb114) (o := .cells #[.int .i64 ((rd_T38 y108 x33_2).f0), .int .i64 ((rd_T38 y108 x33_2).f1)] 38 (0, 0)) zq11_5 hb); have n3_ := Aside0.mk (below_step zq11_3 hb); clear HO_5; clear BK104; clear BK114; clear HB; have HO_5 := n0_; have BK104 := n1_; have BK114 := n2_; have HB := n3_; clear n0_ n1_ n2_ n3_; (try clear hb); (try clear hb2); (try clear hk); (try clear hi); have hcz29_0 : w28.cell? ⟨gb114, 0, none⟩ = some (.int .i64 ((rd_T38 y108 x33_2).f0)) := (blk_cell BK114.out 0).trans rfl; have hcz29_1 : w28.cell? ⟨gb114, 1, none⟩ = some (.int .i64 ((rd_T38 y108 x33_2).f1)) := (blk_cell BK114.out 1).trans rfl; have hfz29_0 := blk_frozen BK114.out 0; have hfz29_1 := blk_frozen BK114.out 1; have hcz30_0 : w28.cell? ⟨gb104, 0, none⟩ = some (.int .i64 x105000_2) := (blk_cell BK104.out 0).trans rfl; have hcz30_1 : w28.cell? ⟨gb104, 1, none⟩ = some (.int .i64 x105001_2) := (blk_cell BK104.out 1).trans rfl; have hfz30_0 := blk_frozen BK104.out 0; have hfz30_1 := blk_frozen BK104.out 1)); try go_wp2_with (first | (go_at_call 23; (zq11_12); rintro e w28 ⟨rfl, hb⟩; have n0_ := Aside0.mk (Kd.R_below zq11_2 hb); have n1_ := Aside0.mk (blk_below (g := gb104) (o := .cells #[.int .i64 x105000_2, .int .i64 x105001_2] 38 (0, 0)) zq11_9 hb); have n2_ := Aside0.mk (blk_below (g := gb114) (o := .cells #[.int .i64 ((rd_T38 y108 x33_2).f0), .int .i64 ((rd_T38 y108 x33_2).f1)] 38 (0, 0)) zq11_5 hb); have n3_ := Aside0.mk (below_step zq11_3 hb); clear HO_5; clear BK104; clear BK114; clear HB; have HO_5 := n0_; have BK104 := n1_; have BK114 := n2_; have HB := n3_; clear n0_ n1_ n2_ n3_; (try clear hb); (try clear hb2); (try clear hk); (try clear hi); have hcz29_0 : w28.cell? ⟨gb114, 0, none⟩ = some (.int .i64 ((rd_T38 y108 x33_2).f0)) := (blk_cell BK114.out 0).trans rfl; have hcz29_1 : w28.cell? ⟨gb114, 1, none⟩ = some (.int .i64 ((rd_T38 y108 x33_2).f1)) := (blk_cell BK114.out 1).trans rfl; have hfz29_0 := blk_frozen BK114.out 0; have hfz29_1 := blk_frozen BK114.out 1; have hcz30_0 : w28.cell? ⟨gb104, 0, none⟩ = some (.int .i64 x105000_2) := (blk_cell BK104.out 0).trans rfl; have hcz30_1 : w28.cell? ⟨gb104, 1, none⟩ = some (.int .i64 x105001_2) := (blk_cell BK104.out 1).trans rfl; have hfz30_0 := blk_frozen BK104.out 0; have hfz30_1 := blk_frozen BK104.out 1)))
              go_meet
              case rel => exact ⟨_, (true), zq11_17, H', ⟨by have := HJ1.out; have := HK2.out; first | omega | exact Nat.le_refl _⟩, ⟨by (zq11_6); exact HO_5.out⟩, ⟨by (zq11_1); exact BK104.out⟩, ⟨by (zq11_1); exact BK114.out⟩, ⟨by repeat (first | (with_reducible first | exact HB.out | apply below_alloc | apply pw_below_drewN | apply below_drew1 | refine below_set ?_ GE104.out | refine below_set ?_ GE114.out) | exact HB.out)⟩⟩
             ·rw [if_neg c25] at H
              have c25b0 : (((rd_T38 y108 x33_2).f0) == x105000_2 && (((rd_T38 y108 x33_2).f1) == x105001_2)) = false := by simpa using c25
              (try (have c25b1 : decide (((rd_T38 y108 x33_2).f0) = x105000_2 && (((rd_T38 y108 x33_2).f1) == x105001_2)) = false := by simpa using c25))
              (try (have c25b2 : (((rd_T38 y108 x33_2).f0) == x105000_2 && (((rd_T38 y108 x33_2).f1) == x105001_2)) = false := by simpa using c25))
              (try (have c25b3 : ¬ (((rd_T38 y108 x33_2).f0) = x105000_2 && (((rd_T38 y108 x33_2).f1) == x105001_2)) := by simpa using c25))
              clear c25
              (first | rw [c25b0] | (simp only [i64_w, i32_w]; rw [c25b0]) | skip)
              by_cases c31 : ((rd_T38 y108 x33_2).f0) = x105000_2
              ·rw [if_pos c31] at H
               have c31b0 : (((rd_T38 y108 x33_2).f0) == x105000_2) = true := beq_iff_eq.mpr c31
               (try (have c31x := c25b0; rw [c31b0, Bool.true_and] at c31x))
               have c31b1 : (((rd_T38 y108 x33_2).f0) != x105000_2) = false := bne_eq_false_iff_eq.mpr c31
               clear c31
               have H' := Aside0.mk H
               clear H
               have hnb32 := NB114_104.out
               have hnc32 := NB104_114.out
               have hcz33_0 : w20.cell? ⟨gb114, 0, none⟩ = some (.int .i64 0) := (blk_cell BK114.out 0).trans rfl
               have hcz33_1 : w20.cell? ⟨gb114, 1, none⟩ = some (.int .i64 0) := (blk_cell BK114.out 1).trans rfl
               have hfz33_0 := blk_frozen BK114.out 0
               have hfz33_1 := blk_frozen BK114.out 1
               go_wp2_with (first | (go_at_call 23; (zq11_12); rintro e w34 ⟨rfl, hb⟩; have n0_ := Aside0.mk (Kd.R_below zq11_2 hb); have n1_ := Aside0.mk (blk_below (g := gb104) (o := .cells #[.int .i64 x105000_2, .int .i64 x105001_2] 38 (0, 0)) zq11_9 hb); have n2_ := Aside0.mk (blk_below (g := gb114) (o := .cells #[.int .i64 ((rd_T38 y108 x33_2).f0), .int .i64 ((rd_T38 y108 x33_2).f1)] 38 (0, 0)) zq11_5 hb); have n3_ := Aside0.mk (below_step zq11_3 hb); clear HO_5; clear BK104; clear BK114; clear HB; have HO_5 := n0_; have BK104 := n1_; have BK114 := n2_; have HB := n3_; clear n0_ n1_ n2_ n3_; (try clear hb); (try clear hb2); (try clear hk); (try clear hi); have hcz35_0 : w34.cell? ⟨gb114, 0, none⟩ = some (.int .i64 ((rd_T38 y108 x33_2).f0)) := (blk_cell BK114.out 0).trans rfl; have hcz35_1 : w34.cell? ⟨gb114, 1, none⟩ = some (.int .i64 ((rd_T38 y108 x33_2).f1)) := (blk_cell BK114.out 1).trans rfl; have hfz35_0 := blk_frozen BK114.out 0; have hfz35_1 := blk_frozen BK114.out 1; have hcz36_0 : w34.cell? ⟨gb104, 0, none⟩ = some (.int .i64 x105000_2) := (blk_cell BK104.out 0).trans rfl; have hcz36_1 : w34.cell? ⟨gb104, 1, none⟩ = some (.int .i64 x105001_2) := (blk_cell BK104.out 1).trans rfl; have hfz36_0 := blk_frozen BK104.out 0; have hfz36_1 := blk_frozen BK104.out 1))
               repeat (go_quiet (first | (go_at_call 23; (zq11_12); rintro e w34 ⟨rfl, hb⟩; have n0_ := Aside0.mk (Kd.R_below zq11_2 hb); have n1_ := Aside0.mk (blk_below (g := gb104) (o := .cells #[.int .i64 x105000_2, .int .i64 x105001_2] 38 (0, 0)) zq11_9 hb); have n2_ := Aside0.mk (blk_below (g := gb114) (o := .cells #[.int .i64 ((rd_T38 y108 x33_2).f0), .int .i64 ((rd_T38 y108 x33_2).f1)] 38 (0, 0)) zq11_5 hb); have n3_ := Aside0.mk (below_step zq11_3 hb); clear HO_5; clear BK104; clear BK114; clear HB; have HO_5 := n0_; have BK104 := n1_; have BK114 := n2_; have HB := n3_; clear n0_ n1_ n2_ n3_; (try clear hb); (try clear hb2); (try clear hk); (try clear hi); have hcz35_0 : w34.cell? ⟨gb114, 0, none⟩ = some (.int .i64 ((rd_T38 y108 x33_2).f0)) := (blk_cell BK114.out 0).trans rfl; have hcz35_1 : w34.cell? ⟨gb114, 1, none⟩ = some (.int .i64 ((rd_T38 y108 x33_2).f1)) := (blk_cell BK114.out 1).trans rfl; have hfz35_0 := blk_frozen BK114.out 0; have hfz35_1 := blk_frozen BK114.out 1; have hcz36_0 : w34.cell? ⟨gb104, 0, none⟩ = some (.int .i64 x105000_2) := (blk_cell BK104.out 0).trans rfl; have hcz36_1 : w34.cell? ⟨gb104, 1, none⟩ = some (.int .i64 x105001_2) := (blk_cell BK104.out 1).trans rfl; have hfz36_0 := blk_frozen BK104.out 0; have hfz36_1 := blk_frozen BK104.out 1)); try go_wp2_with (first | (go_at_call 23; (zq11_12); rintro e w34 ⟨rfl, hb⟩; have n0_ := Aside0.mk (Kd.R_below zq11_2 hb); have n1_ := Aside0.mk (blk_below (g := gb104) (o := .cells #[.int .i64 x105000_2, .int .i64 x105001_2] 38 (0, 0)) zq11_9 hb); have n2_ := Aside0.mk (blk_below (g := gb114) (o := .cells #[.int .i64 ((rd_T38 y108 x33_2).f0), .int .i64 ((rd_T38 y108 x33_2).f1)] 38 (0, 0)) zq11_5 hb); have n3_ := Aside0.mk (below_step zq11_3 hb); clear HO_5; clear BK104; clear BK114; clear HB; have HO_5 := n0_; have BK104 := n1_; have BK114 := n2_; have HB := n3_; clear n0_ n1_ n2_ n3_; (try clear hb); (try clear hb2); (try clear hk); (try clear hi); have hcz35_0 : w34.cell? ⟨gb114, 0, none⟩ = some (.int .i64 ((rd_T38 y108 x33_2).f0)) := (blk_cell BK114.out 0).trans rfl; have hcz35_1 : w34.cell? ⟨gb114, 1, none⟩ = some (.int .i64 ((rd_T38 y108 x33_2).f1)) := (blk_cell BK114.out 1).trans rfl; have hfz35_0 := blk_frozen BK114.out 0; have hfz35_1 := blk_frozen BK114.out 1; have hcz36_0 : w34.cell? ⟨gb104, 0, none⟩ = some (.int .i64 x105000_2) := (blk_cell BK104.out 0).trans rfl; have hcz36_1 : w34.cell? ⟨gb104, 1, none⟩ = some (.int .i64 x105001_2) := (blk_cell BK104.out 1).trans rfl; have hfz36_0 := blk_frozen BK104.out 0; have hfz36_1 := blk_frozen BK104.out 1)))
               go_meet
               case rel => exact ⟨_, (false), zq11_17, H', ⟨by have := HJ1.out; have := HK2.out; first | omega | exact Nat.le_refl _⟩, ⟨by (zq11_6); exact HO_5.out⟩, ⟨by (zq11_1); exact BK104.out⟩, ⟨by (zq11_1); exact BK114.out⟩, ⟨by repeat (first | (with_reducible first | exact HB.out | apply below_alloc | apply pw_below_drewN | apply below_drew1 | refine below_set ?_ GE104.out | refine below_set ?_ GE114.out) | exact HB.out)⟩⟩
              ·rw [if_neg c31] at H
               have c31b0 : (((rd_T38 y108 x33_2).f0) == x105000_2) = false := beq_eq_false_iff_ne.mpr c31
               have c31b1 : (((rd_T38 y108 x33_2).f0) != x105000_2) = true := bne_iff_ne.mpr c31
               have H' := Aside0.mk H
               clear H
               have hnb37 := NB114_104.out
               have hnc37 := NB104_114.out
               have hcz38_0 : w20.cell? ⟨gb114, 0, none⟩ = some (.int .i64 0) := (blk_cell BK114.out 0).trans rfl
               have hcz38_1 : w20.cell? ⟨gb114, 1, none⟩ = some (.int .i64 0) := (blk_cell BK114.out 1).trans rfl
               have hfz38_0 := blk_frozen BK114.out 0
               have hfz38_1 := blk_frozen BK114.out 1
               go_wp2_with (first | (go_at_call 23; (zq11_12); rintro e w39 ⟨rfl, hb⟩; have n0_ := Aside0.mk (Kd.R_below zq11_2 hb); have n1_ := Aside0.mk (blk_below (g := gb104) (o := .cells #[.int .i64 x105000_2, .int .i64 x105001_2] 38 (0, 0)) zq11_9 hb); have n2_ := Aside0.mk (blk_below (g := gb114) (o := .cells #[.int .i64 ((rd_T38 y108 x33_2).f0), .int .i64 ((rd_T38 y108 x33_2).f1)] 38 (0, 0)) zq11_5 hb); have n3_ := Aside0.mk (below_step zq11_3 hb); clear HO_5; clear BK104; clear BK114; clear HB; have HO_5 := n0_; have BK104 := n1_; have BK114 := n2_; have HB := n3_; clear n0_ n1_ n2_ n3_; (try clear hb); (try clear hb2); (try clear hk); (try clear hi); have hcz40_0 : w39.cell? ⟨gb114, 0, none⟩ = some (.int .i64 ((rd_T38 y108 x33_2).f0)) := (blk_cell BK114.out 0).trans rfl; have hcz40_1 : w39.cell? ⟨gb114, 1, none⟩ = some (.int .i64 ((rd_T38 y108 x33_2).f1)) := (blk_cell BK114.out 1).trans rfl; have hfz40_0 := blk_frozen BK114.out 0; have hfz40_1 := blk_frozen BK114.out 1; have hcz41_0 : w39.cell? ⟨gb104, 0, none⟩ = some (.int .i64 x105000_2) := (blk_cell BK104.out 0).trans rfl; have hcz41_1 : w39.cell? ⟨gb104, 1, none⟩ = some (.int .i64 x105001_2) := (blk_cell BK104.out 1).trans rfl; have hfz41_0 := blk_frozen BK104.out 0; have hfz41_1 := blk_frozen BK104.out 1))
               repeat (go_quiet (first | (go_at_call 23; (zq11_12); rintro e w39 ⟨rfl, hb⟩; have n0_ := Aside0.mk (Kd.R_below zq11_2 hb); have n1_ := Aside0.mk (blk_below (g := gb104) (o := .cells #[.int .i64 x105000_2, .int .i64 x105001_2] 38 (0, 0)) zq11_9 hb); have n2_ := Aside0.mk (blk_below (g := gb114) (o := .cells #[.int .i64 ((rd_T38 y108 x33_2).f0), .int .i64 ((rd_T38 y108 x33_2).f1)] 38 (0, 0)) zq11_5 hb); have n3_ := Aside0.mk (below_step zq11_3 hb); clear HO_5; clear BK104; clear BK114; clear HB; have HO_5 := n0_; have BK104 := n1_; have BK114 := n2_; have HB := n3_; clear n0_ n1_ n2_ n3_; (try clear hb); (try clear hb2); (try clear hk); (try clear hi); have hcz40_0 : w39.cell? ⟨gb114, 0, none⟩ = some (.int .i64 ((rd_T38 y108 x33_2).f0)) := (blk_cell BK114.out 0).trans rfl; have hcz40_1 : w39.cell? ⟨gb114, 1, none⟩ = some (.int .i64 ((rd_T38 y108 x33_2).f1)) := (blk_cell BK114.out 1).trans rfl; have hfz40_0 := blk_frozen BK114.out 0; have hfz40_1 := blk_frozen BK114.out 1; have hcz41_0 : w39.cell? ⟨gb104, 0, none⟩ = some (.int .i64 x105000_2) := (blk_cell BK104.out 0).trans rfl; have hcz41_1 : w39.cell? ⟨gb104, 1, none⟩ = some (.int .i64 x105001_2) := (blk_cell BK104.out 1).trans rfl; have hfz41_0 := blk_frozen BK104.out 0; have hfz41_1 := blk_frozen BK104.out 1)); try go_wp2_with (first | (go_at_call 23; (zq11_12); rintro e w39 ⟨rfl, hb⟩; have n0_ := Aside0.mk (Kd.R_below zq11_2 hb); have n1_ := Aside0.mk (blk_below (g := gb104) (o := .cells #[.int .i64 x105000_2, .int .i64 x105001_2] 38 (0, 0)) zq11_9 hb); have n2_ := Aside0.mk (blk_below (g := gb114) (o := .cells #[.int .i64 ((rd_T38 y108 x33_2).f0), .int .i64 ((rd_T38 y108 x33_2).f1)] 38 (0, 0)) zq11_5 hb); have n3_ := Aside0.mk (below_step zq11_3 hb); clear HO_5; clear BK104; clear BK114; clear HB; have HO_5 := n0_; have BK104 := n1_; have BK114 := n2_; have HB := n3_; clear n0_ n1_ n2_ n3_; (try clear hb); (try clear hb2); (try clear hk); (try clear hi); have hcz40_0 : w39.cell? ⟨gb114, 0, none⟩ = some (.int .i64 ((rd_T38 y108 x33_2).f0)) := (blk_cell BK114.out 0).trans rfl; have hcz40_1 : w39.cell? ⟨gb114, 1, none⟩ = some (.int .i64 ((rd_T38 y108 x33_2).f1)) := (blk_cell BK114.out 1).trans rfl; have hfz40_0 := blk_frozen BK114.out 0; have hfz40_1 := blk_frozen BK114.out 1; have hcz41_0 : w39.cell? ⟨gb104, 0, none⟩ = some (.int .i64 x105000_2) := (blk_cell BK104.out 0).trans rfl; have hcz41_1 : w39.cell? ⟨gb104, 1, none⟩ = some (.int .i64 x105001_2) := (blk_cell BK104.out 1).trans rfl; have hfz41_0 := blk_frozen BK104.out 0; have hfz41_1 := blk_frozen BK104.out 1)))
               go_meet
               case rel => exact ⟨_, ((((rd_T38 y108 x33_2).f1) != x105001_2)), zq11_17, H', ⟨by have := HJ1.out; have := HK2.out; first | omega | exact Nat.le_refl _⟩, ⟨by (zq11_6); exact HO_5.out⟩, ⟨by (zq11_1); exact BK104.out⟩, ⟨by (zq11_1); exact BK114.out⟩, ⟨by repeat (first | (with_reducible first | exact HB.out | apply below_alloc | apply pw_below_drewN | apply below_drew1 | refine below_set ?_ GE104.out | refine below_set ?_ GE114.out) | exact HB.out)⟩⟩
            ·replace c24 := Bool.eq_false_iff.mpr c24
             subst c24
             have H1 : (impl_CodeStay.j2 k2 x5_2 y108 (y108.length : Int) x33_2 true x105000_2 x105001_2 ((rd_T38 y108 x33_2).f0) ((rd_T38 y108 x33_2).f1)) = some (r1, r2) := by rw [if_neg (show ¬ (false = true) by decide)] at H; exact H
             clear H
             have H := H1
             clear H1
             have H' := Aside0.mk H
             clear H
             have hnb42 := NB114_104.out
             have hnc42 := NB104_114.out
             have hcz43_0 : w20.cell? ⟨gb114, 0, none⟩ = some (.int .i64 0) := (blk_cell BK114.out 0).trans rfl
             have hcz43_1 : w20.cell? ⟨gb114, 1, none⟩ = some (.int .i64 0) := (blk_cell BK114.out 1).trans rfl
             have hfz43_0 := blk_frozen BK114.out 0
             have hfz43_1 := blk_frozen BK114.out 1
             go_wp2_with (first | (go_at_call 23; (zq11_24); rintro e w44 ⟨rfl, hb⟩; have n0_ := Aside0.mk (Kd.R_below zq11_2 hb); have n1_ := Aside0.mk (blk_below (g := gb104) (o := .cells #[.int .i64 x105000_2, .int .i64 x105001_2] 38 (0, 0)) zq11_9 hb); have n2_ := Aside0.mk (blk_below (g := gb114) (o := .cells #[.int .i64 ((rd_T38 y108 x33_2).f0), .int .i64 ((rd_T38 y108 x33_2).f1)] 38 (0, 0)) zq11_5 hb); have n3_ := Aside0.mk (below_step zq11_3 hb); clear HO_5; clear BK104; clear BK114; clear HB; have HO_5 := n0_; have BK104 := n1_; have BK114 := n2_; have HB := n3_; clear n0_ n1_ n2_ n3_; (try clear hb); (try clear hb2); (try clear hk); (try clear hi)))
             repeat (go_quiet (first | (go_at_call 23; (zq11_24); rintro e w44 ⟨rfl, hb⟩; have n0_ := Aside0.mk (Kd.R_below zq11_2 hb); have n1_ := Aside0.mk (blk_below (g := gb104) (o := .cells #[.int .i64 x105000_2, .int .i64 x105001_2] 38 (0, 0)) zq11_9 hb); have n2_ := Aside0.mk (blk_below (g := gb114) (o := .cells #[.int .i64 ((rd_T38 y108 x33_2).f0), .int .i64 ((rd_T38 y108 x33_2).f1)] 38 (0, 0)) zq11_5 hb); have n3_ := Aside0.mk (below_step zq11_3 hb); clear HO_5; clear BK104; clear BK114; clear HB; have HO_5 := n0_; have BK104 := n1_; have BK114 := n2_; have HB := n3_; clear n0_ n1_ n2_ n3_; (try clear hb); (try clear hb2); (try clear hk); (try clear hi))); try go_wp2_with (first | (go_at_call 23; (zq11_24); rintro e w44 ⟨rfl, hb⟩; have n0_ := Aside0.mk (Kd.R_below zq11_2 hb); have n1_ := Aside0.mk (blk_below (g := gb104) (o := .cells #[.int .i64 x105000_2, .int .i64 x105001_2] 38 (0, 0)) zq11_9 hb); have n2_ := Aside0.mk (blk_below (g := gb114) (o := .cells #[.int .i64 ((rd_T38 y108 x33_2).f0), .int .i64 ((rd_T38 y108 x33_2).f1)] 38 (0, 0)) zq11_5 hb); have n3_ := Aside0.mk (below_step zq11_3 hb); clear HO_5; clear BK104; clear BK114; clear HB; have HO_5 := n0_; have BK104 := n1_; have BK114 := n2_; have HB := n3_; clear n0_ n1_ n2_ n3_; (try clear hb); (try clear hb2); (try clear hk); (try clear hi))))
             go_meet
             case rel => exact ⟨_, (true), zq11_17, H', ⟨by have := HJ1.out; have := HK2.out; first | omega | exact Nat.le_refl _⟩, ⟨by (zq11_6); exact HO_5.out⟩, ⟨by (zq11_1); exact BK104.out⟩, ⟨by (zq11_1); exact BK114.out⟩, ⟨by repeat (first | (with_reducible first | exact HB.out | apply below_alloc | apply pw_below_drewN | apply below_drew1 | refine below_set ?_ GE104.out | refine below_set ?_ GE114.out) | exact HB.out)⟩⟩
           case rest =>
            clear HC19
            try clear c1
            try clear p1
            try clear q1
            try clear hx1
            try clear qi1
            try clear c2
            try clear p2
            try clear c3
            try clear c3b0
            try clear c3b1
            try clear c4
            try clear c4b0
            try clear c4b1
            try clear c5
            try clear c5b0
            try clear c5b1
            try clear c8
            try clear c9
            try clear c9b0
            try clear c9b1
            try clear c10
            try clear c10b0
            try clear c10b1
            try clear p10
            try clear q10
            try clear hx10
            try clear qi10
            try clear p11
            try clear q11
            try clear hx11
            try clear c15
            try clear q15
            try clear c16
            try clear c16b0
            try clear c17
            try clear c17b0
            try clear c18
            try clear c18b0
            try clear c21
            try clear c24
            try clear c25
            try clear c25b0
            try clear c25b1
            try clear c25b2
            try clear c26
            try clear c31
            try clear c31b0
            try clear c31b1
            try clear c32
            try clear c37
            try clear c42
            try clear hcz12_0
            try clear hcz12_1
            try clear hcz22_0
            try clear hcz22_1
            try clear hcz27_0
            try clear hcz27_1
            try clear hcz29_0
            try clear hcz29_1
            try clear hcz30_0
            try clear hcz30_1
            try clear hcz33_0
            try clear hcz33_1
            try clear hcz35_0
            try clear hcz35_1
            try clear hcz36_0
            try clear hcz36_1
            try clear hcz38_0
            try clear hcz38_1
            try clear hcz40_0
            try clear hcz40_1
            try clear hcz41_0
            try clear hcz41_1
            try clear hcz43_0
            try clear hcz43_1
            try clear hfz12_0
            try clear hfz12_1
            try clear hfz22_0
            try clear hfz22_1
            try clear hfz27_0
            try clear hfz27_1
            try clear hfz29_0
            try clear hfz29_1
            try clear hfz30_0
            try clear hfz30_1
            try clear hfz33_0
            try clear hfz33_1
            try clear hfz35_0
            try clear hfz35_1
            try clear hfz36_0
            try clear hfz36_1
            try clear hfz38_0
            try clear hfz38_1
            try clear hfz40_0
            try clear hfz40_1
            try clear hfz41_0
            try clear hfz41_1
            try clear hfz43_0
            try clear hfz43_1
            try clear hx101_0
            try clear hx101_1
            try clear hx103_0
            try clear hx103_1
            try clear hx113_0
            try clear hx113_1
            try clear p1
            try clear p10
            try clear p101
            try clear p103
            try clear p113
            try clear p2
            try clear q1
            try clear q10
            try clear q101
            try clear q103
            try clear q113
            try clear q15
            obtain ⟨kq, x58_18, rfl, HA, HJ18, HO_5, BK104, BK114, HB⟩ := hcut
            cases kq with
            | zero => exact absurd HA.out (by simp [impl_CodeStay.j2])
            | succ kj18 =>
             have H := HA.out
             clear HA
             simp only [impl_CodeStay.j2] at H
             by_cases c45 : x58_18 = true
             ·subst c45
              have H1 : (some (([] : List (S38)), false)) = some (r1, r2) := by rw [if_pos rfl] at H; exact H
              clear H
              have H := H1
              clear H1
              simp only [Option.some.injEq, Prod.mk.injEq] at H
              obtain ⟨rfl, rfl⟩ := H
              go_wp2
              repeat (go_quiet (fail); try go_wp2)
              go_ret2
              exact ⟨_, by first | rfl | (simp [errW_none, errW_some] <;> rfl) | (simp [*, errW_none, errW_some] <;> rfl), by first | exact Kd.R_nil _ _ _ _ _ | exact Kd.N_nil _ _ _ _ _ | exact Kd.V_nil _ _ _ _ _ | exact Kd.Q_nil _ _ _ _ _ | exact Kd.S_nil _ _ _ _ _, by repeat (first | (with_reducible first | exact HB.out | apply below_alloc | apply pw_below_drewN | apply below_drew1 | refine below_set ?_ GE104.out | refine below_set ?_ GE114.out) | exact HB.out)⟩
             ·replace c45 := Bool.eq_false_iff.mpr c45
              subst c45
              have H1 : ((impl_toward.f x105000_2 ((rd_T38 y108 x33_2).f0)).bind fun t116 => ((impl_toward.f x105001_2 ((rd_T38 y108 x33_2).f1)).bind fun t117 => (impl_CodeStay.l1 kj18 x5_2 t116 t117 y108 (y108.length : Int) x33_2 x105000_2 x105001_2 ((rd_T38 y108 x33_2).f0) ((rd_T38 y108 x33_2).f1)))) = some (r1, r2) := by rw [if_neg (show ¬ (false = true) by decide)] at H; exact H
              clear H
              have H := H1
              clear H1
              replace H := Option.bind_eq_some_iff.mp H
              obtain ⟨t116, A460, H⟩ := H
              replace H : ((impl_toward.f x105001_2 ((rd_T38 y108 x33_2).f1)).bind fun t117 => (impl_CodeStay.l1 kj18 x5_2 t116 t117 y108 (y108.length : Int) x33_2 x105000_2 x105001_2 ((rd_T38 y108 x33_2).f0) ((rd_T38 y108 x33_2).f1))) = some (r1, r2) := H
              have A46 := Aside0.mk A460
              clear A460
              replace H := Option.bind_eq_some_iff.mp H
              obtain ⟨t117, A470, H⟩ := H
              replace H : (impl_CodeStay.l1 kj18 x5_2 t116 t117 y108 (y108.length : Int) x33_2 x105000_2 x105001_2 ((rd_T38 y108 x33_2).f0) ((rd_T38 y108 x33_2).f1)) = some (r1, r2) := H
              have A47 := Aside0.mk A470
              clear A470
              have H' := Aside0.mk H
              clear H
              have hnb48 := NB104_114.out
              have hnc48 := NB114_104.out
              have hcz49_0 : wc.cell? ⟨gb104, 0, none⟩ = some (.int .i64 x105000_2) := (blk_cell BK104.out 0).trans rfl
              have hcz49_1 : wc.cell? ⟨gb104, 1, none⟩ = some (.int .i64 x105001_2) := (blk_cell BK104.out 1).trans rfl
              have hfz49_0 := blk_frozen BK104.out 0
              have hfz49_1 := blk_frozen BK104.out 1
              have hcz50_0 : wc.cell? ⟨gb114, 0, none⟩ = some (.int .i64 ((rd_T38 y108 x33_2).f0)) := (blk_cell BK114.out 0).trans rfl
              have hcz50_1 : wc.cell? ⟨gb114, 1, none⟩ = some (.int .i64 ((rd_T38 y108 x33_2).f1)) := (blk_cell BK114.out 1).trans rfl
              have hfz50_0 := blk_frozen BK114.out 0
              have hfz50_1 := blk_frozen BK114.out 1
              go_wp2_with (first | (go_at_call 34; (zq11_28); rintro e w' ⟨rfl, ⟨nd, rfl⟩⟩; (try first | exact ⟨rfl, _, World.drewN_drewN _ _ _⟩ | exact ⟨rfl, _, Eq.trans (World.drewN_drewN _ _ _) (congrArg (World.drewN _) (Nat.add_assoc _ _ _))⟩)) | (go_at_call 34; (zq11_29); rintro e w' ⟨rfl, ⟨nd, rfl⟩⟩; (try first | exact ⟨rfl, _, World.drewN_drewN _ _ _⟩ | exact ⟨rfl, _, Eq.trans (World.drewN_drewN _ _ _) (congrArg (World.drewN _) (Nat.add_assoc _ _ _))⟩)))
              repeat (go_quiet (first | (go_at_call 34; (zq11_28); rintro e w' ⟨rfl, ⟨nd, rfl⟩⟩; (try first | exact ⟨rfl, _, World.drewN_drewN _ _ _⟩ | exact ⟨rfl, _, Eq.trans (World.drewN_drewN _ _ _) (congrArg (World.drewN _) (Nat.add_assoc _ _ _))⟩)) | (go_at_call 34; (zq11_29); rintro e w' ⟨rfl, ⟨nd, rfl⟩⟩; (try first | exact ⟨rfl, _, World.drewN_drewN _ _ _⟩ | exact ⟨rfl, _, Eq.trans (World.drewN_drewN _ _ _) (congrArg (World.drewN _) (Nat.add_assoc _ _ _))⟩))); try go_wp2_with (first | (go_at_call 34; (zq11_28); rintro e w' ⟨rfl, ⟨nd, rfl⟩⟩; (try first | exact ⟨rfl, _, World.drewN_drewN _ _ _⟩ | exact ⟨rfl, _, Eq.trans (World.drewN_drewN _ _ _) (congrArg (World.drewN _) (Nat.add_assoc _ _ _))⟩)) | (go_at_call 34; (zq11_29); rintro e w' ⟨rfl, ⟨nd, rfl⟩⟩; (try first | exact ⟨rfl, _, World.drewN_drewN _ _ _⟩ | exact ⟨rfl, _, Eq.trans (World.drewN_drewN _ _ _) (congrArg (World.drewN _) (Nat.add_assoc _ _ _))⟩))))
              go_loopg [5] kj18 (fun kq v5 w' => ∃ (x5_4 : List (S38)) (x105000_4 : Int) (x105001_4 : Int), Aside0 (impl_CodeStay.l1 kq x5_4 t116 t117 y108 (y108.length : Int) x33_2 x105000_4 x105001_4 ((rd_T38 y108 x33_2).f0) ((rd_T38 y108 x33_2).f1) = some (r1, r2)) ∧ Aside0 (kq ≤ kj18) ∧ Aside0 (Kd.R k38 38 w' w.heap.size (fun k_ => k_ ≠ gb104 ∧ k_ ≠ gb114) v5 x5_4) ∧ Aside0 (w'.heap[gb104]? = some (.cells #[.int .i64 x105000_4, .int .i64 x105001_4] 38 (0, 0))) ∧ Aside0 (w'.heap[gb114]? = some (.cells #[.int .i64 ((rd_T38 y108 x33_2).f0), .int .i64 ((rd_T38 y108 x33_2).f1)] 38 (0, 0))) ∧ Aside0 (Below w.heap.size w w'))
              case atStart => exact ⟨(x5_2), (x105000_2), (x105001_2), H', ⟨Nat.le_refl _⟩, ⟨by (zq11_6); exact HO_5.out⟩, ⟨by (zq11_1); exact BK104.out⟩, ⟨by (zq11_1); exact BK114.out⟩, ⟨by repeat (first | (with_reducible first | exact HB.out | apply below_alloc | apply pw_below_drewN | apply below_drew1 | refine below_set ?_ GE104.out | refine below_set ?_ GE114.out) | exact HB.out)⟩⟩
              case round =>
               clear H'
               try clear c1
               try clear p1
               try clear q1
               try clear hx1
               try clear qi1
               try clear c2
               try clear p2
               try clear c3
               try clear c3b0
               try clear c3b1
               try clear c4
               try clear c4b0
               try clear c4b1
               try clear c5
               try clear c5b0
               try clear c5b1
               try clear c8
               try clear c9
               try clear c9b0
               try clear c9b1
               try clear c10
               try clear c10b0
               try clear c10b1
               try clear p10
               try clear q10
               try clear hx10
               try clear qi10
               try clear p11
               try clear q11
               try clear hx11
               try clear c15
               try clear q15
               try clear c16
               try clear c16b0
               try clear c17
               try clear c17b0
               try clear c18
               try clear c18b0
               try clear c21
               try clear c24
               try clear c25
               try clear c25b0
               try clear c25b1
               try clear c25b2
               try clear c26
               try clear c31
               try clear c31b0
               try clear c31b1
               try clear c32
               try clear c37
               try clear c42
               try clear c45
               try clear c48
               try clear hcz12_0
               try clear hcz12_1
               try clear hcz22_0
               try clear hcz22_1
               try clear hcz27_0
               try clear hcz27_1
               try clear hcz29_0
               try clear hcz29_1
               try clear hcz30_0
               try clear hcz30_1
               try clear hcz33_0
               try clear hcz33_1
               try clear hcz35_0
               try clear hcz35_1
               try clear hcz36_0
               try clear hcz36_1
               try clear hcz38_0
               try clear hcz38_1
               try clear hcz40_0
               try clear hcz40_1
               try clear hcz41_0
               try clear hcz41_1
               try clear hcz43_0
               try clear hcz43_1
               try clear hcz49_0
               try clear hcz49_1
               try clear hcz50_0
               try clear hcz50_1
               try clear hfz12_0
               try clear hfz12_1
               try clear hfz22_0
               try clear hfz22_1
               try clear hfz27_0
               try clear hfz27_1
               try clear hfz29_0
               try clear hfz29_1
               try clear hfz30_0
               try clear hfz30_1
               try clear hfz33_0
               try clear hfz33_1
               try clear hfz35_0
               try clear hfz35_1
               try clear hfz36_0
               try clear hfz36_1
               try clear hfz38_0
               try clear hfz38_1
               try clear hfz40_0
               try clear hfz40_1
               try clear hfz41_0
               try clear hfz41_1
               try clear hfz43_0
               try clear hfz43_1
               try clear hfz49_0
               try clear hfz49_1
               try clear hfz50_0
               try clear hfz50_1
               try clear hx101_0
               try clear hx101_1
               try clear hx103_0
               try clear hx103_1
               try clear hx113_0
               try clear hx113_1
               try clear p1
               try clear p10
               try clear p101
               try clear p103
               try clear p11
               try clear p113
               try clear p2
               try clear q1
               try clear q10
               try clear q101
               try clear q103
               try clear q11
               try clear q113
               try clear q15
               obtain ⟨x5_4, x105000_4, x105001_4, HA, HK4, HO_5, BK104, BK114, HB⟩ := hrel
               cases gk with
               | zero => exact absurd HA.out (by simp [impl_CodeStay.l1])
               | succ k4 =>
                have H := HA.out
                clear HA
                simp only [impl_CodeStay.l1] at H
                by_cases c51 : (!(x105000_4 == ((rd_T38 y108 x33_2).f0)) || (!(x105001_4 == ((rd_T38 y108 x33_2).f1)))) = true
                ·rw [if_pos c51] at H
                 have c51b0 : (!(x105000_4 == ((rd_T38 y108 x33_2).f0)) || (!(x105001_4 == ((rd_T38 y108 x33_2).f1)))) = true := c51
                 clear c51
                 by_cases c52 : x5_4.length < 8796093022208
                 ·rw [if_pos c52] at H
                  have LMc52 := Aside0.mk c52
                  clear c52
                  obtain ⟨y118, hy118⟩ : ∃ y_ : List (S38), y_ = (x5_4 ++ [(⟨wrap64 (x105000_4 + t116), wrap64 (x105001_4 + t117)⟩ : S38)]) := ⟨_, rfl⟩
                  replace H : (impl_CodeStay.l1 k4 y118 t116 t117 y108 (y108.length : Int) x33_2 (wrap64 (x105000_4 + t116)) (wrap64 (x105001_4 + t117)) ((rd_T38 y108 x33_2).f0) ((rd_T38 y108 x33_2).f1)) = some (r1, r2) := by first | (rw [hy118]; with_reducible exact H) | (have H2_ := (Option.bind_some _ _).symm.trans H; rw [hy118]; with_reducible exact H2_) | (have H2_ := (Option.bind_some _ _).symm.trans H; with_reducible exact H2_) | with_reducible exact H | (rw [hy118]; exact H) | exact H
                  have Ny118 := Aside0.mk hy118
                  clear hy118
                  have H' := Aside0.mk H
                  clear H
                  have hnb53 := NB104_114.out
                  have hnc53 := NB114_104.out
                  have hcz54_0 : wr.cell? ⟨gb104, 0, none⟩ = some (.int .i64 x105000_4) := (blk_cell BK104.out 0).trans rfl
                  have hcz54_1 : wr.cell? ⟨gb104, 1, none⟩ = some (.int .i64 x105001_4) := (blk_cell BK104.out 1).trans rfl
                  have hfz54_0 := blk_frozen BK104.out 0
                  have hfz54_1 := blk_frozen BK104.out 1
                  have hcz55_0 : wr.cell? ⟨gb114, 0, none⟩ = some (.int .i64 ((rd_T38 y108 x33_2).f0)) := (blk_cell BK114.out 0).trans rfl
                  have hcz55_1 : wr.cell? ⟨gb114, 1, none⟩ = some (.int .i64 ((rd_T38 y108 x33_2).f1)) := (blk_cell BK114.out 1).trans rfl
                  have hfz55_0 := blk_frozen BK114.out 0
                  have hfz55_1 := blk_frozen BK114.out 1
                  go_wp2_with (first | ((with_reducible refine gate_builtin (b := .append) (xs := #[.tmp 81, .tmp 83]) rfl ?_); (try (refine gate_guard (by rfl) ?_; dsimp only)); at_builtin; refine Kd.R_append k38 (w0 := w) w.heap.size rfl (.tmp 81) (.tmp 83) 24 38 (.agg #[(.int .i64 0), (.int .i64 0)]) 16 rfl Try.underlying24 info38 rfl (by decide) (by omega) u5 x5_4 (⟨wrap64 (x105000_4 + t116), wrap64 (x105001_4 + t117)⟩ : S38) [.int .i64 (wrap64 (x105000_4 + t116)), .int .i64 (wrap64 (x105001_4 + t117))] (fun k_ => k_ ≠ gb104 ∧ k_ ≠ gb114) (fun _ => False) rfl (by first | (go_simp; done) | (go_simp; rfl)) ?aP (fun _ hk => hk.elim) ?aF ?aO ?aB ?aS ?aL ?_; (zq11_30); (case aB => exact zq11_3); (zq11_8); (zq11_13); (case aS => exact (below_size zq11_3)); (case aL => have := LMc52.out; omega); intro v119 w56 ho hb hg hat; rw [← Ny118.out] at ho; have n0_ := Aside0.mk (blk_grown (g := gb104) (o := .cells #[.int .i64 (wrap64 (x105000_4 + t116)), .int .i64 (wrap64 (x105001_4 + t117))] 38 (0, 0)) zq11_15 hg (Kd.R_away HO_5.out (fun _ hk => hk.1))); have n1_ := Aside0.mk (blk_grown (g := gb114) (o := .cells #[.int .i64 ((rd_T38 y108 x33_2).f0), .int .i64 ((rd_T38 y108 x33_2).f1)] 38 (0, 0)) zq11_23 hg (Kd.R_away HO_5.out (fun _ hk => hk.2))); have n2_ := Aside0.mk (hb); have n3_ := Aside0.mk (ho); clear BK104; clear BK114; clear HB; clear HO_5; have BK104 := n0_; have BK114 := n1_; have HB := n2_; have HO120 := n3_; clear n0_ n1_ n2_ n3_; clear ho hb hg hat))
                  repeat (go_quiet (first | ((with_reducible refine gate_builtin (b := .append) (xs := #[.tmp 81, .tmp 83]) rfl ?_); (try (refine gate_guard (by rfl) ?_; dsimp only)); at_builtin; refine Kd.R_append k38 (w0 := w) w.heap.size rfl (.tmp 81) (.tmp 83) 24 38 (.agg #[(.int .i64 0), (.int .i64 0)]) 16 rfl Try.underlying24 info38 rfl (by decide) (by omega) u5 x5_4 (⟨wrap64 (x105000_4 + t116), wrap64 (x105001_4 + t117)⟩ : S38) [.int .i64 (wrap64 (x105000_4 + t116)), .int .i64 (wrap64 (x105001_4 + t117))] (fun k_ => k_ ≠ gb104 ∧ k_ ≠ gb114) (fun _ => False) rfl (by first | (go_simp; done) | (go_simp; rfl)) ?aP (fun _ hk => hk.elim) ?aF ?aO ?aB ?aS ?aL ?_; (zq11_30); (case aB => exact zq11_3); (zq11_8); (zq11_13); (case aS => exact (below_size zq11_3)); (case aL => have := LMc52.out; omega); intro v119 w56 ho hb hg hat; rw [← Ny118.out] at ho; have n0_ := Aside0.mk (blk_grown (g := gb104) (o := .cells #[.int .i64 (wrap64 (x105000_4 + t116)), .int .i64 (wrap64 (x105001_4 + t117))] 38 (0, 0)) zq11_15 hg (Kd.R_away HO_5.out (fun _ hk => hk.1))); have n1_ := Aside0.mk (blk_grown (g := gb114) (o := .cells #[.int .i64 ((rd_T38 y108 x33_2).f0), .int .i64 ((rd_T38 y108 x33_2).f1)] 38 (0, 0)) zq11_23 hg (Kd.R_away HO_5.out (fun _ hk => hk.2))); have n2_ := Aside0.mk (hb); have n3_ := Aside0.mk (ho); clear BK104; clear BK114; clear HB; clear HO_5; have BK104 := n0_; have BK114 := n1_; have HB := n2_; have HO120 := n3_; clear n0_ n1_ n2_ n3_; clear ho hb hg hat)); try go_wp2_with (first | ((with_reducible refine gate_builtin (b := .append) (xs := #[.tmp 81, .tmp 83]) rfl ?_); (try (refine gate_guard (by rfl) ?_; dsimp only)); at_builtin; refine Kd.R_append k38 (w0 := w) w.heap.size rfl (.tmp 81) (.tmp 83) 24 38 (.agg #[(.int .i64 0), (.int .i64 0)]) 16 rfl Try.underlying24 info38 rfl (by decide) (by omega) u5 x5_4 (⟨wrap64 (x105000_4 + t116), wrap64 (x105001_4 + t117)⟩ : S38) [.int .i64 (wrap64 (x105000_4 + t116)), .int .i64 (wrap64 (x105001_4 + t117))] (fun k_ => k_ ≠ gb104 ∧ k_ ≠ gb114) (fun _ => False) rfl (by first | (go_simp; done) | (go_simp; rfl)) ?aP (fun _ hk => hk.elim) ?aF ?aO ?aB ?aS ?aL ?_; (zq11_30); (case aB => exact zq11_3); (zq11_8); (zq11_13); (case aS => exact (below_size zq11_3)); (case aL => have := LMc52.out; omega); intro v119 w56 ho hb hg hat; rw [← Ny118.out] at ho; have n0_ := Aside0.mk (blk_grown (g := gb104) (o := .cells #[.int .i64 (wrap64 (x105000_4 + t116)), .int .i64 (wrap64 (x105001_4 + t117))] 38 (0, 0)) zq11_15 hg (Kd.R_away HO_5.out (fun _ hk => hk.1))); have n1_ := Aside0.mk (blk_grown (g := gb114) (o := .cells #[.int .i64 ((rd_T38 y108 x33_2).f0), .int .i64 ((rd_T38 y108 x33_2).f1)] 38 (0, 0)) zq11_23 hg (Kd.R_away HO_5.out (fun _ hk => hk.2))); have n2_ := Aside0.mk (hb); have n3_ := Aside0.mk (ho); clear BK104; clear BK114; clear HB; clear HO_5; have BK104 := n0_; have BK114 := n1_; have HB := n2_; have HO120 := n3_; clear n0_ n1_ n2_ n3_; clear ho hb hg hat)))
                  go_roundg k4
                  case measure => have := HJ1.out; have := HK2.out; have := HJ18.out; have := HK4.out; omega
                  case rel => exact ⟨(y118), (wrap64 (x105000_4 + t116)), (wrap64 (x105001_4 + t117)), H', ⟨by have := HJ1.out; have := HK2.out; have := HJ18.out; have := HK4.out; omega⟩, ⟨by (zq11_6); exact HO120.out⟩, ⟨by (zq11_1); exact BK104.out⟩, ⟨by (zq11_1); exact BK114.out⟩, ⟨by repeat (first | (with_reducible first | exact HB.out | apply below_alloc | apply pw_below_drewN | apply below_drew1 | refine below_set ?_ GE104.out | refine below_set ?_ GE114.out) | exact HB.out)⟩⟩
                 ·rw [if_neg c52] at H
                  exact absurd H (by simp)
                ·rw [if_neg c51] at H
                 have c51b0 : (!(x105000_4 == ((rd_T38 y108 x33_2).f0)) || (!(x105001_4 == ((rd_T38 y108 x33_2).f1)))) = false := by simpa using c51
                 clear c51
                 have H' := Aside0.mk H
                 clear H
                 have hnb57 := NB104_114.out
                 have hnc57 := NB114_104.out
                 have hcz58_0 : wr.cell? ⟨gb104, 0, none⟩ = some (.int .i64 x105000_4) := (blk_cell BK104.out 0).trans rfl
                 have hcz58_1 : wr.cell? ⟨gb104, 1, none⟩ = some (.int .i64 x105001_4) := (blk_cell BK104.out 1).trans rfl
                 have hfz58_0 := blk_frozen BK104.out 0
                 have hfz58_1 := blk_frozen BK104.out 1
                 have hcz59_0 : wr.cell? ⟨gb114, 0, none⟩ = some (.int .i64 ((rd_T38 y108 x33_2).f0)) := (blk_cell BK114.out 0).trans rfl
                 have hcz59_1 : wr.cell? ⟨gb114, 1, none⟩ = some (.int .i64 ((rd_T38 y108 x33_2).f1)) := (blk_cell BK114.out 1).trans rfl
                 have hfz59_0 := blk_frozen BK114.out 0
                 have hfz59_1 := blk_frozen BK114.out 1
                 go_wp2
                 repeat (go_quiet (fail); try go_wp2)
                 go_roundg k4
                 case measure => have := HJ1.out; have := HK2.out; have := HJ18.out; have := HK4.out; omega
                 case rel => exact ⟨(x5_4), (wrap64 (x33_2 + 1)), (x105000_4), (x105001_4), zq11_17, H', ⟨by have := HJ1.out; have := HK2.out; have := HJ18.out; have := HK4.out; omega⟩, ⟨by (zq11_6); exact Kd.R_mono HO_5.out (fun _ hk => hk.1)⟩, ⟨by (zq11_1); exact BK104.out⟩, ⟨by repeat (first | (with_reducible first | exact HB.out | apply below_alloc | apply pw_below_drewN | apply below_drew1 | refine below_set ?_ GE104.out | refine below_set ?_ GE114.out) | exact HB.out)⟩⟩
          ·rw [if_neg c18] at H
           exact absurd H (by simp)
         ·rw [if_neg c17] at H
          exact absurd H (by simp)
        ·rw [if_neg c16] at H
         have c16b0 : decide (x33_2 < (y108.length : Int)) = false := decide_eq_false c16
         clear c16
         replace H := Option.bind_eq_some_iff.mp H
         obtain ⟨t112, A600, H⟩ := H
         replace H : (if t112 = true then (some (x5_2, true)) else (some (([] : List (S38)), false))) = some (r1, r2) := H
         have A60 := Aside0.mk A600
         clear A600
         by_cases c61 : t112 = true
         ·subst c61
          have H1 : (some (x5_2, true)) = some (r1, r2) := by rw [if_pos rfl] at H; exact H
          clear H
          have H := H1
          clear H1
          simp only [Option.some.injEq, Prod.mk.injEq] at H
          obtain ⟨rfl, rfl⟩ := H
          obtain ⟨Ao62, co62, eo62⟩ := Kd.R_slice HO_5.out
          subst eo62
          go_wp2_with (first | (go_at_call 30; (zq11_32); (zq11_11); (zq11_25); rintro e w63 ⟨rfl, hb⟩; have n0_ := Aside0.mk (Kd.R_below (by (zq11_6); exact HO_5.out) hb); have n1_ := Aside0.mk (blk_below (g := gb104) (o := .cells #[.int .i64 x105000_2, .int .i64 x105001_2] 38 (0, 0)) (by (zq11_1); exact BK104.out) hb); have n2_ := Aside0.mk (below_step zq11_4 hb); clear HO_5; clear BK104; clear HB; have HO_5 := n0_; have BK104 := n1_; have HB := n2_; clear n0_ n1_ n2_; (try clear hb); (try clear hb2); (try clear hk); (try clear hi)))
          repeat (go_quiet (first | (go_at_call 30; (zq11_32); (zq11_11); (zq11_25); rintro e w63 ⟨rfl, hb⟩; have n0_ := Aside0.mk (Kd.R_below (by (zq11_6); exact HO_5.out) hb); have n1_ := Aside0.mk (blk_below (g := gb104) (o := .cells #[.int .i64 x105000_2, .int .i64 x105001_2] 38 (0, 0)) (by (zq11_1); exact BK104.out) hb); have n2_ := Aside0.mk (below_step zq11_4 hb); clear HO_5; clear BK104; clear HB; have HO_5 := n0_; have BK104 := n1_; have HB := n2_; clear n0_ n1_ n2_; (try clear hb); (try clear hb2); (try clear hk); (try clear hi))); try go_wp2_with (first | (go_at_call 30; (zq11_32); (zq11_11); (zq11_25); rintro e w63 ⟨rfl, hb⟩; have n0_ := Aside0.mk (Kd.R_below (by (zq11_6); exact HO_5.out) hb); have n1_ := Aside0.mk (blk_below (g := gb104) (o := .cells #[.int .i64 x105000_2, .int .i64 x105001_2] 38 (0, 0)) (by (zq11_1); exact BK104.out) hb); have n2_ := Aside0.mk (below_step zq11_4 hb); clear HO_5; clear BK104; clear HB; have HO_5 := n0_; have BK104 := n1_; have HB := n2_; clear n0_ n1_ n2_; (try clear hb); (try clear hb2); (try clear hk); (try clear hi))))
          go_ret2
          exact ⟨_, by first | rfl | (simp [errW_none, errW_some] <;> rfl) | (simp [*, errW_none, errW_some] <;> rfl), by (zq11_6); exact Kd.R_mono HO_5.out (fun _ hk => trivial), by repeat (first | (with_reducible first | exact HB.out | apply below_alloc | apply pw_below_drewN | apply below_drew1 | refine below_set ?_ GE104.out) | exact HB.out)⟩
         ·replace c61 := Bool.eq_false_iff.mpr c61
          subst c61
          have H1 : (some (([] : List (S38)), false)) = some (r1, r2) := by rw [if_neg (show ¬ (false = true) by decide)] at H; exact H
          clear H
          have H := H1
          clear H1
          simp only [Option.some.injEq, Prod.mk.injEq] at H
          obtain ⟨rfl, rfl⟩ := H
          obtain ⟨Ao64, co64, eo64⟩ := Kd.R_slice HO_5.out
          subst eo64
          go_wp2_with (first | (go_at_call 30; (zq11_31); (zq11_11); (zq11_25); rintro e w65 ⟨rfl, hb⟩; have n0_ := Aside0.mk (Kd.R_below (by (zq11_6); exact HO_5.out) hb); have n1_ := Aside0.mk (blk_below (g := gb104) (o := .cells #[.int .i64 x105000_2, .int .i64 x105001_2] 38 (0, 0)) (by (zq11_1); exact BK104.out) hb); have n2_ := Aside0.mk (below_step zq11_4 hb); clear HO_5; clear BK104; clear HB; have HO_5 := n0_; have BK104 := n1_; have HB := n2_; clear n0_ n1_ n2_; (try clear hb); (try clear hb2); (try clear hk); (try clear hi)))
          repeat (go_quiet (first | (go_at_call 30; (zq11_31); (zq11_11); (zq11_25); rintro e w65 ⟨rfl, hb⟩; have n0_ := Aside0.mk (Kd.R_below (by (zq11_6); exact HO_5.out) hb); have n1_ := Aside0.mk (blk_below (g := gb104) (o := .cells #[.int .i64 x105000_2, .int .i64 x105001_2] 38 (0, 0)) (by (zq11_1); exact BK104.out) hb); have n2_ := Aside0.mk (below_step zq11_4 hb); clear HO_5; clear BK104; clear HB; have HO_5 := n0_; have BK104 := n1_; have HB := n2_; clear n0_ n1_ n2_; (try clear hb); (try clear hb2); (try clear hk); (try clear hi))); try go_wp2_with (first | (go_at_call 30; (zq11_31); (zq11_11); (zq11_25); rintro e w65 ⟨rfl, hb⟩; have n0_ := Aside0.mk (Kd.R_below (by (zq11_6); exact HO_5.out) hb); have n1_ := Aside0.mk (blk_below (g := gb104) (o := .cells #[.int .i64 x105000_2, .int .i64 x105001_2] 38 (0, 0)) (by (zq11_1); exact BK104.out) hb); have n2_ := Aside0.mk (below_step zq11_4 hb); clear HO_5; clear BK104; clear HB; have HO_5 := n0_; have BK104 := n1_; have HB := n2_; clear n0_ n1_ n2_; (try clear hb); (try clear hb2); (try clear hk); (try clear hi))))
          go_ret2
          exact ⟨_, by first | rfl | (simp [errW_none, errW_some] <;> rfl) | (simp [*, errW_none, errW_some] <;> rfl), by first | exact Kd.R_nil _ _ _ _ _ | exact Kd.N_nil _ _ _ _ _ | exact Kd.V_nil _ _ _ _ _ | exact Kd.Q_nil _ _ _ _ _ | exact Kd.S_nil _ _ _ _ _, by repeat (first | (with_reducible first | exact HB.out | apply below_alloc | apply pw_below_drewN | apply below_drew1 | refine below_set ?_ GE104.out) | exact HB.out)⟩
     ·rw [if_neg c10] at H
      exact absurd H (by simp)
    ·rw [if_neg c9] at H
     exact absurd H (by simp)

end Go.Proofs.Ytdacpdhpifocbaa.P

namespace Go.Proofs.Ytdacpdhpifocbaa.P
open Go.RowKit Go.Proofs.YtdacpdhpifocbaaW.PrintWords Go.Proofs.YtdacpdhpifocbaaW.PrintLast Go.Proofs.YtdacpdhpifocbaaW.PrintMore
attribute [local go_sem] max2_int min2_int max_two min_two max_three min_three max_four min_four   -- for this text's walks alone
set_option linter.unusedVariables false
set_option linter.unusedSimpArgs false

attribute [local go_sem high] eqA38
/-! ### laws_luSame: function 19 -/
def laws_luSame.l0 : Nat → List (S38) → List (S38) → Int → Option (Bool)
  | 0, _, _, _ => none
  | k + 1, x0, x1, x5 => if x5 < (x0.length : Int) then (if 0 ≤ x5 then (if x5 < (x1.length : Int) then (if (!(((rd_T38 x0 x5).f0) == ((rd_T38 x1 x5).f0)) || (!(((rd_T38 x0 x5).f1) == ((rd_T38 x1 x5).f1)))) = true then (some false) else (laws_luSame.l0 k x0 x1 (wrap64 (x5 + 1)))) else (none)) else (none)) else (some true)
def laws_luSame.f (k : Nat) (l0 : List (S38)) (l1 : List (S38)) : Option (Bool) := if (l0.length : Int) = (l1.length : Int) then (laws_luSame.l0 k l0 l1 0) else (some false)
theorem laws_luSame.mono_l : ∀ k, (∀ y0 y1 y2, LeO (laws_luSame.l0 k y0 y1 y2) (laws_luSame.l0 (k + 1) y0 y1 y2))
  | 0 => fun _ _ _ r h => by simp [laws_luSame.l0] at h
  | k + 1 => by
    have ih0 := laws_luSame.mono_l k
    · intro y0 y1 y2
      unfold laws_luSame.l0
      repeat' first
      | (with_reducible exact ih0 _ _ _)
      | (with_reducible exact LeO.refl _)
      | (with_reducible exact LeO.none _)
      | (with_reducible refine LeO.ite ?_ ?_)
      | (with_reducible refine LeO.bind ?_ (fun _ => ?_))
      | exact ih0 _ _ _
      | exact LeO.none _
      | refine LeO.ite ?_ ?_
      | refine LeO.bind ?_ (fun _ => ?_)
theorem laws_luSame.mono : ∀ a0 a1 k, LeO (laws_luSame.f k a0 a1) (laws_luSame.f (k + 1) a0 a1) := by
  intro a0 a1 k
  have ih0 := laws_luSame.mono_l k
  unfold laws_luSame.f
  repeat' first
      | (with_reducible exact ih0 _ _ _)
      | (with_reducible exact LeO.refl _)
      | (with_reducible exact LeO.none _)
      | (with_reducible refine LeO.ite ?_ ?_)
      | (with_reducible refine LeO.bind ?_ (fun _ => ?_))
      | exact ih0 _ _ _
      | exact LeO.none _
      | refine LeO.ite ?_ ?_
      | refine LeO.bind ?_ (fun _ => ?_)
set_option maxHeartbeats 8000000 in
set_option maxRecDepth 100000 in
theorem laws_luSame.calls (k : Nat) (A0 : Option Addr) (c0 : Nat) (l0 : List (S38)) (A1 : Option Addr) (c1 : Nat) (l1 : List (S38)) (r : Bool) (w : World) (hr0 : Kd.C k38 w A0 l0.length l0) (hc0 : l0.length ≤ c0) (hr1 : Kd.C k38 w A1 l1.length l1) (hc1 : l1.length ≤ c1) (h : laws_luSame.f k l0 l1 = some r) :
    Calls Try.prog 19 #[.slice A0 l0.length c0, .slice A1 l1.length c1] w fun e w' => e = .returned (.bool r) ∧ Drawn0 w w' := by
  have hu38 := Try.underlying38
  have HR0 := Aside0.mk hr0
  have HC0 := Aside0.mk hc0
  clear hr0 hc0
  have HR1 := Aside0.mk hr1
  have HC1 := Aside0.mk hc1
  clear hr1 hc1
  have H : (if (l0.length : Int) = (l1.length : Int) then (laws_luSame.l0 k l0 l1 0) else (some false)) = some r := h
  clear h
  by_cases c3 : (l0.length : Int) = (l1.length : Int)
  · rw [if_pos c3] at H
    have c3b0 : ((l0.length : Int) == (l1.length : Int)) = true := beq_iff_eq.mpr c3
    have c3b1 : ((l0.length : Int) != (l1.length : Int)) = false := bne_eq_false_iff_eq.mpr c3
    have c3b2 : (l0.length == l1.length) = true := by first | simpa using c3 | (simp at c3 ⊢; omega)
    clear c3
    have H' := Aside0.mk H
    clear H
    go_enter Try.func19, Try.ntmps19
    go_wp2
    repeat (go_quiet (fail); try go_wp2)
    go_loopg [5] k (fun kq v5 w' => ∃ (x5_1 : Int), v5 = .int .i64 x5_1 ∧ Aside0 (laws_luSame.l0 kq l0 l1 x5_1 = some r) ∧ Aside0 (kq ≤ k) ∧ Drawn0 w w')
    case atStart => exact ⟨(0), (by first | rfl | (simp; done) | (simp [*]; done)), H', ⟨Nat.le_refl _⟩, by repeat (first | exact Drawn0.refl _ | apply Drawn0.step)⟩
    case round =>
      clear H'
      try clear c1
      try clear p2
      try clear c3
      try clear c3b0
      try clear c3b1
      try clear c3b2
      obtain ⟨x5_1, rfl, HA, HK1, ⟨m1, rfl⟩⟩ := hrel
      cases gk with
      | zero => exact absurd HA.out (by simp [laws_luSame.l0])
      | succ k1 =>
        have H := HA.out
        clear HA
        simp only [laws_luSame.l0] at H
        by_cases c4 : x5_1 < (l0.length : Int)
        · rw [if_pos c4] at H
          have c4b0 : decide (x5_1 < (l0.length : Int)) = true := decide_eq_true c4
          clear c4
          by_cases c5 : 0 ≤ x5_1
          · rw [if_pos c5] at H
            have c5b0 : decide (0 ≤ x5_1) = true := decide_eq_true c5
            clear c5
            by_cases c6 : x5_1 < (l1.length : Int)
            · rw [if_pos c6] at H
              have c6b0 : decide (x5_1 < (l1.length : Int)) = true := decide_eq_true c6
              clear c6
              by_cases c7 : (!(((rd_T38 l0 x5_1).f0) == ((rd_T38 l1 x5_1).f0)) || (!(((rd_T38 l0 x5_1).f1) == ((rd_T38 l1 x5_1).f1)))) = true
              · rw [if_pos c7] at H
                have c7b0 : (!(((rd_T38 l0 x5_1).f0) == ((rd_T38 l1 x5_1).f0)) || (!(((rd_T38 l0 x5_1).f1) == ((rd_T38 l1 x5_1).f1)))) = true := c7
                clear c7
                obtain rfl := Option.some.inj H
                have p101 : 0 ≤ (x5_1 : Int) := of_decide_eq_true (by first | (with_reducible assumption) | assumption)
                have q101 : x5_1 < (l0.length : Int) := of_decide_eq_true (by first | (with_reducible assumption) | assumption)
                obtain ⟨ad101, e101, hx101_0, hx101_1⟩ := at_T38 HR0.out x5_1 p101 q101
                cases e101
                replace p101 := eq_true p101
                replace q101 := eq_true q101
                have p102 : 0 ≤ (x5_1 : Int) := of_decide_eq_true (by first | (with_reducible assumption) | assumption)
                have q102 : x5_1 < (l1.length : Int) := of_decide_eq_true (by first | (with_reducible assumption) | assumption)
                obtain ⟨ad102, e102, hx102_0, hx102_1⟩ := at_T38 HR1.out x5_1 p102 q102
                cases e102
                replace p102 := eq_true p102
                replace q102 := eq_true q102
                go_wp2
                repeat (go_quiet (fail); try go_wp2)
                go_ret
                exact ⟨by first | rfl | (simp; done) | (simp [*]; done), by repeat (first | exact Drawn0.refl _ | apply Drawn0.step)⟩
              · rw [if_neg c7] at H
                have c7b0 : (!(((rd_T38 l0 x5_1).f0) == ((rd_T38 l1 x5_1).f0)) || (!(((rd_T38 l0 x5_1).f1) == ((rd_T38 l1 x5_1).f1)))) = false := by simpa using c7
                clear c7
                have H' := Aside0.mk H
                clear H
                have p101 : 0 ≤ (x5_1 : Int) := of_decide_eq_true (by first | (with_reducible assumption) | assumption)
                have q101 : x5_1 < (l0.length : Int) := of_decide_eq_true (by first | (with_reducible assumption) | assumption)
                obtain ⟨ad101, e101, hx101_0, hx101_1⟩ := at_T38 HR0.out x5_1 p101 q101
                cases e101
                replace p101 := eq_true p101
                replace q101 := eq_true q101
                have p102 : 0 ≤ (x5_1 : Int) := of_decide_eq_true (by first | (with_reducible assumption) | assumption)
                have q102 : x5_1 < (l1.length : Int) := of_decide_eq_true (by first | (with_reducible assumption) | assumption)
                obtain ⟨ad102, e102, hx102_0, hx102_1⟩ := at_T38 HR1.out x5_1 p102 q102
                cases e102
                replace p102 := eq_true p102
                replace q102 := eq_true q102
                go_wp2
                repeat (go_quiet (fail); try go_wp2)
                go_roundg k1
                case measure => have := HK1.out; omega
                case rel => exact ⟨(wrap64 (x5_1 + 1)), (by first | rfl | (simp; done) | (simp [*]; done)), H', ⟨by have := HK1.out; omega⟩, by repeat (first | exact Drawn0.refl _ | apply Drawn0.step)⟩
            · rw [if_neg c6] at H
              exact absurd H (by simp)
          · rw [if_neg c5] at H
            exact absurd H (by simp)
        · rw [if_neg c4] at H
          have c4b0 : decide (x5_1 < (l0.length : Int)) = false := decide_eq_false c4
          clear c4
          obtain rfl := Option.some.inj H
          go_wp2
          repeat (go_quiet (fail); try go_wp2)
          go_ret
          exact ⟨by first | rfl | (simp; done) | (simp [*]; done), by repeat (first | exact Drawn0.refl _ | apply Drawn0.step)⟩
  · rw [if_neg c3] at H
    have c3b0 : ((l0.length : Int) == (l1.length : Int)) = false := beq_eq_false_iff_ne.mpr c3
    have c3b1 : ((l0.length : Int) != (l1.length : Int)) = true := bne_iff_ne.mpr c3
    have c3b2 : (l0.length == l1.length) = false := by first | simpa using c3 | (simp at c3 ⊢; omega)
    obtain rfl := Option.some.inj H
    go_enter Try.func19, Try.ntmps19
    go_wp2
    repeat (go_quiet (fail); try go_wp2)
    go_ret
    exact ⟨by first | rfl | (simp; done) | (simp [*]; done), by repeat (first | exact Drawn0.refl _ | apply Drawn0.step)⟩

end Go.Proofs.Ytdacpdhpifocbaa.P

namespace Go.Proofs.Ytdacpdhpifocbaa.P
open Go.RowKit Go.Proofs.YtdacpdhpifocbaaW.PrintWords Go.Proofs.YtdacpdhpifocbaaW.PrintLast Go.Proofs.YtdacpdhpifocbaaW.PrintMore
attribute [local go_sem] max2_int min2_int max_two min_two max_three min_three max_four min_four   -- for this text's walks alone
set_option linter.unusedVariables false
set_option linter.unusedSimpArgs false

/-- A state of type 57 at block g of W; what its slices lead to came in by w0. -/
def IsS57 (w0 W : World) (g : Nat) (f0 : List Int) (f1 : Int) : Prop := ∃ A0 c0, W.heap[g]? = some (.cells #[.slice A0 f0.length c0, .int .i64 f1] 57 (0, 0)) ∧ w0.heap.size ≤ g ∧ Kd.C (Kd.int .u8) w0 A0 f0.length f0
theorem IsS57.grown {w0 W : World} {g : Nat} {f0 : List Int} {f1 : Int} {W1 : World} {row : Option Nat} (h : IsS57 w0 W g f0 f1) (hw : W.grownBy W1 row) (hne : some g ≠ row) : IsS57 w0 W1 g f0 f1 := by
  obtain ⟨A0, c0, hb, hg, hr0⟩ := h
  exact ⟨A0, c0, blk_grown hb hw hne, hg, hr0⟩
theorem IsS57.own_neN {w0 W : World} {g : Nat} {f0 : List Int} {f1 : Int} {α : Type} {d : Kd α} {e : Nat} {base : Nat} {ok : Nat → Prop} {v : Value} {xs : List α} (h : IsS57 w0 W g f0 f1) (ho : Kd.N d e W base ok v xs) (ht : e ≠ 57) : some g ≠ v.ownBlock := by
  obtain ⟨A0, c0, hb, hg, hr0⟩ := h
  exact Kd.N_ne ho hb ht
theorem IsS57.fresh {w0 W : World} {g : Nat} {f0 : List Int} {f1 : Int} (h : IsS57 w0 W g f0 f1) : ∀ k, W.heap.size ≤ k → k ≠ g := by
  obtain ⟨A0, c0, hb, hg, hr0⟩ := h
  exact Kd.freshB hb
theorem IsS57.kept {w0 W : World} {g : Nat} {f0 : List Int} {f1 : Int} {W1 : World} {S : Nat → Prop} (h : IsS57 w0 W g f0 f1) (hk : Kept W W1 S) (hne : ¬ S g) : IsS57 w0 W1 g f0 f1 := by
  obtain ⟨A0, c0, hb, hg, hr0⟩ := h
  exact ⟨A0, c0, blk_kept hb hk hne, hg, hr0⟩
theorem IsS57.below {w0 W : World} {g : Nat} {f0 : List Int} {f1 : Int} {W1 : World} (h : IsS57 w0 W g f0 f1) (hw : Below W.heap.size W W1) : IsS57 w0 W1 g f0 f1 := h.grown (grown_of_below hw none) (by simp)
theorem IsS57.alloc {w0 W : World} {g : Nat} {f0 : List Int} {f1 : Int} (h : IsS57 w0 W g f0 f1) (o : Obj) : IsS57 w0 (W.alloc o) g f0 f1 := h.below (below_alloc (Below.refl _ _) o)
theorem IsS57.drewN {w0 W : World} {g : Nat} {f0 : List Int} {f1 : Int} (h : IsS57 w0 W g f0 f1) (m : Nat) : IsS57 w0 (W.drewN m) g f0 f1 := h
theorem IsS57.drew {w0 W : World} {g : Nat} {f0 : List Int} {f1 : Int} (h : IsS57 w0 W g f0 f1) : IsS57 w0 W.drew g f0 f1 := h
theorem IsS57.at_ {w0 W : World} {g : Nat} {f0 : List Int} {f1 : Int} {w' : World} {m : Nat} (hq : W.drewN m = w') (h : IsS57 w0 W g f0 f1) : IsS57 w0 w' g f0 f1 := by subst hq; exact IsS57.drewN h m
theorem IsS57.apart {w0 W : World} {g : Nat} {f0 : List Int} {f1 : Int} {α : Type} {d : Kd α} {e : Nat} {base : Nat} {ok : Nat → Prop} {v : Value} {xs : List α} (h : IsS57 w0 W g f0 f1) (ho : d.R e W base ok v xs) (ht : ∀ q, q ∈ e :: d.E → q ≠ 57) : d.R e W base (fun k => ok k ∧ k ≠ g) v xs := by
  obtain ⟨A0, c0, hb, hg, hr0⟩ := h
  exact Kd.R_types ho hb ht
theorem IsS57.own_ne {w0 W : World} {g : Nat} {f0 : List Int} {f1 : Int} {α : Type} {d : Kd α} {e : Nat} {base : Nat} {ok : Nat → Prop} {v : Value} {xs : List α} (h : IsS57 w0 W g f0 f1) (ho : d.R e W base ok v xs) (ht : e ≠ 57) : some g ≠ v.ownBlock := by
  obtain ⟨A0, c0, hb, hg, hr0⟩ := h
  exact Kd.R_ne ho hb ht
theorem IsS57.apartQ {w0 W : World} {g : Nat} {f0 : List Int} {f1 : Int} {α : Type} {d : Kd α} {e : Nat} {base : Nat} {ok : Nat → Prop} {v : Value} {xs : List α} (h : IsS57 w0 W g f0 f1) (ho : d.Q e W base ok v xs) (ht : ∀ q, q ∈ e :: d.E → q ≠ 57) : d.Q e W base (fun k => ok k ∧ k ≠ g) v xs := by
  obtain ⟨A0, c0, hb, hg, hr0⟩ := h
  exact Kd.Q_types ho hb ht
theorem IsS57.own_neQ {w0 W : World} {g : Nat} {f0 : List Int} {f1 : Int} {α : Type} {d : Kd α} {e : Nat} {base : Nat} {ok : Nat → Prop} {v : Value} {xs : List α} (h : IsS57 w0 W g f0 f1) (ho : d.Q e W base ok v xs) (ht : e ≠ 57) : some g ≠ v.ownBlock := by
  obtain ⟨A0, c0, hb, hg, hr0⟩ := h
  exact Kd.Q_ne ho hb ht
theorem IsS57.apartS {w0 W : World} {g : Nat} {f0 : List Int} {f1 : Int} {α : Type} {d : Kd α} {e : Nat} {base : Nat} {ok : Nat → Prop} {v : Value} {xs : List α} (h : IsS57 w0 W g f0 f1) (ho : d.S e W base ok v xs) (ht : ∀ q, q ∈ e :: d.E → q ≠ 57) : d.S e W base (fun k => ok k ∧ k ≠ g) v xs := by
  obtain ⟨A0, c0, hb, hg, hr0⟩ := h
  exact Kd.S_types ho hb ht
theorem IsS57.own_neS {w0 W : World} {g : Nat} {f0 : List Int} {f1 : Int} {α : Type} {d : Kd α} {e : Nat} {base : Nat} {ok : Nat → Prop} {v : Value} {xs : List α} (h : IsS57 w0 W g f0 f1) (ho : d.S e W base ok v xs) (ht : e ≠ 57) : some g ≠ v.ownBlock := by
  obtain ⟨A0, c0, hb, hg, hr0⟩ := h
  exact Kd.S_ne ho hb ht
theorem IsS57.lt {w0 W : World} {g : Nat} {f0 : List Int} {f1 : Int} (h : IsS57 w0 W g f0 f1) : g < W.heap.size := by
  obtain ⟨A0, c0, hb, hg, hr0⟩ := h
  exact blk_lt hb
theorem IsS57.ge {w0 W : World} {g : Nat} {f0 : List Int} {f1 : Int} (h : IsS57 w0 W g f0 f1) : w0.heap.size ≤ g := by
  obtain ⟨A0, c0, hb, hg, hr0⟩ := h
  exact hg
theorem IsS57.ne_blk {w0 W : World} {g : Nat} {f0 : List Int} {f1 : Int} {a : Nat} {cs : Array Value} {t : TypeId} {fr : Nat × Nat} (h : IsS57 w0 W g f0 f1) (hb2 : W.heap[a]? = some (.cells cs t fr)) (ht : t ≠ 57) : g ≠ a := by
  obtain ⟨A0, c0, hb, hg, hr0⟩ := h
  rintro rfl
  rw [hb] at hb2
  injection hb2 with hb2
  injection hb2 with _ ht2
  exact ht ht2.symm
theorem IsS57.far {w0 W : World} {g : Nat} {f0 : List Int} {f1 : Int} {p : Addr} (h : IsS57 w0 W g f0 f1) (hne : g ≠ p.block) (u : Value) : IsS57 w0 (W.setCell p u) g f0 f1 := by
  obtain ⟨A0, c0, hb, hg, hr0⟩ := h
  exact ⟨A0, c0, blk_far hb hne u, hg, hr0⟩
theorem cellS57_0 {W : World} {g : Nat} {A0 : Option Addr} {c0 : Nat} {f0 : List Int} {f1 : Int} (h : W.heap[g]? = some (.cells #[.slice A0 f0.length c0, .int .i64 f1] 57 (0, 0))) : W.cell? ⟨g, 0, none⟩ = some (.slice A0 f0.length c0) := (blk_cell h 0).trans rfl
theorem cellS57_1 {W : World} {g : Nat} {A0 : Option Addr} {c0 : Nat} {f0 : List Int} {f1 : Int} (h : W.heap[g]? = some (.cells #[.slice A0 f0.length c0, .int .i64 f1] 57 (0, 0))) : W.cell? ⟨g, 1, none⟩ = some (.int .i64 f1) := (blk_cell h 1).trans rfl
theorem IsS57.set_1 {w0 W : World} {g : Nat} {f0 : List Int} {f1 : Int} (h : IsS57 w0 W g f0 f1) (x : Int) : IsS57 w0 (W.setCell ⟨g, 1, none⟩ (.int .i64 x)) g f0 x := by
  obtain ⟨A0, c0, hb, hg, hr0⟩ := h
  exact ⟨A0, c0, by simpa using blk_set hb 1 (.int .i64 x), hg, hr0⟩
theorem IsS57.new (w0 W : World) (A0 : Option Addr) (c0 : Nat) (f0 : List Int) (f1 : Int) (hB : Below w0.heap.size w0 W) (hr0 : Kd.C (Kd.int .u8) w0 A0 f0.length f0) : IsS57 w0 (W.alloc (.cells #[.slice A0 f0.length c0, .int .i64 f1] 57)) W.heap.size f0 f1 := ⟨A0, c0, by simpa using heap_alloc_new W _, hB.size, hr0⟩

/-! ### spec_l6Rd_pick: function 38 -/
def spec_l6Rd_pick.j0 : Nat → Int → Bool → List Int → Int → Option (Int × Int)
  | 0, _, _, _, _ => none
  | k + 1, x1, x24, x1000, x1001 => if x24 = true then (some (0, x1001)) else (if (wrap64 (x1001 - 1)) < (x1000.length : Int) then (if 0 ≤ (wrap64 (x1001 - 1)) then (if x1 = 0 then (none) else (some (Int.tmod (wrap64 (rd x1000 (wrap64 (x1001 - 1)))) x1, x1001))) else (none)) else (if (x1000.length : Int) = 0 then (none) else (if 0 ≤ (Int.tmod (wrap64 (x1001 - 1)) (x1000.length : Int)) then (if (Int.tmod (wrap64 (x1001 - 1)) (x1000.length : Int)) < (x1000.length : Int) then (if 0 ≤ (Int.tmod (wrap64 ((wrap64 ((wrap64 (x1001 - 1)) * 7)) + 3)) (x1000.length : Int)) then (if (Int.tmod (wrap64 ((wrap64 ((wrap64 (x1001 - 1)) * 7)) + 3)) (x1000.length : Int)) < (x1000.length : Int) then (if x1 = 0 then (none) else (some (Int.tmod (Go.bits .xor .i64 (wrap64 ((wrap64 ((wrap64 ((wrap64 ((wrap64 (rd x1000 (Int.tmod (wrap64 (x1001 - 1)) (x1000.length : Int)))) * 131)) + (wrap64 ((wrap64 (rd x1000 (Int.tmod (wrap64 ((wrap64 ((wrap64 (x1001 - 1)) * 7)) + 3)) (x1000.length : Int)))) * 1117)))) + (wrap64 ((wrap64 (x1001 - 1)) * 29)))) + (wrap64 ((wrap64 (Int.tdiv (wrap64 (x1001 - 1)) (x1000.length : Int))) * 53)))) (wrap64 (Int.tdiv (wrap64 ((wrap64 ((wrap64 ((wrap64 ((wrap64 (rd x1000 (Int.tmod (wrap64 (x1001 - 1)) (x1000.length : Int)))) * 131)) + (wrap64 ((wrap64 (rd x1000 (Int.tmod (wrap64 ((wrap64 ((wrap64 (x1001 - 1)) * 7)) + 3)) (x1000.length : Int)))) * 1117)))) + (wrap64 ((wrap64 (x1001 - 1)) * 29)))) + (wrap64 ((wrap64 (Int.tdiv (wrap64 (x1001 - 1)) (x1000.length : Int))) * 53)))) 64))) x1, x1001))) else (none)) else (none)) else (none)) else (none))))
def spec_l6Rd_pick.f (k : Nat) (s0_0 : List Int) (s0_1 : Int) (a1 : Int) : Option (Int × Int) := if a1 < 1 then (spec_l6Rd_pick.j0 k a1 true s0_0 (wrap64 (s0_1 + 1))) else (spec_l6Rd_pick.j0 k a1 ((s0_0.length : Int) == 0) s0_0 (wrap64 (s0_1 + 1)))
theorem spec_l6Rd_pick.mono_l : ∀ k, (∀ y0 y1 y2 y3, LeO (spec_l6Rd_pick.j0 k y0 y1 y2 y3) (spec_l6Rd_pick.j0 (k + 1) y0 y1 y2 y3))
  | 0 => fun _ _ _ _ r h => by simp [spec_l6Rd_pick.j0] at h
  | k + 1 => by
    have ih0 := spec_l6Rd_pick.mono_l k
    · intro y0 y1 y2 y3
      unfold spec_l6Rd_pick.j0
      repeat' first
      | (with_reducible exact ih0 _ _ _ _)
      | (with_reducible exact LeO.refl _)
      | (with_reducible exact LeO.none _)
      | (with_reducible refine LeO.ite ?_ ?_)
      | (with_reducible refine LeO.bind ?_ (fun _ => ?_))
      | exact ih0 _ _ _ _
      | exact LeO.none _
      | refine LeO.ite ?_ ?_
      | refine LeO.bind ?_ (fun _ => ?_)
theorem spec_l6Rd_pick.mono : ∀ a0 a1 a2 k, LeO (spec_l6Rd_pick.f k a0 a1 a2) (spec_l6Rd_pick.f (k + 1) a0 a1 a2) := by
  intro a0 a1 a2 k
  have ih0 := spec_l6Rd_pick.mono_l k
  unfold spec_l6Rd_pick.f
  repeat' first
      | (with_reducible exact ih0 _ _ _ _)
      | (with_reducible exact LeO.refl _)
      | (with_reducible exact LeO.none _)
      | (with_reducible refine LeO.ite ?_ ?_)
      | (with_reducible refine LeO.bind ?_ (fun _ => ?_))
      | exact ih0 _ _ _ _
      | exact LeO.none _
      | refine LeO.ite ?_ ?_
      | refine LeO.bind ?_ (fun _ => ?_)
set_option maxHeartbeats 8000000 in
set_option maxRecDepth 100000 in
theorem spec_l6Rd_pick.calls (k : Nat) (g : Nat) (s0_0 : List Int) (s0_1 : Int) (a1 : Int) (r1 : Int) (r2 : Int) (w0 w : World) (hI : IsS57 w0 w g s0_0 s0_1) (hB : Below w0.heap.size w0 w) (h : spec_l6Rd_pick.f k s0_0 s0_1 a1 = some (r1, r2)) :
    Calls Try.prog 38 #[.pointer (some ⟨g, 0, none⟩), .int .i64 a1] w fun e w' => e = .returned (.int .i64 r1) ∧ IsS57 w0 w' g s0_0 r2 ∧ Below w0.heap.size w0 w' ∧ KeepBut w w' g none := by
  have HI0 := Aside0.mk hI
  have HK := Aside0.mk (KeepBut.refl w g none)
  have HL := Aside0.mk hB.size
  clear hI
  have HW0 := Aside0.mk hB.size
  have HB := Aside0.mk hB
  clear hB
  have H : (if a1 < 1 then (spec_l6Rd_pick.j0 k a1 true s0_0 (wrap64 (s0_1 + 1))) else (spec_l6Rd_pick.j0 k a1 ((s0_0.length : Int) == 0) s0_0 (wrap64 (s0_1 + 1)))) = some (r1, r2) := h
  clear h
  have HC3 := Aside0.mk H
  clear H
  obtain ⟨ASz4_0, cSz4_0, HGz4, hgz4, HSz4_0⟩ := HI0.out
  have hcz4_0 := cellS57_0 HGz4
  have hcz4_1 := cellS57_1 HGz4
  have hfz4_1 := blk_frozen HGz4 1
  clear HGz4 hgz4
  go_enter Try.func38, Try.ntmps38
  go_upto_region 2 with (fail)
  repeat (go_quiet (fail); go_upto_region 2 with (fail))
  go_cut [24] (fun v24 wc => ∃ (kq : Nat) (x24_2 : Bool), v24 = .bool x24_2 ∧ Aside0 (spec_l6Rd_pick.j0 kq a1 x24_2 s0_0 (wrap64 (s0_1 + 1)) = some (r1, r2)) ∧ Aside0 (kq ≤ k) ∧ Aside0 (IsS57 w0 wc g s0_0 (wrap64 (s0_1 + 1))) ∧ Aside0 (KeepBut w wc g none) ∧ Aside0 (Below w0.heap.size w0 wc))
  case first =>
    have H := HC3.out
    clear HC3
    by_cases c5 : a1 < 1
    · rw [if_pos c5] at H
      have c5b0 : decide (a1 < 1) = true := decide_eq_true c5
      clear c5
      (first | rw [c5b0] | (simp only [i64_w, i32_w]; rw [c5b0]) | skip)
      have H' := Aside0.mk H
      clear H
      go_wp2
      repeat (go_quiet (fail); try go_wp2)
      go_meet
      case rel => exact ⟨_, (true), (by first | rfl | (simp; done) | (simp [*]; done)), H', ⟨by first | omega | exact Nat.le_refl _⟩, ⟨by repeat (first | (with_reducible first | exact HI0.out | apply IsS57.alloc | apply IsS57.drewN | apply IsS57.drew | apply IsS57.set_1) | exact HI0.out)⟩, ⟨by repeat (first | (with_reducible first | exact HK.out | apply KeepBut.set_ | apply keep_drewN | apply keep_drew | apply keep_alloc) | exact HK.out)⟩, ⟨by repeat (first | (with_reducible first | exact HB.out | apply below_alloc | apply pw_below_drewN | apply below_drew1 | refine below_set ?_ (IsS57.ge HI0.out)) | exact HB.out)⟩⟩
    · rw [if_neg c5] at H
      have c5b0 : decide (a1 < 1) = false := decide_eq_false c5
      clear c5
      (first | rw [c5b0] | (simp only [i64_w, i32_w]; rw [c5b0]) | skip)
      have H' := Aside0.mk H
      clear H
      obtain ⟨ASz6_0, cSz6_0, HGz6, hgz6, HSz6_0⟩ := HI0.out
      have hcz6_0 := cellS57_0 HGz6
      have hcz6_1 := cellS57_1 HGz6
      have hfz6_1 := blk_frozen HGz6 1
      clear HGz6 hgz6
      go_wp2
      repeat (go_quiet (fail); try go_wp2)
      go_meet
      case rel => exact ⟨_, (((s0_0.length : Int) == 0)), (by first | rfl | (simp; done) | (simp [*]; done)), H', ⟨by first | omega | exact Nat.le_refl _⟩, ⟨by repeat (first | (with_reducible first | exact HI0.out | apply IsS57.alloc | apply IsS57.drewN | apply IsS57.drew | apply IsS57.set_1) | exact HI0.out)⟩, ⟨by repeat (first | (with_reducible first | exact HK.out | apply KeepBut.set_ | apply keep_drewN | apply keep_drew | apply keep_alloc) | exact HK.out)⟩, ⟨by repeat (first | (with_reducible first | exact HB.out | apply below_alloc | apply pw_below_drewN | apply below_drew1 | refine below_set ?_ (IsS57.ge HI0.out)) | exact HB.out)⟩⟩
  case rest =>
    clear HC3
    try clear p2
    try clear c3
    try clear c5
    try clear c5b0
    try clear p6
    try clear hcz4_0
    try clear hcz4_1
    try clear hcz6_0
    try clear hcz6_1
    try clear hfz4_1
    try clear hfz6_1
    obtain ⟨kq, x24_2, rfl, HA, HJ2, HI0, HK, HB⟩ := hcut
    cases kq with
    | zero => exact absurd HA.out (by simp [spec_l6Rd_pick.j0])
    | succ kj2 =>
      have H := HA.out
      clear HA
      simp only [spec_l6Rd_pick.j0] at H
      by_cases c7 : x24_2 = true
      · subst c7
        have H1 : (some (0, (wrap64 (s0_1 + 1)))) = some (r1, r2) := by rw [if_pos rfl] at H; exact H
        clear H
        have H := H1
        clear H1
        simp only [Option.some.injEq, Prod.mk.injEq] at H
        obtain ⟨rfl, rfl⟩ := H
        go_wp2
        repeat (go_quiet (fail); try go_wp2)
        go_ret
        exact ⟨by first | rfl | (simp [errW_none, errW_some] <;> rfl) | (simp [*, errW_none, errW_some] <;> rfl), by repeat (first | (with_reducible first | exact HI0.out | apply IsS57.alloc | apply IsS57.drewN | apply IsS57.drew | apply IsS57.set_1) | exact HI0.out), by repeat (first | (with_reducible first | exact HB.out | apply below_alloc | apply pw_below_drewN | apply below_drew1 | refine below_set ?_ (IsS57.ge HI0.out)) | exact HB.out), by repeat (first | (with_reducible first | exact HK.out | apply KeepBut.set_ | apply keep_drewN | apply keep_drew | apply keep_alloc) | exact HK.out)⟩
      · replace c7 := Bool.eq_false_iff.mpr c7
        subst c7
        have H1 : (if (wrap64 ((wrap64 (s0_1 + 1)) - 1)) < (s0_0.length : Int) then (if 0 ≤ (wrap64 ((wrap64 (s0_1 + 1)) - 1)) then (if a1 = 0 then (none) else (some (Int.tmod (wrap64 (rd s0_0 (wrap64 ((wrap64 (s0_1 + 1)) - 1)))) a1, (wrap64 (s0_1 + 1))))) else (none)) else (if (s0_0.length : Int) = 0 then (none) else (if 0 ≤ (Int.tmod (wrap64 ((wrap64 (s0_1 + 1)) - 1)) (s0_0.length : Int)) then (if (Int.tmod (wrap64 ((wrap64 (s0_1 + 1)) - 1)) (s0_0.length : Int)) < (s0_0.length : Int) then (if 0 ≤ (Int.tmod (wrap64 ((wrap64 ((wrap64 ((wrap64 (s0_1 + 1)) - 1)) * 7)) + 3)) (s0_0.length : Int)) then (if (Int.tmod (wrap64 ((wrap64 ((wrap64 ((wrap64 (s0_1 + 1)) - 1)) * 7)) + 3)) (s0_0.length : Int)) < (s0_0.length : Int) then (if a1 = 0 then (none) else (some (Int.tmod (Go.bits .xor .i64 (wrap64 ((wrap64 ((wrap64 ((wrap64 ((wrap64 (rd s0_0 (Int.tmod (wrap64 ((wrap64 (s0_1 + 1)) - 1)) (s0_0.length : Int)))) * 131)) + (wrap64 ((wrap64 (rd s0_0 (Int.tmod (wrap64 ((wrap64 ((wrap64 ((wrap64 (s0_1 + 1)) - 1)) * 7)) + 3)) (s0_0.length : Int)))) * 1117)))) + (wrap64 ((wrap64 ((wrap64 (s0_1 + 1)) - 1)) * 29)))) + (wrap64 ((wrap64 (Int.tdiv (wrap64 ((wrap64 (s0_1 + 1)) - 1)) (s0_0.length : Int))) * 53)))) (wrap64 (Int.tdiv (wrap64 ((wrap64 ((wrap64 ((wrap64 ((wrap64 (rd s0_0 (Int.tmod (wrap64 ((wrap64 (s0_1 + 1)) - 1)) (s0_0.length : Int)))) * 131)) + (wrap64 ((wrap64 (rd s0_0 (Int.tmod (wrap64 ((wrap64 ((wrap64 ((wrap64 (s0_1 + 1)) - 1)) * 7)) + 3)) (s0_0.length : Int)))) * 1117)))) + (wrap64 ((wrap64 ((wrap64 (s0_1 + 1)) - 1)) * 29)))) + (wrap64 ((wrap64 (Int.tdiv (wrap64 ((wrap64 (s0_1 + 1)) - 1)) (s0_0.length : Int))) * 53)))) 64))) a1, (wrap64 (s0_1 + 1))))) else (none)) else (none)) else (none)) else (none)))) = some (r1, r2) := by rw [if_neg (show ¬ (false = true) by decide)] at H; exact H
        clear H
        have H := H1
        clear H1
        by_cases c8 : (wrap64 ((wrap64 (s0_1 + 1)) - 1)) < (s0_0.length : Int)
        · rw [if_pos c8] at H
          have c8b0 : decide ((wrap64 ((wrap64 (s0_1 + 1)) - 1)) < (s0_0.length : Int)) = true := decide_eq_true c8
          clear c8
          obtain ⟨ji9, hji9⟩ : ∃ j_ : Int, (wrap64 ((wrap64 (s0_1 + 1)) - 1)) = j_ := ⟨_, rfl⟩
          replace H : (if 0 ≤ (ji9) then (if a1 = 0 then (none) else (some (Int.tmod (wrap64 (rd s0_0 (ji9))) a1, (wrap64 (s0_1 + 1))))) else (none)) = some (r1, r2) := by first | (rw [hji9] at H; exact H) | (simp only [hji9] at H ⊢; exact H)
          (try rw [hji9] at c8b0)
          have hji9w : (IntKind.i64.wrap ((wrap64 (s0_1 + 1)) - 1)) = ji9 := (i64_w _).trans hji9
          by_cases c10 : 0 ≤ (ji9)
          · rw [if_pos c10] at H
            have c10b0 : decide (0 ≤ (ji9)) = true := decide_eq_true c10
            clear c10
            by_cases c11 : a1 = 0
            · rw [if_pos c11] at H
              exact absurd H (by simp)
            · rw [if_neg c11] at H
              have c11b0 : (a1 == 0) = false := beq_eq_false_iff_ne.mpr c11
              have c11b1 : (a1 != 0) = true := bne_iff_ne.mpr c11
              simp only [Option.some.injEq, Prod.mk.injEq] at H
              obtain ⟨rfl, rfl⟩ := H
              obtain ⟨ASz12_0, cSz12_0, HGz12, hgz12, HSz12_0⟩ := HI0.out
              have hcz12_0 := cellS57_0 HGz12
              have hcz12_1 := cellS57_1 HGz12
              have hfz12_1 := blk_frozen HGz12 1
              clear HGz12 hgz12
              have p101 : 0 ≤ ((ji9) : Int) := of_decide_eq_true (by first | (with_reducible assumption) | assumption)
              have q101 : (ji9) < (s0_0.length : Int) := of_decide_eq_true (by first | (with_reducible assumption) | assumption)
              obtain ⟨ad101, e101, hx101_0⟩ := Kd.at_int HSz12_0 (ji9) p101 q101
              cases e101
              replace hx101_0 := pw_cell_below HB.out hx101_0
              replace p101 := eq_true p101
              replace q101 := eq_true q101
              go_wp2
              repeat (go_quiet (fail); try go_wp2)
              go_ret
              exact ⟨by first | rfl | (simp [errW_none, errW_some] <;> rfl) | (simp only [← hji9]; first | rfl | (simp [errW_none, errW_some] <;> rfl)) | (simp [*, errW_none, errW_some] <;> rfl), by repeat (first | (with_reducible first | exact HI0.out | apply IsS57.alloc | apply IsS57.drewN | apply IsS57.drew | apply IsS57.set_1) | exact HI0.out), by repeat (first | (with_reducible first | exact HB.out | apply below_alloc | apply pw_below_drewN | apply below_drew1 | refine below_set ?_ (IsS57.ge HI0.out)) | exact HB.out), by repeat (first | (with_reducible first | exact HK.out | apply KeepBut.set_ | apply keep_drewN | apply keep_drew | apply keep_alloc) | exact HK.out)⟩
          · rw [if_neg c10] at H
            exact absurd H (by simp)
        · rw [if_neg c8] at H
          have c8b0 : decide ((wrap64 ((wrap64 (s0_1 + 1)) - 1)) < (s0_0.length : Int)) = false := decide_eq_false c8
          clear c8
          by_cases c13 : (s0_0.length : Int) = 0
          · rw [if_pos c13] at H
            exact absurd H (by simp)
          · rw [if_neg c13] at H
            have c13b0 : ((s0_0.length : Int) == 0) = false := beq_eq_false_iff_ne.mpr c13
            have c13b1 : ((s0_0.length : Int) != 0) = true := bne_iff_ne.mpr c13
            have c13b2 : ¬ (s0_0 = []) := fun h_ => c13 (by rw [h_]; rfl)
            obtain ⟨ji14, hji14⟩ : ∃ j_ : Int, (Int.tmod (wrap64 ((wrap64 (s0_1 + 1)) - 1)) (s0_0.length : Int)) = j_ := ⟨_, rfl⟩
            replace H : (if 0 ≤ (ji14) then (if (ji14) < (s0_0.length : Int) then (if 0 ≤ (Int.tmod (wrap64 ((wrap64 ((wrap64 ((wrap64 (s0_1 + 1)) - 1)) * 7)) + 3)) (s0_0.length : Int)) then (if (Int.tmod (wrap64 ((wrap64 ((wrap64 ((wrap64 (s0_1 + 1)) - 1)) * 7)) + 3)) (s0_0.length : Int)) < (s0_0.length : Int) then (if a1 = 0 then (none) else (some (Int.tmod (Go.bits .xor .i64 (wrap64 ((wrap64 ((wrap64 ((wrap64 ((wrap64 (rd s0_0 (ji14))) * 131)) + (wrap64 ((wrap64 (rd s0_0 (Int.tmod (wrap64 ((wrap64 ((wrap64 ((wrap64 (s0_1 + 1)) - 1)) * 7)) + 3)) (s0_0.length : Int)))) * 1117)))) + (wrap64 ((wrap64 ((wrap64 (s0_1 + 1)) - 1)) * 29)))) + (wrap64 ((wrap64 (Int.tdiv (wrap64 ((wrap64 (s0_1 + 1)) - 1)) (s0_0.length : Int))) * 53)))) (wrap64 (Int.tdiv (wrap64 ((wrap64 ((wrap64 ((wrap64 ((wrap64 (rd s0_0 (ji14))) * 131)) + (wrap64 ((wrap64 (rd s0_0 (Int.tmod (wrap64 ((wrap64 ((wrap64 ((wrap64 (s0_1 + 1)) - 1)) * 7)) + 3)) (s0_0.length : Int)))) * 1117)))) + (wrap64 ((wrap64 ((wrap64 (s0_1 + 1)) - 1)) * 29)))) + (wrap64 ((wrap64 (Int.tdiv (wrap64 ((wrap64 (s0_1 + 1)) - 1)) (s0_0.length : Int))) * 53)))) 64))) a1, (wrap64 (s0_1 + 1))))) else (none)) else (none)) else (none)) else (none)) = some (r1, r2) := by first | (rw [hji14] at H; exact H) | (simp only [hji14] at H ⊢; exact H)
            by_cases c15 : 0 ≤ (ji14)
            · rw [if_pos c15] at H
              have c15b0 : decide (0 ≤ (ji14)) = true := decide_eq_true c15
              clear c15
              by_cases c16 : (ji14) < (s0_0.length : Int)
              · rw [if_pos c16] at H
                have c16b0 : decide ((ji14) < (s0_0.length : Int)) = true := decide_eq_true c16
                clear c16
                obtain ⟨ji17, hji17⟩ : ∃ j_ : Int, (Int.tmod (wrap64 ((wrap64 ((wrap64 ((wrap64 (s0_1 + 1)) - 1)) * 7)) + 3)) (s0_0.length : Int)) = j_ := ⟨_, rfl⟩
                replace H : (if 0 ≤ (ji17) then (if (ji17) < (s0_0.length : Int) then (if a1 = 0 then (none) else (some (Int.tmod (Go.bits .xor .i64 (wrap64 ((wrap64 ((wrap64 ((wrap64 ((wrap64 (rd s0_0 (ji14))) * 131)) + (wrap64 ((wrap64 (rd s0_0 (ji17))) * 1117)))) + (wrap64 ((wrap64 ((wrap64 (s0_1 + 1)) - 1)) * 29)))) + (wrap64 ((wrap64 (Int.tdiv (wrap64 ((wrap64 (s0_1 + 1)) - 1)) (s0_0.length : Int))) * 53)))) (wrap64 (Int.tdiv (wrap64 ((wrap64 ((wrap64 ((wrap64 ((wrap64 (rd s0_0 (ji14))) * 131)) + (wrap64 ((wrap64 (rd s0_0 (ji17))) * 1117)))) + (wrap64 ((wrap64 ((wrap64 (s0_1 + 1)) - 1)) * 29)))) + (wrap64 ((wrap64 (Int.tdiv (wrap64 ((wrap64 (s0_1 + 1)) - 1)) (s0_0.length : Int))) * 53)))) 64))) a1, (wrap64 (s0_1 + 1))))) else (none)) else (none)) = some (r1, r2) := by first | (rw [hji17] at H; exact H) | (simp only [hji17] at H ⊢; exact H)
                by_cases c18 : 0 ≤ (ji17)
                · rw [if_pos c18] at H
                  have c18b0 : decide (0 ≤ (ji17)) = true := decide_eq_true c18
                  clear c18
                  by_cases c19 : (ji17) < (s0_0.length : Int)
                  · rw [if_pos c19] at H
                    have c19b0 : decide ((ji17) < (s0_0.length : Int)) = true := decide_eq_true c19
                    clear c19
                    by_cases c20 : a1 = 0
                    · rw [if_pos c20] at H
                      exact absurd H (by simp)
                    · rw [if_neg c20] at H
                      have c20b0 : (a1 == 0) = false := beq_eq_false_iff_ne.mpr c20
                      have c20b1 : (a1 != 0) = true := bne_iff_ne.mpr c20
                      simp only [Option.some.injEq, Prod.mk.injEq] at H
                      obtain ⟨rfl, rfl⟩ := H
                      obtain ⟨ASz21_0, cSz21_0, HGz21, hgz21, HSz21_0⟩ := HI0.out
                      have hcz21_0 := cellS57_0 HGz21
                      have hcz21_1 := cellS57_1 HGz21
                      have hfz21_1 := blk_frozen HGz21 1
                      clear HGz21 hgz21
                      have p102 : 0 ≤ ((ji14) : Int) := of_decide_eq_true (by first | (with_reducible assumption) | assumption)
                      have q102 : (ji14) < (s0_0.length : Int) := of_decide_eq_true (by first | (with_reducible assumption) | assumption)
                      obtain ⟨ad102, e102, hx102_0⟩ := Kd.at_int HSz21_0 (ji14) p102 q102
                      cases e102
                      replace hx102_0 := pw_cell_below HB.out hx102_0
                      replace p102 := eq_true p102
                      replace q102 := eq_true q102
                      have p103 : 0 ≤ ((ji17) : Int) := of_decide_eq_true (by first | (with_reducible assumption) | assumption)
                      have q103 : (ji17) < (s0_0.length : Int) := of_decide_eq_true (by first | (with_reducible assumption) | assumption)
                      obtain ⟨ad103, e103, hx103_0⟩ := Kd.at_int HSz21_0 (ji17) p103 q103
                      obtain rfl : ad102 = ad103 := (by injection e103)
                      replace hx103_0 := pw_cell_below HB.out hx103_0
                      replace p103 := eq_true p103
                      replace q103 := eq_true q103
                      go_wp2
                      repeat (go_quiet (fail); try go_wp2)
                      go_ret
                      exact ⟨by first | rfl | (simp [errW_none, errW_some] <;> rfl) | (simp only [← hji14, ← hji17]; first | rfl | (simp [errW_none, errW_some] <;> rfl)) | (simp [*, errW_none, errW_some] <;> rfl), by repeat (first | (with_reducible first | exact HI0.out | apply IsS57.alloc | apply IsS57.drewN | apply IsS57.drew | apply IsS57.set_1) | exact HI0.out), by repeat (first | (with_reducible first | exact HB.out | apply below_alloc | apply pw_below_drewN | apply below_drew1 | refine below_set ?_ (IsS57.ge HI0.out)) | exact HB.out), by repeat (first | (with_reducible first | exact HK.out | apply KeepBut.set_ | apply keep_drewN | apply keep_drew | apply keep_alloc) | exact HK.out)⟩
                  · rw [if_neg c19] at H
                    exact absurd H (by simp)
                · rw [if_neg c18] at H
                  exact absurd H (by simp)
              · rw [if_neg c16] at H
                exact absurd H (by simp)
            · rw [if_neg c15] at H
              exact absurd H (by simp)

end Go.Proofs.Ytdacpdhpifocbaa.P

namespace Go.Proofs.Ytdacpdhpifocbaa.P
open Go.RowKit Go.Proofs.YtdacpdhpifocbaaW.PrintWords Go.Proofs.YtdacpdhpifocbaaW.PrintLast Go.Proofs.YtdacpdhpifocbaaW.PrintMore
attribute [local go_sem] max2_int min2_int max_two min_two max_three min_three max_four min_four   -- for this text's walks alone
set_option linter.unusedVariables false
set_option linter.unusedSimpArgs false

/-! ### spec_l71Pt: function 39 -/
def spec_l71Pt.f (k : Nat) (s0_0 : List Int) (s0_1 : Int) : Option (Int × Int × Int) := (spec_l6Rd_pick.f k s0_0 s0_1 10).bind fun bt102 => ((spec_l6Rd_pick.f k s0_0 bt102.2 10).bind fun bt104 => ((spec_l6Rd_pick.f k s0_0 bt104.2 40).bind fun bt107 => (if bt107.1 = 0 then ((some (([(-1), 10] : List Int) : List Int)).bind fun y109 => ((spec_l6Rd_pick.f k s0_0 bt107.2 2).bind fun bt112 => (if 0 ≤ bt112.1 then (if bt112.1 < (y109.length : Int) then (some (rd y109 bt112.1, bt104.1, bt112.2)) else (none)) else (none)))) else (if bt107.1 = 1 then ((some (([(-1), 10] : List Int) : List Int)).bind fun y115 => ((spec_l6Rd_pick.f k s0_0 bt107.2 2).bind fun bt118 => (if 0 ≤ bt118.1 then (if bt118.1 < (y115.length : Int) then (some (bt102.1, rd y115 bt118.1, bt118.2)) else (none)) else (none)))) else (some (bt102.1, bt104.1, bt107.2))))))
theorem spec_l71Pt.mono : ∀ a0 a1 k, LeO (spec_l71Pt.f k a0 a1) (spec_l71Pt.f (k + 1) a0 a1) := by
  intro a0 a1 k
  unfold spec_l71Pt.f
  repeat' first
      | (with_reducible exact spec_l6Rd_pick.mono _ _ _ _)
      | (with_reducible exact LeO.refl _)
      | (with_reducible exact LeO.none _)
      | (with_reducible refine LeO.ite ?_ ?_)
      | (with_reducible refine LeO.bind ?_ (fun _ => ?_))
      | exact spec_l6Rd_pick.mono _ _ _ _
      | exact LeO.none _
      | refine LeO.ite ?_ ?_
      | refine LeO.bind ?_ (fun _ => ?_)
set_option hygiene false in
local macro "zq14_1" : tactic => `(tactic| (with_reducible repeat (first | refine blk_drewN ?_ _ | refine blk_drew ?_ | refine blk_alloc ?_ _)))
set_option hygiene false in
local macro "zq14_2" : term => `((by repeat (first | (with_reducible first | exact HK.out | apply KeepBut.set_ | apply keep_drewN | apply keep_drew | apply keep_alloc | refine keep_far ?_ GW101.out _) | exact HK.out)))
set_option hygiene false in
local macro "zq14_3" : term => `((by repeat (first | (with_reducible first | exact HK.out | apply KeepBut.set_ | apply keep_drewN | apply keep_drew | apply keep_alloc | refine keep_far ?_ GW101.out _ | refine keep_far ?_ GW106.out _) | exact HK.out)))
set_option hygiene false in
local macro "zq14_4" : term => `((by (try simp only [List.map_toArray, List.map_cons, List.map_nil]); first | done | rfl | (simp only [List.length_drop, List.length_take]; rfl)))
set_option hygiene false in
local macro "zq14_6" : tactic => `(tactic| (case side2 => repeat (first | (with_reducible first | exact HB.out | apply below_alloc | apply pw_below_drewN | apply below_drew1 | refine below_set ?_ (IsS57.ge HI0.out) | refine below_set ?_ GE101.out) | exact HB.out)))
set_option hygiene false in
local macro "zq14_7" : tactic => `(tactic| (case side2 => repeat (first | (with_reducible first | exact HB.out | apply below_alloc | apply pw_below_drewN | apply below_drew1 | refine below_set ?_ (IsS57.ge HI0.out) | refine below_set ?_ GE101.out | refine below_set ?_ GE106.out) | exact HB.out)))
set_option hygiene false in
local macro "zq14_8" : tactic => `(tactic| (case side1 => repeat (first | (with_reducible first | exact HI0.out | apply IsS57.alloc | apply IsS57.drewN | apply IsS57.drew | apply IsS57.set_1 | refine IsS57.far ?_ NB0_101.out _) | exact HI0.out)))
set_option hygiene false in
local macro "zq14_9" : tactic => `(tactic| (case side1 => repeat (first | (with_reducible first | exact HI0.out | apply IsS57.alloc | apply IsS57.drewN | apply IsS57.drew | apply IsS57.set_1 | refine IsS57.far ?_ NB0_101.out _ | refine IsS57.far ?_ NB0_106.out _) | exact HI0.out)))
set_option hygiene false in
local macro "zq14_10" : term => `((by rw [hg]; exact Nat.ne_of_lt (IsS57.lt (show IsS57 w0 _ g s0_0 t105 from by repeat (first | (with_reducible first | exact HI0.out | apply IsS57.alloc | apply IsS57.drewN | apply IsS57.drew | apply IsS57.set_1 | refine IsS57.far ?_ NB0_101.out _) | exact HI0.out))) : g ≠ gb106))
set_option hygiene false in
local macro "zq14_11" : term => `((by rw [hg]; exact Nat.ne_of_gt (IsS57.lt (show IsS57 w0 _ g s0_0 t105 from by repeat (first | (with_reducible first | exact HI0.out | apply IsS57.alloc | apply IsS57.drewN | apply IsS57.drew | apply IsS57.set_1 | refine IsS57.far ?_ NB0_101.out _) | exact HI0.out))) : gb106 ≠ g))
set_option hygiene false in
local macro "zq14_12" : term => `((by rw [hg]; exact Nat.ne_of_lt (IsS57.lt (show IsS57 w0 _ g s0_0 s0_1 from by repeat (first | (with_reducible first | exact HI0.out | apply IsS57.alloc | apply IsS57.drewN | apply IsS57.drew | apply IsS57.set_1) | exact HI0.out))) : g ≠ gb101))
set_option hygiene false in
local macro "zq14_13" : term => `((by rw [hg]; exact Nat.ne_of_gt (IsS57.lt (show IsS57 w0 _ g s0_0 s0_1 from by repeat (first | (with_reducible first | exact HI0.out | apply IsS57.alloc | apply IsS57.drewN | apply IsS57.drew | apply IsS57.set_1) | exact HI0.out))) : gb101 ≠ g))
set_option hygiene false in
local macro "zq14_15" : term => `((by repeat (first | (with_reducible first | exact HB.out | apply below_alloc | apply pw_below_drewN | apply below_drew1 | refine below_set ?_ (IsS57.ge HI0.out) | refine below_set ?_ GE101.out) | exact HB.out)))
set_option hygiene false in
local macro "zq14_16" : term => `((by repeat (first | (with_reducible first | exact HI0.out | apply IsS57.alloc | apply IsS57.drewN | apply IsS57.drew | apply IsS57.set_1 | refine IsS57.far ?_ NB0_101.out _) | exact HI0.out)))
set_option hygiene false in
local macro "zq14_18" : term => `((by repeat (first | (with_reducible first | exact HB.out | apply below_alloc | apply pw_below_drewN | apply below_drew1 | refine below_set ?_ (IsS57.ge HI0.out)) | exact HB.out)))
set_option hygiene false in
local macro "zq14_19" : tactic => `(tactic| (case hr => first | (go_simp; done) | (go_simp; rfl)))
set_option hygiene false in
local macro "zq14_20" : term => `((by repeat (first | (with_reducible first | exact HI0.out | apply IsS57.alloc | apply IsS57.drewN | apply IsS57.drew | apply IsS57.set_1) | exact HI0.out)))
set_option hygiene false in
local macro "zq14_23" : term => `((by repeat (first | (with_reducible first | exact HK.out | apply KeepBut.set_ | apply keep_drewN | apply keep_drew | apply keep_alloc) | exact HK.out)))
set_option hygiene false in
local macro "zq14_24" : term => `((by repeat (first | (with_reducible first | exact HB.out | apply below_alloc | apply pw_below_drewN | apply below_drew1 | refine below_set ?_ (IsS57.ge HI0.out) | refine below_set ?_ GE101.out | refine below_set ?_ GE106.out) | exact HB.out)))
set_option hygiene false in
local macro "zq14_26" : term => `((by repeat (first | (with_reducible first | exact HI0.out | apply IsS57.alloc | apply IsS57.drewN | apply IsS57.drew | apply IsS57.set_1 | refine IsS57.far ?_ NB0_101.out _ | refine IsS57.far ?_ NB0_106.out _) | exact HI0.out)))
set_option hygiene false in
local macro "zq14_27" : tactic => `(tactic| (with_reducible refine (spec_l6Rd_pick.calls k g s0_0 s0_1 10 t102 t103 w0 _ ?side1 ?side2 A2.out).mono ?_))
set_option hygiene false in
local macro "zq14_28" : tactic => `(tactic| (with_reducible refine (spec_l6Rd_pick.calls k g s0_0 t103 10 t104 t105 w0 _ ?side1 ?side2 A3.out).mono ?_))
set_option hygiene false in
local macro "zq14_29" : tactic => `(tactic| (with_reducible refine (spec_l6Rd_pick.calls k g s0_0 t105 40 t107 t108 w0 _ ?side1 ?side2 A4.out).mono ?_))
set_option hygiene false in
local macro "zq14_30" : tactic => `(tactic| (case hp => exact (Reps.one (show Kd.M (Kd.int .i64) _ _ _ (-1) [.int .i64 (-1)] from rfl) (Reps.one (show Kd.M (Kd.int .i64) _ _ _ 10 [.int .i64 10] from rfl) (Reps.none _ _)))))
set_option hygiene false in
local macro "zq14_5" : term => `((by rw [hg]; exact (keep_size (w := w) (g := g) (row := none) zq14_23) : w.heap.size ≤ gb101))
set_option hygiene false in
local macro "zq14_14" : term => `((by rw [hg]; exact (keep_size (w := w) (g := g) (row := none) zq14_2) : w.heap.size ≤ gb106))
set_option hygiene false in
local macro "zq14_17" : term => `((by (zq14_1); refine blk_put (cs := #[.int .i64 t102, .int .i64 0]) ?_ 1 _ rfl; (zq14_1); refine blk_put (cs := #[.int .i64 0, .int .i64 0]) ?_ 0 _ rfl; (zq14_1); exact BK106.out))
set_option hygiene false in
local macro "zq14_21" : term => `((by rw [hg]; exact Nat.ne_of_lt (blk_lt (g := gb101) (o := .cells #[.int .i64 0, .int .i64 0] 38 (0, 0)) (by (zq14_1); exact BK101.out)) : gb101 ≠ gb106))
set_option hygiene false in
local macro "zq14_22" : term => `((by rw [hg]; exact Nat.ne_of_gt (blk_lt (g := gb101) (o := .cells #[.int .i64 0, .int .i64 0] 38 (0, 0)) (by (zq14_1); exact BK101.out)) : gb106 ≠ gb101))
set_option hygiene false in
local macro "zq14_25" : term => `((by (zq14_1); refine blk_far ?_ NB101_106.out _; (zq14_1); refine blk_far ?_ NB101_106.out _; (zq14_1); exact BK101.out))
set_option maxHeartbeats 8000000 in
set_option maxRecDepth 100000 in
theorem spec_l71Pt.calls (k : Nat) (g : Nat) (s0_0 : List Int) (s0_1 : Int) (r1 : Int) (r2 : Int) (r3 : Int) (w0 w : World) (hI : IsS57 w0 w g s0_0 s0_1) (hB : Below w0.heap.size w0 w) (h : spec_l71Pt.f k s0_0 s0_1 = some (r1, r2, r3)) :
  Calls Try.prog 39 #[.pointer (some ⟨g, 0, none⟩)] w fun e w' => e = .returned (.agg #[.int .i64 r1, .int .i64 r2]) ∧ IsS57 w0 w' g s0_0 r3 ∧ Below w0.heap.size w0 w' ∧ KeepBut w w' g none := by
 have hu38 := Try.underlying38
 have HI0 := Aside0.mk hI
 have HK := Aside0.mk (KeepBut.refl w g none)
 have HL := Aside0.mk hB.size
 clear hI
 have HW0 := Aside0.mk hB.size
 have HB := Aside0.mk hB
 clear hB
 have H : ((spec_l6Rd_pick.f k s0_0 s0_1 10).bind fun bt102 => ((spec_l6Rd_pick.f k s0_0 bt102.2 10).bind fun bt104 => ((spec_l6Rd_pick.f k s0_0 bt104.2 40).bind fun bt107 => (if bt107.1 = 0 then ((some (([(-1), 10] : List Int) : List Int)).bind fun y109 => ((spec_l6Rd_pick.f k s0_0 bt107.2 2).bind fun bt112 => (if 0 ≤ bt112.1 then (if bt112.1 < (y109.length : Int) then (some (rd y109 bt112.1, bt104.1, bt112.2)) else (none)) else (none)))) else (if bt107.1 = 1 then ((some (([(-1), 10] : List Int) : List Int)).bind fun y115 => ((spec_l6Rd_pick.f k s0_0 bt107.2 2).bind fun bt118 => (if 0 ≤ bt118.1 then (if bt118.1 < (y115.length : Int) then (some (bt102.1, rd y115 bt118.1, bt118.2)) else (none)) else (none)))) else (some (bt102.1, bt104.1, bt107.2))))))) = some (r1, r2, r3) := h
 clear h
 replace H := Option.bind_eq_some_iff.mp H
 obtain ⟨⟨t102, t103⟩, A20, H⟩ := H
 replace H : ((spec_l6Rd_pick.f k s0_0 t103 10).bind fun bt104 => ((spec_l6Rd_pick.f k s0_0 bt104.2 40).bind fun bt107 => (if bt107.1 = 0 then ((some (([(-1), 10] : List Int) : List Int)).bind fun y109 => ((spec_l6Rd_pick.f k s0_0 bt107.2 2).bind fun bt112 => (if 0 ≤ bt112.1 then (if bt112.1 < (y109.length : Int) then (some (rd y109 bt112.1, bt104.1, bt112.2)) else (none)) else (none)))) else (if bt107.1 = 1 then ((some (([(-1), 10] : List Int) : List Int)).bind fun y115 => ((spec_l6Rd_pick.f k s0_0 bt107.2 2).bind fun bt118 => (if 0 ≤ bt118.1 then (if bt118.1 < (y115.length : Int) then (some (t102, rd y115 bt118.1, bt118.2)) else (none)) else (none)))) else (some (t102, bt104.1, bt107.2)))))) = some (r1, r2, r3) := H
 have A2 := Aside0.mk A20
 clear A20
 replace H := Option.bind_eq_some_iff.mp H
 obtain ⟨⟨t104, t105⟩, A30, H⟩ := H
 replace H : ((spec_l6Rd_pick.f k s0_0 t105 40).bind fun bt107 => (if bt107.1 = 0 then ((some (([(-1), 10] : List Int) : List Int)).bind fun y109 => ((spec_l6Rd_pick.f k s0_0 bt107.2 2).bind fun bt112 => (if 0 ≤ bt112.1 then (if bt112.1 < (y109.length : Int) then (some (rd y109 bt112.1, t104, bt112.2)) else (none)) else (none)))) else (if bt107.1 = 1 then ((some (([(-1), 10] : List Int) : List Int)).bind fun y115 => ((spec_l6Rd_pick.f k s0_0 bt107.2 2).bind fun bt118 => (if 0 ≤ bt118.1 then (if bt118.1 < (y115.length : Int) then (some (t102, rd y115 bt118.1, bt118.2)) else (none)) else (none)))) else (some (t102, t104, bt107.2))))) = some (r1, r2, r3) := H
 have A3 := Aside0.mk A30
 clear A30
 replace H := Option.bind_eq_some_iff.mp H
 obtain ⟨⟨t107, t108⟩, A40, H⟩ := H
 replace H : (if t107 = 0 then ((some (([(-1), 10] : List Int) : List Int)).bind fun y109 => ((spec_l6Rd_pick.f k s0_0 t108 2).bind fun bt112 => (if 0 ≤ bt112.1 then (if bt112.1 < (y109.length : Int) then (some (rd y109 bt112.1, t104, bt112.2)) else (none)) else (none)))) else (if t107 = 1 then ((some (([(-1), 10] : List Int) : List Int)).bind fun y115 => ((spec_l6Rd_pick.f k s0_0 t108 2).bind fun bt118 => (if 0 ≤ bt118.1 then (if bt118.1 < (y115.length : Int) then (some (t102, rd y115 bt118.1, bt118.2)) else (none)) else (none)))) else (some (t102, t104, t108)))) = some (r1, r2, r3) := H
 have A4 := Aside0.mk A40
 clear A40
 by_cases c5 : t107 = 0
 ·rw [if_pos c5] at H
  have c5b0 : (t107 == 0) = true := beq_iff_eq.mpr c5
  have c5b1 : (t107 != 0) = false := bne_eq_false_iff_eq.mpr c5
  clear c5
  obtain ⟨y109, hy109⟩ : ∃ y_ : List Int, y_ = (([(-1), 10] : List Int)) := ⟨_, rfl⟩
  replace H : ((spec_l6Rd_pick.f k s0_0 t108 2).bind fun bt112 => (if 0 ≤ bt112.1 then (if bt112.1 < (y109.length : Int) then (some (rd y109 bt112.1, t104, bt112.2)) else (none)) else (none))) = some (r1, r2, r3) := by first | (rw [hy109]; with_reducible exact H) | (have H2_ := (Option.bind_some _ _).symm.trans H; rw [hy109]; with_reducible exact H2_) | (have H2_ := (Option.bind_some _ _).symm.trans H; with_reducible exact H2_) | with_reducible exact H | (rw [hy109]; exact H) | exact H
  have Ny109 := Aside0.mk hy109
  clear hy109
  replace H := Option.bind_eq_some_iff.mp H
  obtain ⟨⟨t112, t113⟩, A60, H⟩ := H
  replace H : (if 0 ≤ t112 then (if t112 < (y109.length : Int) then (some (rd y109 t112, t104, t113)) else (none)) else (none)) = some (r1, r2, r3) := H
  have A6 := Aside0.mk A60
  clear A60
  by_cases c7 : 0 ≤ t112
  ·rw [if_pos c7] at H
   have c7b0 : decide (0 ≤ t112) = true := decide_eq_true c7
   clear c7
   by_cases c8 : t112 < (y109.length : Int)
   ·rw [if_pos c8] at H
    have c8b0 : decide (t112 < (y109.length : Int)) = true := decide_eq_true c8
    clear c8
    simp only [Option.some.injEq, Prod.mk.injEq] at H
    obtain ⟨rfl, rfl, rfl⟩ := H
    go_enter Try.func39, Try.ntmps39
    go_wp2_with (first | ((with_reducible refine gate_dst (N := 2) rfl ?_); refine box_event ?hg (N := 2) ?hd (cs := #[.int .i64 0, .int .i64 0]) (t := 38) ?hr ?_; (case hd => rfl); (case hg => rfl); (zq14_19); intro gb101 hg w9 hbox hb; have n0_ := Aside0.mk (IsS57.below zq14_20 hb); have n1_ := Aside0.mk (KeepBut.trans zq14_23 (KeepBut.of_below hb g none) (.inl rfl)); have n2_ := Aside0.mk (below_step zq14_18 hb); have n3_ := Aside0.mk (hbox); have n4_ := Aside0.mk (zq14_5); have n5_ := Aside0.mk ((Nat.le_trans HW0.out zq14_5 : w0.heap.size ≤ gb101)); have n6_ := Aside0.mk (zq14_12); have n7_ := Aside0.mk (zq14_13); clear HI0; clear HK; clear HB; have HI0 := n0_; have HK := n1_; have HB := n2_; have BK101 := n3_; have GW101 := n4_; have GE101 := n5_; have NB0_101 := n6_; have NB101_0 := n7_; clear n0_ n1_ n2_ n3_ n4_ n5_ n6_ n7_; clear hb hbox hg) | ((with_reducible refine gate_callee (f := 38) rfl ?_); refine goesL_ (some 5) rfl rfl Try.func38 (by kernel_rfl) rfl #[.pointer (some ⟨g, 0, none⟩), .int .i64 10] rfl zq14_4 ?_; (zq14_27); (zq14_8); (zq14_6); rintro e w10 ⟨rfl, hi, hb, hk⟩; refine ⟨_, rfl, ?_⟩; have n0_ := Aside0.mk (KeepBut.blk hk (g' := gb101) (o := .cells #[.int .i64 0, .int .i64 0] 38 (0, 0)) (by (zq14_1); exact BK101.out) NB101_0.out (by simp)); have n1_ := Aside0.mk (KeepBut.trans zq14_2 hk (.inl rfl)); have n2_ := Aside0.mk (hb); have n3_ := Aside0.mk (hi); clear BK101; clear HK; clear HB; clear HI0; have BK101 := n0_; have HK := n1_; have HB := n2_; have HI0 := n3_; clear n0_ n1_ n2_ n3_; (try clear hb); (try clear hb2); (try clear hk); (try clear hi)) | ((with_reducible refine gate_callee (f := 38) rfl ?_); refine goesL_ (some 7) rfl rfl Try.func38 (by kernel_rfl) rfl #[.pointer (some ⟨g, 0, none⟩), .int .i64 10] rfl zq14_4 ?_; (zq14_28); (zq14_8); (zq14_6); rintro e w11 ⟨rfl, hi, hb, hk⟩; refine ⟨_, rfl, ?_⟩; have n0_ := Aside0.mk (KeepBut.blk hk (g' := gb101) (o := .cells #[.int .i64 0, .int .i64 0] 38 (0, 0)) (by (zq14_1); exact BK101.out) NB101_0.out (by simp)); have n1_ := Aside0.mk (KeepBut.trans zq14_2 hk (.inl rfl)); have n2_ := Aside0.mk (hb); have n3_ := Aside0.mk (hi); clear BK101; clear HK; clear HB; clear HI0; have BK101 := n0_; have HK := n1_; have HB := n2_; have HI0 := n3_; clear n0_ n1_ n2_ n3_; (try clear hb); (try clear hb2); (try clear hk); (try clear hi)) | ((with_reducible refine gate_dst (N := 3) rfl ?_); refine box_event ?hg (N := 3) ?hd (cs := #[.int .i64 0, .int .i64 0]) (t := 38) ?hr ?_; (case hd => rfl); (case hg => rfl); (zq14_19); intro gb106 hg w12 hbox hb; have n0_ := Aside0.mk (IsS57.below zq14_16 hb); have n1_ := Aside0.mk (blk_below (g := gb101) (o := .cells #[.int .i64 0, .int .i64 0] 38 (0, 0)) (by (zq14_1); exact BK101.out) hb); have n2_ := Aside0.mk (KeepBut.trans zq14_2 (KeepBut.of_below hb g none) (.inl rfl)); have n3_ := Aside0.mk (below_step zq14_15 hb); have n4_ := Aside0.mk (hbox); have n5_ := Aside0.mk (zq14_14); have n6_ := Aside0.mk ((Nat.le_trans HW0.out zq14_14 : w0.heap.size ≤ gb106)); have n7_ := Aside0.mk (zq14_21); have n8_ := Aside0.mk (zq14_22); have n9_ := Aside0.mk (zq14_10); have n10_ := Aside0.mk (zq14_11); clear HI0; clear BK101; clear HK; clear HB; have HI0 := n0_; have BK101 := n1_; have HK := n2_; have HB := n3_; have BK106 := n4_; have GW106 := n5_; have GE106 := n6_; have NB101_106 := n7_; have NB106_101 := n8_; have NB0_106 := n9_; have NB106_0 := n10_; clear n0_ n1_ n2_ n3_ n4_ n5_ n6_ n7_ n8_ n9_ n10_; clear hb hbox hg; have hnb13 := NB106_101.out; have hnc13 := NB101_106.out; have hnb14 := NB106_0.out; have hnc14 := NB0_106.out; have hcz15_0 : w12.cell? ⟨gb106, 0, none⟩ = some (.int .i64 0) := (blk_cell BK106.out 0).trans rfl; have hcz15_1 : w12.cell? ⟨gb106, 1, none⟩ = some (.int .i64 0) := (blk_cell BK106.out 1).trans rfl; have hfz15_0 := blk_frozen BK106.out 0; have hfz15_1 := blk_frozen BK106.out 1) | ((with_reducible refine gate_callee (f := 38) rfl ?_); refine goesL_ (some 10) rfl rfl Try.func38 (by kernel_rfl) rfl #[.pointer (some ⟨g, 0, none⟩), .int .i64 40] rfl zq14_4 ?_; (zq14_29); (zq14_9); (zq14_7); rintro e w16 ⟨rfl, hi, hb, hk⟩; refine ⟨_, rfl, ?_⟩; have n0_ := Aside0.mk (KeepBut.blk hk (g' := gb101) (o := .cells #[.int .i64 0, .int .i64 0] 38 (0, 0)) zq14_25 NB101_0.out (by simp)); have n1_ := Aside0.mk (KeepBut.blk hk (g' := gb106) (o := .cells #[.int .i64 t102, .int .i64 t104] 38 (0, 0)) zq14_17 NB106_0.out (by simp)); have n2_ := Aside0.mk (KeepBut.trans zq14_3 hk (.inl rfl)); have n3_ := Aside0.mk (hb); have n4_ := Aside0.mk (hi); clear BK101; clear BK106; clear HK; clear HB; clear HI0; have BK101 := n0_; have BK106 := n1_; have HK := n2_; have HB := n3_; have HI0 := n4_; clear n0_ n1_ n2_ n3_ n4_; (try clear hb); (try clear hb2); (try clear hk); (try clear hi)) | ((with_reducible refine gate_dst (N := 13) rfl ?_); refine Kd.R_lit (Kd.int .i64) _ 3 ?hg (N := 13) ?hd (xs := ([(-1), 10] : List Int)) (inner := [.int .i64 (-1), .int .i64 10]) (ok := fun _ => True) (okp := fun _ => True) ?hr ?hp (fun _ hk => hk) trivial (Below.refl _ _) (Nat.le_refl _) (by simp) ?_; (case hd => rfl); (case hg => rfl); (zq14_19); (zq14_30); intro v110 w17 ho18 hb hg_ hnew_; clear hg_ hnew_; (first | rw [← Ny109.out] at ho18 | (simp only [Int.reduceToNat] at ho18; rw [← Ny109.out] at ho18)); have n0_ := Aside0.mk (Kd.R_lower ho18 (keep_size (w := w) (g := g) (row := none) zq14_3)); have n1_ := Aside0.mk (IsS57.below zq14_26 hb); have n2_ := Aside0.mk (blk_below (g := gb101) (o := .cells #[.int .i64 0, .int .i64 0] 38 (0, 0)) (by (zq14_1); exact BK101.out) hb); have n3_ := Aside0.mk (blk_below (g := gb106) (o := .cells #[.int .i64 t102, .int .i64 t104] 38 (0, 0)) (by (zq14_1); exact BK106.out) hb); have n4_ := Aside0.mk (KeepBut.trans zq14_3 (KeepBut.of_below hb g none) (.inl rfl)); have n5_ := Aside0.mk (below_step zq14_24 hb); clear HI0; clear BK101; clear BK106; clear HK; clear HB; have HO111 := n0_; have HI0 := n1_; have BK101 := n2_; have BK106 := n3_; have HK := n4_; have HB := n5_; clear n0_ n1_ n2_ n3_ n4_ n5_; clear hb ho18) | ((with_reducible refine gate_callee (f := 38) rfl ?_); refine goesL_ (some 15) rfl rfl Try.func38 (by kernel_rfl) rfl #[.pointer (some ⟨g, 0, none⟩), .int .i64 2] rfl zq14_4 ?_; (with_reducible refine (spec_l6Rd_pick.calls k g s0_0 t108 2 t112 t113 w0 _ ?side1 ?side2 A6.out).mono ?_); (zq14_9); (zq14_7); rintro e w19 ⟨rfl, hi, hb, hk⟩; refine ⟨_, rfl, ?_⟩; have n0_ := Aside0.mk (KeepBut.blk hk (g' := gb101) (o := .cells #[.int .i64 0, .int .i64 0] 38 (0, 0)) (by (zq14_1); exact BK101.out) NB101_0.out (by simp)); have n1_ := Aside0.mk (KeepBut.blk hk (g' := gb106) (o := .cells #[.int .i64 t102, .int .i64 t104] 38 (0, 0)) (by (zq14_1); exact BK106.out) NB106_0.out (by simp)); have n2_ := Aside0.mk (Kd.R_mono (Kd.R_keep (IsS57.apart (show IsS57 w0 _ g s0_0 t108 from by repeat (first | (with_reducible first | exact HI0.out | apply IsS57.alloc | apply IsS57.drewN | apply IsS57.drew | apply IsS57.set_1 | refine IsS57.far ?_ NB0_101.out _ | refine IsS57.far ?_ NB0_106.out _) | exact HI0.out)) (by (with_reducible repeat (first | apply Kd.R_alloc | apply Kd.R_drewN | apply Kd.R_drew)); exact HO111.out) (by decide)) hk (fun _ h => h.2)) (fun _ h => h.1)); have n3_ := Aside0.mk (KeepBut.trans zq14_3 hk (.inl rfl)); have n4_ := Aside0.mk (hb); have n5_ := Aside0.mk (hi); clear BK101; clear BK106; clear HO111; clear HK; clear HB; clear HI0; have BK101 := n0_; have BK106 := n1_; have HO111 := n2_; have HK := n3_; have HB := n4_; have HI0 := n5_; clear n0_ n1_ n2_ n3_ n4_ n5_; (try clear hb); (try clear hb2); (try clear hk); (try clear hi); obtain ⟨Ao20, co20, eo20⟩ := Kd.R_slice HO111.out; subst eo20; have p114 : 0 ≤ (t112 : Int) := of_decide_eq_true (by first | (with_reducible assumption) | assumption); have q114 : t112 < (y109.length : Int) := of_decide_eq_true (by first | (with_reducible assumption) | assumption); obtain ⟨ad114, e114, hx114_0⟩ := Kd.at_int (Kd.R_reads' HO111.out).2.2 t112 p114 q114; cases e114; replace p114 := eq_true p114; replace q114 := eq_true q114; have hcz21_0 : w19.cell? ⟨gb106, 0, none⟩ = some (.int .i64 t102) := (blk_cell BK106.out 0).trans rfl; have hcz21_1 : w19.cell? ⟨gb106, 1, none⟩ = some (.int .i64 t104) := (blk_cell BK106.out 1).trans rfl; have hfz21_0 := blk_frozen BK106.out 0; have hfz21_1 := blk_frozen BK106.out 1; have hnb22 := NB101_0.out; have hnc22 := NB0_101.out; have hcz23_0 : w19.cell? ⟨gb101, 0, none⟩ = some (.int .i64 0) := (blk_cell BK101.out 0).trans rfl; have hcz23_1 : w19.cell? ⟨gb101, 1, none⟩ = some (.int .i64 0) := (blk_cell BK101.out 1).trans rfl; have hfz23_0 := blk_frozen BK101.out 0; have hfz23_1 := blk_frozen BK101.out 1))
    refine bodyPost_ret (results_cell_row rfl _ _ gb101 38 #[.int .i64 (rd y109 t112), .int .i64 t104] (0, 0) _ rfl (by (zq14_1); refine blk_put (cs := #[.int .i64 (rd y109 t112), .int .i64 0]) ?_ 1 _ rfl; (zq14_1); refine blk_put (cs := #[.int .i64 0, .int .i64 0]) ?_ 0 _ rfl; (zq14_1); refine blk_far ?_ NB101_106.out _; (zq14_1); exact BK101.out) Try.underlying38 rfl (by kernel_rfl)) rfl ?_
    exact ⟨by first | rfl | (simp [errW_none, errW_some] <;> rfl) | (simp [*, errW_none, errW_some] <;> rfl), by repeat (first | (with_reducible first | exact HI0.out | apply IsS57.alloc | apply IsS57.drewN | apply IsS57.drew | apply IsS57.set_1 | refine IsS57.far ?_ NB0_101.out _ | refine IsS57.far ?_ NB0_106.out _) | exact HI0.out), by repeat (first | (with_reducible first | exact HB.out | apply below_alloc | apply pw_below_drewN | apply below_drew1 | refine below_set ?_ (IsS57.ge HI0.out) | refine below_set ?_ GE101.out | refine below_set ?_ GE106.out) | exact HB.out), by repeat (first | (with_reducible first | exact HK.out | apply KeepBut.set_ | apply keep_drewN | apply keep_drew | apply keep_alloc | refine keep_far ?_ GW101.out _ | refine keep_far ?_ GW106.out _) | exact HK.out)⟩
   ·rw [if_neg c8] at H
    exact absurd H (by simp)
  ·rw [if_neg c7] at H
   exact absurd H (by simp)
 ·rw [if_neg c5] at H
  have c5b0 : (t107 == 0) = false := beq_eq_false_iff_ne.mpr c5
  have c5b1 : (t107 != 0) = true := bne_iff_ne.mpr c5
  by_cases c24 : t107 = 1
  ·rw [if_pos c24] at H
   have c24b0 : (t107 == 1) = true := beq_iff_eq.mpr c24
   have c24b1 : (t107 != 1) = false := bne_eq_false_iff_eq.mpr c24
   clear c24
   obtain ⟨y115, hy115⟩ : ∃ y_ : List Int, y_ = (([(-1), 10] : List Int)) := ⟨_, rfl⟩
   replace H : ((spec_l6Rd_pick.f k s0_0 t108 2).bind fun bt118 => (if 0 ≤ bt118.1 then (if bt118.1 < (y115.length : Int) then (some (t102, rd y115 bt118.1, bt118.2)) else (none)) else (none))) = some (r1, r2, r3) := by first | (rw [hy115]; with_reducible exact H) | (have H2_ := (Option.bind_some _ _).symm.trans H; rw [hy115]; with_reducible exact H2_) | (have H2_ := (Option.bind_some _ _).symm.trans H; with_reducible exact H2_) | with_reducible exact H | (rw [hy115]; exact H) | exact H
   have Ny115 := Aside0.mk hy115
   clear hy115
   replace H := Option.bind_eq_some_iff.mp H
   obtain ⟨⟨t118, t119⟩, A250, H⟩ := H
   replace H : (if 0 ≤ t118 then (if t118 < (y115.length : Int) then (some (t102, rd y115 t118, t119)) else (none)) else (none)) = some (r1, r2, r3) := H
   have A25 := Aside0.mk A250
   clear A250
   by_cases c26 : 0 ≤ t118
   ·rw [if_pos c26] at H
    have c26b0 : decide (0 ≤ t118) = true := decide_eq_true c26
    clear c26
    by_cases c27 : t118 < (y115.length : Int)
    ·rw [if_pos c27] at H
     have c27b0 : decide (t118 < (y115.length : Int)) = true := decide_eq_true c27
     clear c27
     simp only [Option.some.injEq, Prod.mk.injEq] at H
     obtain ⟨rfl, rfl, rfl⟩ := H
     go_enter Try.func39, Try.ntmps39
     go_wp2_with (first | ((with_reducible refine gate_dst (N := 2) rfl ?_); refine box_event ?hg (N := 2) ?hd (cs := #[.int .i64 0, .int .i64 0]) (t := 38) ?hr ?_; (case hd => rfl); (case hg => rfl); (zq14_19); intro gb101 hg w28 hbox hb; have n0_ := Aside0.mk (IsS57.below zq14_20 hb); have n1_ := Aside0.mk (KeepBut.trans zq14_23 (KeepBut.of_below hb g none) (.inl rfl)); have n2_ := Aside0.mk (below_step zq14_18 hb); have n3_ := Aside0.mk (hbox); have n4_ := Aside0.mk (zq14_5); have n5_ := Aside0.mk ((Nat.le_trans HW0.out zq14_5 : w0.heap.size ≤ gb101)); have n6_ := Aside0.mk (zq14_12); have n7_ := Aside0.mk (zq14_13); clear HI0; clear HK; clear HB; have HI0 := n0_; have HK := n1_; have HB := n2_; have BK101 := n3_; have GW101 := n4_; have GE101 := n5_; have NB0_101 := n6_; have NB101_0 := n7_; clear n0_ n1_ n2_ n3_ n4_ n5_ n6_ n7_; clear hb hbox hg) | ((with_reducible refine gate_callee (f := 38) rfl ?_); refine goesL_ (some 5) rfl rfl Try.func38 (by kernel_rfl) rfl #[.pointer (some ⟨g, 0, none⟩), .int .i64 10] rfl zq14_4 ?_; (zq14_27); (zq14_8); (zq14_6); rintro e w29 ⟨rfl, hi, hb, hk⟩; refine ⟨_, rfl, ?_⟩; have n0_ := Aside0.mk (KeepBut.blk hk (g' := gb101) (o := .cells #[.int .i64 0, .int .i64 0] 38 (0, 0)) (by (zq14_1); exact BK101.out) NB101_0.out (by simp)); have n1_ := Aside0.mk (KeepBut.trans zq14_2 hk (.inl rfl)); have n2_ := Aside0.mk (hb); have n3_ := Aside0.mk (hi); clear BK101; clear HK; clear HB; clear HI0; have BK101 := n0_; have HK := n1_; have HB := n2_; have HI0 := n3_; clear n0_ n1_ n2_ n3_; (try clear hb); (try clear hb2); (try clear hk); (try clear hi)) | ((with_reducible refine gate_callee (f := 38) rfl ?_); refine goesL_ (some 7) rfl rfl Try.func38 (by kernel_rfl) rfl #[.pointer (some ⟨g, 0, none⟩), .int .i64 10] rfl zq14_4 ?_; (zq14_28); (zq14_8); (zq14_6); rintro e w30 ⟨rfl, hi, hb, hk⟩; refine ⟨_, rfl, ?_⟩; have n0_ := Aside0.mk (KeepBut.blk hk (g' := gb101) (o := .cells #[.int .i64 0, .int .i64 0] 38 (0, 0)) (by (zq14_1); exact BK101.out) NB101_0.out (by simp)); have n1_ := Aside0.mk (KeepBut.trans zq14_2 hk (.inl rfl)); have n2_ := Aside0.mk (hb); have n3_ := Aside0.mk (hi); clear BK101; clear HK; clear HB; clear HI0; have BK101 := n0_; have HK := n1_; have HB := n2_; have HI0 := n3_; clear n0_ n1_ n2_ n3_; (try clear hb); (try clear hb2); (try clear hk); (try clear hi)) | ((with_reducible refine gate_dst (N := 3) rfl ?_); refine box_event ?hg (N := 3) ?hd (cs := #[.int .i64 0, .int .i64 0]) (t := 38) ?hr ?_; (case hd => rfl); (case hg => rfl); (zq14_19); intro gb106 hg w31 hbox hb; have n0_ := Aside0.mk (IsS57.below zq14_16 hb); have n1_ := Aside0.mk (blk_below (g := gb101) (o := .cells #[.int .i64 0, .int .i64 0] 38 (0, 0)) (by (zq14_1); exact BK101.out) hb); have n2_ := Aside0.mk (KeepBut.trans zq14_2 (KeepBut.of_below hb g none) (.inl rfl)); have n3_ := Aside0.mk (below_step zq14_15 hb); have n4_ := Aside0.mk (hbox); have n5_ := Aside0.mk (zq14_14); have n6_ := Aside0.mk ((Nat.le_trans HW0.out zq14_14 : w0.heap.size ≤ gb106)); have n7_ := Aside0.mk (zq14_21); have n8_ := Aside0.mk (zq14_22); have n9_ := Aside0.mk (zq14_10); have n10_ := Aside0.mk (zq14_11); clear HI0; clear BK101; clear HK; clear HB; have HI0 := n0_; have BK101 := n1_; have HK := n2_; have HB := n3_; have BK106 := n4_; have GW106 := n5_; have GE106 := n6_; have NB101_106 := n7_; have NB106_101 := n8_; have NB0_106 := n9_; have NB106_0 := n10_; clear n0_ n1_ n2_ n3_ n4_ n5_ n6_ n7_ n8_ n9_ n10_; clear hb hbox hg; have hnb32 := NB106_101.out; have hnc32 := NB101_106.out; have hnb33 := NB106_0.out; have hnc33 := NB0_106.out; have hcz34_0 : w31.cell? ⟨gb106, 0, none⟩ = some (.int .i64 0) := (blk_cell BK106.out 0).trans rfl; have hcz34_1 : w31.cell? ⟨gb106, 1, none⟩ = some (.int .i64 0) := (blk_cell BK106.out 1).trans rfl; have hfz34_0 := blk_frozen BK106.out 0; have hfz34_1 := blk_frozen BK106.out 1) | ((with_reducible refine gate_callee (f := 38) rfl ?_); refine goesL_ (some 10) rfl rfl Try.func38 (by kernel_rfl) rfl #[.pointer (some ⟨g, 0, none⟩), .int .i64 40] rfl zq14_4 ?_; (zq14_29); (zq14_9); (zq14_7); rintro e w35 ⟨rfl, hi, hb, hk⟩; refine ⟨_, rfl, ?_⟩; have n0_ := Aside0.mk (KeepBut.blk hk (g' := gb101) (o := .cells #[.int .i64 0, .int .i64 0] 38 (0, 0)) zq14_25 NB101_0.out (by simp)); have n1_ := Aside0.mk (KeepBut.blk hk (g' := gb106) (o := .cells #[.int .i64 t102, .int .i64 t104] 38 (0, 0)) zq14_17 NB106_0.out (by simp)); have n2_ := Aside0.mk (KeepBut.trans zq14_3 hk (.inl rfl)); have n3_ := Aside0.mk (hb); have n4_ := Aside0.mk (hi); clear BK101; clear BK106; clear HK; clear HB; clear HI0; have BK101 := n0_; have BK106 := n1_; have HK := n2_; have HB := n3_; have HI0 := n4_; clear n0_ n1_ n2_ n3_ n4_; (try clear hb); (try clear hb2); (try clear hk); (try clear hi)) | ((with_reducible refine gate_dst (N := 21) rfl ?_); refine Kd.R_lit (Kd.int .i64) _ 3 ?hg (N := 21) ?hd (xs := ([(-1), 10] : List Int)) (inner := [.int .i64 (-1), .int .i64 10]) (ok := fun _ => True) (okp := fun _ => True) ?hr ?hp (fun _ hk => hk) trivial (Below.refl _ _) (Nat.le_refl _) (by simp) ?_; (case hd => rfl); (case hg => rfl); (zq14_19); (zq14_30); intro v116 w36 ho37 hb hg_ hnew_; clear hg_ hnew_; (first | rw [← Ny115.out] at ho37 | (simp only [Int.reduceToNat] at ho37; rw [← Ny115.out] at ho37)); have n0_ := Aside0.mk (Kd.R_lower ho37 (keep_size (w := w) (g := g) (row := none) zq14_3)); have n1_ := Aside0.mk (IsS57.below zq14_26 hb); have n2_ := Aside0.mk (blk_below (g := gb101) (o := .cells #[.int .i64 0, .int .i64 0] 38 (0, 0)) (by (zq14_1); exact BK101.out) hb); have n3_ := Aside0.mk (blk_below (g := gb106) (o := .cells #[.int .i64 t102, .int .i64 t104] 38 (0, 0)) (by (zq14_1); exact BK106.out) hb); have n4_ := Aside0.mk (KeepBut.trans zq14_3 (KeepBut.of_below hb g none) (.inl rfl)); have n5_ := Aside0.mk (below_step zq14_24 hb); clear HI0; clear BK101; clear BK106; clear HK; clear HB; have HO117 := n0_; have HI0 := n1_; have BK101 := n2_; have BK106 := n3_; have HK := n4_; have HB := n5_; clear n0_ n1_ n2_ n3_ n4_ n5_; clear hb ho37) | ((with_reducible refine gate_callee (f := 38) rfl ?_); refine goesL_ (some 23) rfl rfl Try.func38 (by kernel_rfl) rfl #[.pointer (some ⟨g, 0, none⟩), .int .i64 2] rfl zq14_4 ?_; (with_reducible refine (spec_l6Rd_pick.calls k g s0_0 t108 2 t118 t119 w0 _ ?side1 ?side2 A25.out).mono ?_); (zq14_9); (zq14_7); rintro e w38 ⟨rfl, hi, hb, hk⟩; refine ⟨_, rfl, ?_⟩; have n0_ := Aside0.mk (KeepBut.blk hk (g' := gb101) (o := .cells #[.int .i64 0, .int .i64 0] 38 (0, 0)) (by (zq14_1); exact BK101.out) NB101_0.out (by simp)); have n1_ := Aside0.mk (KeepBut.blk hk (g' := gb106) (o := .cells #[.int .i64 t102, .int .i64 t104] 38 (0, 0)) (by (zq14_1); exact BK106.out) NB106_0.out (by simp)); have n2_ := Aside0.mk (Kd.R_mono (Kd.R_keep (IsS57.apart (show IsS57 w0 _ g s0_0 t108 from by repeat (first | (with_reducible first | exact HI0.out | apply IsS57.alloc | apply IsS57.drewN | apply IsS57.drew | apply IsS57.set_1 | refine IsS57.far ?_ NB0_101.out _ | refine IsS57.far ?_ NB0_106.out _) | exact HI0.out)) (by (with_reducible repeat (first | apply Kd.R_alloc | apply Kd.R_drewN | apply Kd.R_drew)); exact HO117.out) (by decide)) hk (fun _ h => h.2)) (fun _ h => h.1)); have n3_ := Aside0.mk (KeepBut.trans zq14_3 hk (.inl rfl)); have n4_ := Aside0.mk (hb); have n5_ := Aside0.mk (hi); clear BK101; clear BK106; clear HO117; clear HK; clear HB; clear HI0; have BK101 := n0_; have BK106 := n1_; have HO117 := n2_; have HK := n3_; have HB := n4_; have HI0 := n5_; clear n0_ n1_ n2_ n3_ n4_ n5_; (try clear hb); (try clear hb2); (try clear hk); (try clear hi); obtain ⟨Ao39, co39, eo39⟩ := Kd.R_slice HO117.out; subst eo39; have p120 : 0 ≤ (t118 : Int) := of_decide_eq_true (by first | (with_reducible assumption) | assumption); have q120 : t118 < (y115.length : Int) := of_decide_eq_true (by first | (with_reducible assumption) | assumption); obtain ⟨ad120, e120, hx120_0⟩ := Kd.at_int (Kd.R_reads' HO117.out).2.2 t118 p120 q120; cases e120; replace p120 := eq_true p120; replace q120 := eq_true q120; have hcz40_0 : w38.cell? ⟨gb106, 0, none⟩ = some (.int .i64 t102) := (blk_cell BK106.out 0).trans rfl; have hcz40_1 : w38.cell? ⟨gb106, 1, none⟩ = some (.int .i64 t104) := (blk_cell BK106.out 1).trans rfl; have hfz40_0 := blk_frozen BK106.out 0; have hfz40_1 := blk_frozen BK106.out 1; have hnb41 := NB101_0.out; have hnc41 := NB0_101.out; have hcz42_0 : w38.cell? ⟨gb101, 0, none⟩ = some (.int .i64 0) := (blk_cell BK101.out 0).trans rfl; have hcz42_1 : w38.cell? ⟨gb101, 1, none⟩ = some (.int .i64 0) := (blk_cell BK101.out 1).trans rfl; have hfz42_0 := blk_frozen BK101.out 0; have hfz42_1 := blk_frozen BK101.out 1))
     refine bodyPost_ret (results_cell_row rfl _ _ gb101 38 #[.int .i64 t102, .int .i64 (rd y115 t118)] (0, 0) _ rfl (by (zq14_1); refine blk_put (cs := #[.int .i64 t102, .int .i64 0]) ?_ 1 _ rfl; (zq14_1); refine blk_put (cs := #[.int .i64 0, .int .i64 0]) ?_ 0 _ rfl; (zq14_1); refine blk_far ?_ NB101_106.out _; (zq14_1); exact BK101.out) Try.underlying38 rfl (by kernel_rfl)) rfl ?_
     exact ⟨by first | rfl | (simp [errW_none, errW_some] <;> rfl) | (simp [*, errW_none, errW_some] <;> rfl), by repeat (first | (with_reducible first | exact HI0.out | apply IsS57.alloc | apply IsS57.drewN | apply IsS57.drew | apply IsS57.set_1 | refine IsS57.far ?_ NB0_101.out _ | refine IsS57.far ?_ NB0_106.out _) | exact HI0.out), by repeat (first | (with_reducible first | exact HB.out | apply below_alloc | apply pw_below_drewN | apply below_drew1 | refine below_set ?_ (IsS57.ge HI0.out) | refine below_set ?_ GE101.out | refine below_set ?_ GE106.out) | exact HB.out), by repeat (first | (with_reducible first | exact HK.out | apply KeepBut.set_ | apply keep_drewN | apply keep_drew | apply keep_alloc | refine keep_far ?_ GW101.out _ | refine keep_far ?_ GW106.out _) | exact HK.out)⟩
    ·rw [if_neg c27] at H
     exact absurd H (by simp)
   ·rw [if_neg c26] at H
    exact absurd H (by simp)
  ·rw [if_neg c24] at H
   have c24b0 : (t107 == 1) = false := beq_eq_false_iff_ne.mpr c24
   have c24b1 : (t107 != 1) = true := bne_iff_ne.mpr c24
   simp only [Option.some.injEq, Prod.mk.injEq] at H
   obtain ⟨rfl, rfl, rfl⟩ := H
   go_enter Try.func39, Try.ntmps39
   go_wp2_with (first | ((with_reducible refine gate_dst (N := 2) rfl ?_); refine box_event ?hg (N := 2) ?hd (cs := #[.int .i64 0, .int .i64 0]) (t := 38) ?hr ?_; (case hd => rfl); (case hg => rfl); (zq14_19); intro gb101 hg w43 hbox hb; have n0_ := Aside0.mk (IsS57.below zq14_20 hb); have n1_ := Aside0.mk (KeepBut.trans zq14_23 (KeepBut.of_below hb g none) (.inl rfl)); have n2_ := Aside0.mk (below_step zq14_18 hb); have n3_ := Aside0.mk (hbox); have n4_ := Aside0.mk (zq14_5); have n5_ := Aside0.mk ((Nat.le_trans HW0.out zq14_5 : w0.heap.size ≤ gb101)); have n6_ := Aside0.mk (zq14_12); have n7_ := Aside0.mk (zq14_13); clear HI0; clear HK; clear HB; have HI0 := n0_; have HK := n1_; have HB := n2_; have BK101 := n3_; have GW101 := n4_; have GE101 := n5_; have NB0_101 := n6_; have NB101_0 := n7_; clear n0_ n1_ n2_ n3_ n4_ n5_ n6_ n7_; clear hb hbox hg) | ((with_reducible refine gate_callee (f := 38) rfl ?_); refine goesL_ (some 5) rfl rfl Try.func38 (by kernel_rfl) rfl #[.pointer (some ⟨g, 0, none⟩), .int .i64 10] rfl zq14_4 ?_; (zq14_27); (zq14_8); (zq14_6); rintro e w44 ⟨rfl, hi, hb, hk⟩; refine ⟨_, rfl, ?_⟩; have n0_ := Aside0.mk (KeepBut.blk hk (g' := gb101) (o := .cells #[.int .i64 0, .int .i64 0] 38 (0, 0)) (by (zq14_1); exact BK101.out) NB101_0.out (by simp)); have n1_ := Aside0.mk (KeepBut.trans zq14_2 hk (.inl rfl)); have n2_ := Aside0.mk (hb); have n3_ := Aside0.mk (hi); clear BK101; clear HK; clear HB; clear HI0; have BK101 := n0_; have HK := n1_; have HB := n2_; have HI0 := n3_; clear n0_ n1_ n2_ n3_; (try clear hb); (try clear hb2); (try clear hk); (try clear hi)) | ((with_reducible refine gate_callee (f := 38) rfl ?_); refine goesL_ (some 7) rfl rfl Try.func38 (by kernel_rfl) rfl #[.pointer (some ⟨g, 0, none⟩), .int .i64 10] rfl zq14_4 ?_; (zq14_28); (zq14_8); (zq14_6); rintro e w45 ⟨rfl, hi, hb, hk⟩; refine ⟨_, rfl, ?_⟩; have n0_ := Aside0.mk (KeepBut.blk hk (g' := gb101) (o := .cells #[.int .i64 0, .int .i64 0] 38 (0, 0)) (by (zq14_1); exact BK101.out) NB101_0.out (by simp)); have n1_ := Aside0.mk (KeepBut.trans zq14_2 hk (.inl rfl)); have n2_ := Aside0.mk (hb); have n3_ := Aside0.mk (hi); clear BK101; clear HK; clear HB; clear HI0; have BK101 := n0_; have HK := n1_; have HB := n2_; have HI0 := n3_; clear n0_ n1_ n2_ n3_; (try clear hb); (try clear hb2); (try clear hk); (try clear hi)) | ((with_reducible refine gate_dst (N := 3) rfl ?_); refine box_event ?hg (N := 3) ?hd (cs := #[.int .i64 0, .int .i64 0]) (t := 38) ?hr ?_; (case hd => rfl); (case hg => rfl); (zq14_19); intro gb106 hg w46 hbox hb; have n0_ := Aside0.mk (IsS57.below zq14_16 hb); have n1_ := Aside0.mk (blk_below (g := gb101) (o := .cells #[.int .i64 0, .int .i64 0] 38 (0, 0)) (by (zq14_1); exact BK101.out) hb); have n2_ := Aside0.mk (KeepBut.trans zq14_2 (KeepBut.of_below hb g none) (.inl rfl)); have n3_ := Aside0.mk (below_step zq14_15 hb); have n4_ := Aside0.mk (hbox); have n5_ := Aside0.mk (zq14_14); have n6_ := Aside0.mk ((Nat.le_trans HW0.out zq14_14 : w0.heap.size ≤ gb106)); have n7_ := Aside0.mk (zq14_21); have n8_ := Aside0.mk (zq14_22); have n9_ := Aside0.mk (zq14_10); have n10_ := Aside0.mk (zq14_11); clear HI0; clear BK101; clear HK; clear HB; have HI0 := n0_; have BK101 := n1_; have HK := n2_; have HB := n3_; have BK106 := n4_; have GW106 := n5_; have GE106 := n6_; have NB101_106 := n7_; have NB106_101 := n8_; have NB0_106 := n9_; have NB106_0 := n10_; clear n0_ n1_ n2_ n3_ n4_ n5_ n6_ n7_ n8_ n9_ n10_; clear hb hbox hg; have hnb47 := NB106_101.out; have hnc47 := NB101_106.out; have hnb48 := NB106_0.out; have hnc48 := NB0_106.out; have hcz49_0 : w46.cell? ⟨gb106, 0, none⟩ = some (.int .i64 0) := (blk_cell BK106.out 0).trans rfl; have hcz49_1 : w46.cell? ⟨gb106, 1, none⟩ = some (.int .i64 0) := (blk_cell BK106.out 1).trans rfl; have hfz49_0 := blk_frozen BK106.out 0; have hfz49_1 := blk_frozen BK106.out 1) | ((with_reducible refine gate_callee (f := 38) rfl ?_); refine goesL_ (some 10) rfl rfl Try.func38 (by kernel_rfl) rfl #[.pointer (some ⟨g, 0, none⟩), .int .i64 40] rfl zq14_4 ?_; (zq14_29); (zq14_9); (zq14_7); rintro e w50 ⟨rfl, hi, hb, hk⟩; refine ⟨_, rfl, ?_⟩; have n0_ := Aside0.mk (KeepBut.blk hk (g' := gb101) (o := .cells #[.int .i64 0, .int .i64 0] 38 (0, 0)) zq14_25 NB101_0.out (by simp)); have n1_ := Aside0.mk (KeepBut.blk hk (g' := gb106) (o := .cells #[.int .i64 t102, .int .i64 t104] 38 (0, 0)) zq14_17 NB106_0.out (by simp)); have n2_ := Aside0.mk (KeepBut.trans zq14_3 hk (.inl rfl)); have n3_ := Aside0.mk (hb); have n4_ := Aside0.mk (hi); clear BK101; clear BK106; clear HK; clear HB; clear HI0; have BK101 := n0_; have BK106 := n1_; have HK := n2_; have HB := n3_; have HI0 := n4_; clear n0_ n1_ n2_ n3_ n4_; (try clear hb); (try clear hb2); (try clear hk); (try clear hi); have hcz51_0 : w50.cell? ⟨gb106, 0, none⟩ = some (.int .i64 t102) := (blk_cell BK106.out 0).trans rfl; have hcz51_1 : w50.cell? ⟨gb106, 1, none⟩ = some (.int .i64 t104) := (blk_cell BK106.out 1).trans rfl; have hfz51_0 := blk_frozen BK106.out 0; have hfz51_1 := blk_frozen BK106.out 1; have hnb52 := NB101_0.out; have hnc52 := NB0_101.out; have hcz53_0 : w50.cell? ⟨gb101, 0, none⟩ = some (.int .i64 0) := (blk_cell BK101.out 0).trans rfl; have hcz53_1 : w50.cell? ⟨gb101, 1, none⟩ = some (.int .i64 0) := (blk_cell BK101.out 1).trans rfl; have hfz53_0 := blk_frozen BK101.out 0; have hfz53_1 := blk_frozen BK101.out 1))
   refine bodyPost_ret (results_cell_row rfl _ _ gb101 38 #[.int .i64 t102, .int .i64 t104] (0, 0) _ rfl (by (zq14_1); refine blk_put (cs := #[.int .i64 t102, .int .i64 0]) ?_ 1 _ rfl; (zq14_1); refine blk_put (cs := #[.int .i64 0, .int .i64 0]) ?_ 0 _ rfl; (zq14_1); exact BK101.out) Try.underlying38 rfl (by kernel_rfl)) rfl ?_
   exact ⟨by first | rfl | (simp [errW_none, errW_some] <;> rfl) | (simp [*, errW_none, errW_some] <;> rfl), by repeat (first | (with_reducible first | exact HI0.out | apply IsS57.alloc | apply IsS57.drewN | apply IsS57.drew | apply IsS57.set_1 | refine IsS57.far ?_ NB0_101.out _ | refine IsS57.far ?_ NB0_106.out _) | exact HI0.out), by repeat (first | (with_reducible first | exact HB.out | apply below_alloc | apply pw_below_drewN | apply below_drew1 | refine below_set ?_ (IsS57.ge HI0.out) | refine below_set ?_ GE101.out | refine below_set ?_ GE106.out) | exact HB.out), by repeat (first | (with_reducible first | exact HK.out | apply KeepBut.set_ | apply keep_drewN | apply keep_drew | apply keep_alloc | refine keep_far ?_ GW101.out _ | refine keep_far ?_ GW106.out _) | exact HK.out)⟩

end Go.Proofs.Ytdacpdhpifocbaa.P

namespace Go.Proofs.Ytdacpdhpifocbaa.P
open Go.RowKit Go.Proofs.YtdacpdhpifocbaaW.PrintWords Go.Proofs.YtdacpdhpifocbaaW.PrintLast Go.Proofs.YtdacpdhpifocbaaW.PrintMore
attribute [local go_sem] max2_int min2_int max_two min_two max_three min_three max_four min_four   -- for this text's walks alone
set_option linter.unusedVariables false
set_option linter.unusedSimpArgs false

/-! ### spec_l6Open: function 36 -/
def spec_l6Open.f (l0 : List Int) : Option (List Int × Int) := if (l0.length : Int) > 2000 then (if 2000 ≤ (l0.length : Int) then (some (l0.take 2000, 0)) else (none)) else (some (l0, 0))
set_option maxHeartbeats 8000000 in
set_option maxRecDepth 100000 in
theorem spec_l6Open.calls (A0 : Option Addr) (c0 : Nat) (l0 : List Int) (r1 : List Int) (r2 : Int) (w0 w : World) (hB : Below w0.heap.size w0 w) (hr0 : Kd.C (Kd.int .u8) w0 A0 l0.length l0) (hc0 : l0.length ≤ c0) (h : spec_l6Open.f l0 = some (r1, r2)) :
    Calls Try.prog 36 #[.slice A0 l0.length c0] w fun e w' => ∃ g_ : Nat, e = .returned (.pointer (some ⟨g_, 0, none⟩)) ∧ IsS57 w0 w' g_ r1 r2 ∧ Below w0.heap.size w0 w' ∧ Below w.heap.size w w' := by
  have hu57 := Try.underlying57
  have HR0 := Aside0.mk hr0
  have HC0 := Aside0.mk hc0
  clear hr0 hc0
  have HBW := Aside0.mk (Below.refl w.heap.size w)
  have HW0 := Aside0.mk hB.size
  have HB := Aside0.mk hB
  clear hB
  have H : (if (l0.length : Int) > 2000 then (if 2000 ≤ (l0.length : Int) then (some (l0.take 2000, 0)) else (none)) else (some (l0, 0))) = some (r1, r2) := h
  clear h
  by_cases c2 : (l0.length : Int) > 2000
  · rw [if_pos c2] at H
    have c2b0 : decide (2000 < (l0.length : Int)) = true := decide_eq_true c2
    have c2b1 : decide (2000 < l0.length) = true := decide_eq_true (by omega)
    clear c2
    by_cases c3 : 2000 ≤ (l0.length : Int)
    · rw [if_pos c3] at H
      have c3b0 := eq_true c3
      have c3b1 : decide (2000 ≤ (l0.length : Int)) = true := decide_eq_true c3
      clear c3
      simp only [Option.some.injEq, Prod.mk.injEq] at H
      obtain ⟨rfl, rfl⟩ := H
      obtain ⟨i04, hi04, _, hsz4, _⟩ := info_parts info5
      obtain ⟨hcut4, hA4, hC4⟩ := print_take_of (P := Try.prog) (Value.int .u8) 0 32 5 .i64 Try.underlying32 hi04 hsz4 A0 c0 l0 2000 (by omega) (of_decide_eq_true (by first | (with_reducible assumption) | assumption)) HC0.out
      have HR101 := Aside0.mk (Kd.C_of_reads (h1 := fun _ => rfl) (hA4 _ (Kd.reads_of_C HR0.out)))
      have HC101 := Aside0.mk hC4
      clear hA4 hC4 hi04 hsz4
      go_enter Try.func36, Try.ntmps36
      go_wp2_with (first | ((with_reducible refine gate_dst (N := 10) rfl ?_); refine box_event ?hg (N := 10) ?hd (cs := #[.slice A0 (l0.take 2000).length c0, .int .i64 0]) (t := 57) ?hr ?_; (case hd => rfl); (case hg => rfl); (case hr => first | (go_simp; done) | (go_simp; rfl)); intro gb102 hg w5 hbox hb; have n0_ := Aside0.mk (below_step HBW.out hb); have n1_ := Aside0.mk (below_step (by repeat (first | (with_reducible first | exact HB.out | apply below_alloc | apply pw_below_drewN | apply below_drew1) | exact HB.out)) hb); have n2_ := Aside0.mk (hbox); have n3_ := Aside0.mk ((by rw [hg]; exact (below_size (by repeat (first | (with_reducible first | exact HBW.out | apply below_alloc | apply pw_below_drewN | apply below_drew1) | exact HBW.out))) : w.heap.size ≤ gb102)); have n4_ := Aside0.mk ((Nat.le_trans HW0.out (by rw [hg]; exact (below_size (by repeat (first | (with_reducible first | exact HBW.out | apply below_alloc | apply pw_below_drewN | apply below_drew1) | exact HBW.out))) : w.heap.size ≤ gb102) : w0.heap.size ≤ gb102)); clear HBW; clear HB; have HBW := n0_; have HB := n1_; have BK102 := n2_; have GW102 := n3_; have GE102 := n4_; clear n0_ n1_ n2_ n3_ n4_; clear hb hbox hg))
      go_ret
      exact ⟨_, rfl, (show IsS57 w0 _ gb102 (l0.take 2000) 0 from ⟨_, _, by (with_reducible repeat (first | refine blk_drewN ?_ _ | refine blk_drew ?_ | refine blk_alloc ?_ _)); exact BK102.out, GE102.out, HR101.out⟩), by repeat (first | (with_reducible first | exact HB.out | apply below_alloc | apply pw_below_drewN | apply below_drew1 | refine below_set ?_ GE102.out) | exact HB.out), by repeat (first | (with_reducible first | exact HBW.out | apply below_alloc | apply pw_below_drewN | apply below_drew1 | refine below_set ?_ GW102.out) | exact HBW.out)⟩
    · rw [if_neg c3] at H
      exact absurd H (by simp)
  · rw [if_neg c2] at H
    have c2b0 : decide (2000 < (l0.length : Int)) = false := decide_eq_false c2
    have c2b1 : decide (2000 < l0.length) = false := decide_eq_false (by omega)
    clear c2
    simp only [Option.some.injEq, Prod.mk.injEq] at H
    obtain ⟨rfl, rfl⟩ := H
    go_enter Try.func36, Try.ntmps36
    go_wp2_with (first | ((with_reducible refine gate_dst (N := 10) rfl ?_); refine box_event ?hg (N := 10) ?hd (cs := #[.slice A0 l0.length c0, .int .i64 0]) (t := 57) ?hr ?_; (case hd => rfl); (case hg => rfl); (case hr => first | (go_simp; done) | (go_simp; rfl)); intro gb103 hg w6 hbox hb; have n0_ := Aside0.mk (below_step HBW.out hb); have n1_ := Aside0.mk (below_step (by repeat (first | (with_reducible first | exact HB.out | apply below_alloc | apply pw_below_drewN | apply below_drew1) | exact HB.out)) hb); have n2_ := Aside0.mk (hbox); have n3_ := Aside0.mk ((by rw [hg]; exact (below_size (by repeat (first | (with_reducible first | exact HBW.out | apply below_alloc | apply pw_below_drewN | apply below_drew1) | exact HBW.out))) : w.heap.size ≤ gb103)); have n4_ := Aside0.mk ((Nat.le_trans HW0.out (by rw [hg]; exact (below_size (by repeat (first | (with_reducible first | exact HBW.out | apply below_alloc | apply pw_below_drewN | apply below_drew1) | exact HBW.out))) : w.heap.size ≤ gb103) : w0.heap.size ≤ gb103)); clear HBW; clear HB; have HBW := n0_; have HB := n1_; have BK103 := n2_; have GW103 := n3_; have GE103 := n4_; clear n0_ n1_ n2_ n3_ n4_; clear hb hbox hg))
    go_ret
    exact ⟨_, rfl, (show IsS57 w0 _ gb103 l0 0 from ⟨_, _, by (with_reducible repeat (first | refine blk_drewN ?_ _ | refine blk_drew ?_ | refine blk_alloc ?_ _)); exact BK103.out, GE103.out, HR0.out⟩), by repeat (first | (with_reducible first | exact HB.out | apply below_alloc | apply pw_below_drewN | apply below_drew1 | refine below_set ?_ GE103.out) | exact HB.out), by repeat (first | (with_reducible first | exact HBW.out | apply below_alloc | apply pw_below_drewN | apply below_drew1 | refine below_set ?_ GW103.out) | exact HBW.out)⟩

end Go.Proofs.Ytdacpdhpifocbaa.P

