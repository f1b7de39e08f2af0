/- Part 4 of what CodeOver rests on: contracts of the program's functions and plain facts (the print's texts and the session's own, put together). -/
import Derived.Test.YtdacpdhpifocbaaBCodeOver2
namespace Go.Proofs.Ytdacpdhpifocbaa.P
open Go.RowKit Go.Proofs.YtdacpdhpifocbaaW.PrintWords Go.Proofs.YtdacpdhpifocbaaW.PrintLast Go.Proofs.YtdacpdhpifocbaaW.PrintMore
attribute [local go_sem] max2_int min2_int max_two min_two max_three min_three max_four min_four   -- for this text's walks alone
set_option linter.unusedVariables false
set_option linter.unusedSimpArgs false

/-! ### spec_l72Path: function 35 -/
mutual
def spec_l72Path.l0 : Nat → List (S38) → Int → Int → List Int → Int → Int → Int → Option ((List (S38)) × Int)
  | 0, _, _, _, _, _, _, _ => none
  | k + 1, x4, x5, x6, x1000, x1001, x106000, x106001 => if x6 > 0 then ((spec_l6Rd_pick.f k x1000 x1001 3).bind fun bt113 => (if bt113.1 = 0 then ((spec_l6Rd_pick.f k x1000 bt113.2 4).bind fun bt115 => (spec_l72Path.j1 k x4 bt115.1 x6 x1000 bt115.2 x106000 x106001)) else (spec_l72Path.j1 k x4 x5 x6 x1000 bt113.2 x106000 x106001))) else ((spec_l6Rd_pick.f k x1000 x1001 16).bind fun bt130 => (if bt130.1 = 0 then ((spec_l71Pt.f k x1000 bt130.2).bind fun bt132 => (if x4.length < 8796093022208 then (spec_l72Path.j4 k (x4 ++ [(⟨bt132.1, bt132.2.1⟩ : S38)]) x1000 bt132.2.2) else (none))) else (if bt130.1 = 1 then (if 0 ≤ (x4.length : Int) then (spec_l72Path.j3 k (x4.take (0 : Int).toNat) x1000 bt130.2) else (none)) else (spec_l72Path.j3 k x4 x1000 bt130.2))))
def spec_l72Path.j1 : Nat → List (S38) → Int → Int → List Int → Int → Int → Int → Option ((List (S38)) × Int)
  | 0, _, _, _, _, _, _, _ => none
  | k + 1, x4, x5, x6, x1000, x1001, x106000, x106001 => (some (([1, 0, (-1), 0] : List Int) : List Int)).bind fun y117 => (if 0 ≤ x5 then (if x5 < (y117.length : Int) then ((some (([0, 1, 0, (-1)] : List Int) : List Int)).bind fun y121 => (if x5 < (y121.length : Int) then ((spec_PtOk.f (wrap64 (x106000 + (rd y117 x5))) (wrap64 (x106001 + (rd y121 x5)))).bind fun t126 => (if t126 = true then (if x4.length < 8796093022208 then (spec_l72Path.j2 k (x4 ++ [(⟨wrap64 (x106000 + (rd y117 x5)), wrap64 (x106001 + (rd y121 x5))⟩ : S38)]) x5 x6 x1000 x1001 (wrap64 (x106000 + (rd y117 x5))) (wrap64 (x106001 + (rd y121 x5)))) else (none)) else (spec_l72Path.j2 k x4 x5 x6 x1000 x1001 x106000 x106001))) else (none))) else (none)) else (none))
def spec_l72Path.j2 : Nat → List (S38) → Int → Int → List Int → Int → Int → Int → Option ((List (S38)) × Int)
  | 0, _, _, _, _, _, _, _ => none
  | k + 1, x4, x5, x6, x1000, x1001, x106000, x106001 => spec_l72Path.l0 k x4 x5 (wrap64 (x6 - 1)) x1000 x1001 x106000 x106001
def spec_l72Path.j4 : Nat → List (S38) → List Int → Int → Option ((List (S38)) × Int)
  | 0, _, _, _ => none
  | k + 1, x4, x1000, x1001 => some (x4, x1001)
def spec_l72Path.j3 : Nat → List (S38) → List Int → Int → Option ((List (S38)) × Int)
  | 0, _, _, _ => none
  | k + 1, x4, x1000, x1001 => spec_l72Path.j4 k x4 x1000 x1001
end
def spec_l72Path.f (k : Nat) (s0_0 : List Int) (s0_1 : Int) : Option ((List (S38)) × Int) := (spec_l6Rd_pick.f k s0_0 s0_1 10).bind fun bt101 => ((spec_l6Rd_pick.f k s0_0 bt101.2 10).bind fun bt103 => ((spec_l6Rd_pick.f k s0_0 bt103.2 4).bind fun bt109 => ((spec_l6Rd_pick.f k s0_0 bt109.2 16).bind fun bt111 => (spec_l72Path.l0 k (([(⟨bt101.1, bt103.1⟩ : S38)] : List (S38))) bt109.1 bt111.1 s0_0 bt111.2 bt101.1 bt103.1))))
theorem spec_l72Path.mono_l : ∀ k, (∀ y0 y1 y2 y3 y4 y5 y6, LeO (spec_l72Path.l0 k y0 y1 y2 y3 y4 y5 y6) (spec_l72Path.l0 (k + 1) y0 y1 y2 y3 y4 y5 y6)) ∧ (∀ y0 y1 y2 y3 y4 y5 y6, LeO (spec_l72Path.j1 k y0 y1 y2 y3 y4 y5 y6) (spec_l72Path.j1 (k + 1) y0 y1 y2 y3 y4 y5 y6)) ∧ (∀ y0 y1 y2 y3 y4 y5 y6, LeO (spec_l72Path.j2 k y0 y1 y2 y3 y4 y5 y6) (spec_l72Path.j2 (k + 1) y0 y1 y2 y3 y4 y5 y6)) ∧ (∀ y0 y1 y2, LeO (spec_l72Path.j4 k y0 y1 y2) (spec_l72Path.j4 (k + 1) y0 y1 y2)) ∧ (∀ y0 y1 y2, LeO (spec_l72Path.j3 k y0 y1 y2) (spec_l72Path.j3 (k + 1) y0 y1 y2))
  | 0 => ⟨fun _ _ _ _ _ _ _ r h => by simp [spec_l72Path.l0] at h, fun _ _ _ _ _ _ _ r h => by simp [spec_l72Path.j1] at h, fun _ _ _ _ _ _ _ r h => by simp [spec_l72Path.j2] at h, fun _ _ _ r h => by simp [spec_l72Path.j4] at h, fun _ _ _ r h => by simp [spec_l72Path.j3] at h⟩
  | k + 1 => by
    obtain ⟨ih0, ih1, ih2, ih3, ih4⟩ := spec_l72Path.mono_l k
    refine ⟨?_, ?_, ?_, ?_, ?_⟩
    · intro y0 y1 y2 y3 y4 y5 y6
      unfold spec_l72Path.l0
      repeat' first
      | (with_reducible exact ih0 _ _ _ _ _ _ _)
      | (with_reducible exact ih1 _ _ _ _ _ _ _)
      | (with_reducible exact ih2 _ _ _ _ _ _ _)
      | (with_reducible exact ih3 _ _ _)
      | (with_reducible exact ih4 _ _ _)
      | (with_reducible exact spec_l6Rd_pick.mono _ _ _ _)
      | (with_reducible exact spec_l71Pt.mono _ _ _)
      | (with_reducible exact LeO.refl _)
      | (with_reducible exact LeO.none _)
      | (with_reducible refine LeO.ite ?_ ?_)
      | (with_reducible refine LeO.bind ?_ (fun _ => ?_))
      | exact ih0 _ _ _ _ _ _ _
      | exact ih1 _ _ _ _ _ _ _
      | exact ih2 _ _ _ _ _ _ _
      | exact ih3 _ _ _
      | exact ih4 _ _ _
      | exact spec_l6Rd_pick.mono _ _ _ _
      | exact spec_l71Pt.mono _ _ _
      | exact LeO.none _
      | refine LeO.ite ?_ ?_
      | refine LeO.bind ?_ (fun _ => ?_)
    · intro y0 y1 y2 y3 y4 y5 y6
      unfold spec_l72Path.j1
      repeat' first
      | (with_reducible exact ih0 _ _ _ _ _ _ _)
      | (with_reducible exact ih1 _ _ _ _ _ _ _)
      | (with_reducible exact ih2 _ _ _ _ _ _ _)
      | (with_reducible exact ih3 _ _ _)
      | (with_reducible exact ih4 _ _ _)
      | (with_reducible exact spec_l6Rd_pick.mono _ _ _ _)
      | (with_reducible exact spec_l71Pt.mono _ _ _)
      | (with_reducible exact LeO.refl _)
      | (with_reducible exact LeO.none _)
      | (with_reducible refine LeO.ite ?_ ?_)
      | (with_reducible refine LeO.bind ?_ (fun _ => ?_))
      | exact ih0 _ _ _ _ _ _ _
      | exact ih1 _ _ _ _ _ _ _
      | exact ih2 _ _ _ _ _ _ _
      | exact ih3 _ _ _
      | exact ih4 _ _ _
      | exact spec_l6Rd_pick.mono _ _ _ _
      | exact spec_l71Pt.mono _ _ _
      | exact LeO.none _
      | refine LeO.ite ?_ ?_
      | refine LeO.bind ?_ (fun _ => ?_)
    · intro y0 y1 y2 y3 y4 y5 y6
      unfold spec_l72Path.j2
      repeat' first
      | (with_reducible exact ih0 _ _ _ _ _ _ _)
      | (with_reducible exact ih1 _ _ _ _ _ _ _)
      | (with_reducible exact ih2 _ _ _ _ _ _ _)
      | (with_reducible exact ih3 _ _ _)
      | (with_reducible exact ih4 _ _ _)
      | (with_reducible exact spec_l6Rd_pick.mono _ _ _ _)
      | (with_reducible exact spec_l71Pt.mono _ _ _)
      | (with_reducible exact LeO.refl _)
      | (with_reducible exact LeO.none _)
      | (with_reducible refine LeO.ite ?_ ?_)
      | (with_reducible refine LeO.bind ?_ (fun _ => ?_))
      | exact ih0 _ _ _ _ _ _ _
      | exact ih1 _ _ _ _ _ _ _
      | exact ih2 _ _ _ _ _ _ _
      | exact ih3 _ _ _
      | exact ih4 _ _ _
      | exact spec_l6Rd_pick.mono _ _ _ _
      | exact spec_l71Pt.mono _ _ _
      | exact LeO.none _
      | refine LeO.ite ?_ ?_
      | refine LeO.bind ?_ (fun _ => ?_)
    · intro y0 y1 y2
      unfold spec_l72Path.j4
      repeat' first
      | (with_reducible exact ih0 _ _ _ _ _ _ _)
      | (with_reducible exact ih1 _ _ _ _ _ _ _)
      | (with_reducible exact ih2 _ _ _ _ _ _ _)
      | (with_reducible exact ih3 _ _ _)
      | (with_reducible exact ih4 _ _ _)
      | (with_reducible exact spec_l6Rd_pick.mono _ _ _ _)
      | (with_reducible exact spec_l71Pt.mono _ _ _)
      | (with_reducible exact LeO.refl _)
      | (with_reducible exact LeO.none _)
      | (with_reducible refine LeO.ite ?_ ?_)
      | (with_reducible refine LeO.bind ?_ (fun _ => ?_))
      | exact ih0 _ _ _ _ _ _ _
      | exact ih1 _ _ _ _ _ _ _
      | exact ih2 _ _ _ _ _ _ _
      | exact ih3 _ _ _
      | exact ih4 _ _ _
      | exact spec_l6Rd_pick.mono _ _ _ _
      | exact spec_l71Pt.mono _ _ _
      | exact LeO.none _
      | refine LeO.ite ?_ ?_
      | refine LeO.bind ?_ (fun _ => ?_)
    · intro y0 y1 y2
      unfold spec_l72Path.j3
      repeat' first
      | (with_reducible exact ih0 _ _ _ _ _ _ _)
      | (with_reducible exact ih1 _ _ _ _ _ _ _)
      | (with_reducible exact ih2 _ _ _ _ _ _ _)
      | (with_reducible exact ih3 _ _ _)
      | (with_reducible exact ih4 _ _ _)
      | (with_reducible exact spec_l6Rd_pick.mono _ _ _ _)
      | (with_reducible exact spec_l71Pt.mono _ _ _)
      | (with_reducible exact LeO.refl _)
      | (with_reducible exact LeO.none _)
      | (with_reducible refine LeO.ite ?_ ?_)
      | (with_reducible refine LeO.bind ?_ (fun _ => ?_))
      | exact ih0 _ _ _ _ _ _ _
      | exact ih1 _ _ _ _ _ _ _
      | exact ih2 _ _ _ _ _ _ _
      | exact ih3 _ _ _
      | exact ih4 _ _ _
      | exact spec_l6Rd_pick.mono _ _ _ _
      | exact spec_l71Pt.mono _ _ _
      | exact LeO.none _
      | refine LeO.ite ?_ ?_
      | refine LeO.bind ?_ (fun _ => ?_)
theorem spec_l72Path.mono : ∀ a0 a1 k, LeO (spec_l72Path.f k a0 a1) (spec_l72Path.f (k + 1) a0 a1) := by
  intro a0 a1 k
  obtain ⟨ih0, ih1, ih2, ih3, ih4⟩ := spec_l72Path.mono_l k
  unfold spec_l72Path.f
  repeat' first
      | (with_reducible exact ih0 _ _ _ _ _ _ _)
      | (with_reducible exact ih1 _ _ _ _ _ _ _)
      | (with_reducible exact ih2 _ _ _ _ _ _ _)
      | (with_reducible exact ih3 _ _ _)
      | (with_reducible exact ih4 _ _ _)
      | (with_reducible exact spec_l6Rd_pick.mono _ _ _ _)
      | (with_reducible exact spec_l71Pt.mono _ _ _)
      | (with_reducible exact LeO.refl _)
      | (with_reducible exact LeO.none _)
      | (with_reducible refine LeO.ite ?_ ?_)
      | (with_reducible refine LeO.bind ?_ (fun _ => ?_))
      | exact ih0 _ _ _ _ _ _ _
      | exact ih1 _ _ _ _ _ _ _
      | exact ih2 _ _ _ _ _ _ _
      | exact ih3 _ _ _
      | exact ih4 _ _ _
      | exact spec_l6Rd_pick.mono _ _ _ _
      | exact spec_l71Pt.mono _ _ _
      | exact LeO.none _
      | refine LeO.ite ?_ ?_
      | refine LeO.bind ?_ (fun _ => ?_)
def spec_l72Path.T9 : Bool × List (List Nat × List Nat) := (true, [([], []), ([0], [0]), ([], []), ([], []), ([2, 3], [2, 3]), ([4], [4]), ([1, 5], [1, 5]), ([], []), ([7], [7]), ([], []), ([], []), ([9, 10], [9, 10]), ([11], [11]), ([8, 12], [8, 12]), ([6, 13], [6, 13]), ([], []), ([15, 14, 0, 1, 2, 3, 4, 5, 6, 7, 8, 9, 10, 11, 12, 13, 14, 15], [14, 15])])
def spec_l72Path.B9 : List Nat := [0, 1, 0, 0, 12, 28, 63, 0, 128, 0, 0, 1536, 3584, 8064, 16383, 0, 65535]
theorem spec_l72Path.tab9 : rtab .any (opsOf Try.f35 9) = spec_l72Path.T9 := by kernel_rfl
theorem spec_l72Path.bits9 : waitsOk spec_l72Path.T9.2 spec_l72Path.B9 = true := by kernel_rfl
set_option hygiene false in
local macro "zq16_1" : tactic => `(tactic| (with_reducible repeat (first | refine blk_drewN ?_ _ | refine blk_drew ?_ | refine blk_alloc ?_ _)))
set_option hygiene false in
local macro "zq16_2" : tactic => `(tactic| (with_reducible repeat (first | apply Kd.R_alloc | apply Kd.R_drewN | apply Kd.R_drew)))
set_option hygiene false in
local macro "zq16_3" : term => `((by repeat (first | (with_reducible first | exact HK.out | apply KeepBut.set_ | apply keep_drewN | apply keep_drew | apply keep_alloc | refine keep_far ?_ GW105.out _) | exact HK.out)))
set_option hygiene false in
local macro "zq16_4" : term => `((by repeat (first | (with_reducible first | exact HK.out | apply KeepBut.set_ | apply keep_drewN | apply keep_drew | apply keep_alloc | refine keep_far ?_ GW105.out _ | refine keep_far ?_ GW125.out _) | exact HK.out)))
set_option hygiene false in
local macro "zq16_5" : term => `((by first | (simp only [putAll, Act.put, List.setIfInBounds_toArray, List.set_cons_zero, List.set_cons_succ]; done) | (simp only [putAll, Act.put, List.setIfInBounds_toArray, List.set_cons_zero, List.set_cons_succ]; rfl)))
set_option hygiene false in
local macro "zq16_6" : term => `((by repeat (first | (with_reducible first | exact HB.out | apply below_alloc | apply pw_below_drewN | apply below_drew1 | refine below_set ?_ (IsS57.ge HI0.out) | refine below_set ?_ GE105.out | refine below_set ?_ GE125.out) | exact HB.out)))
set_option hygiene false in
local macro "zq16_7" : term => `((by repeat (first | (with_reducible first | exact HI0.out | apply IsS57.alloc | apply IsS57.drewN | apply IsS57.drew | apply IsS57.set_1 | refine IsS57.far ?_ NB0_105.out _ | refine IsS57.far ?_ NB0_125.out _) | exact HI0.out)))
set_option hygiene false in
local macro "zq16_8" : term => `((by repeat (first | (with_reducible first | exact HB.out | apply below_alloc | apply pw_below_drewN | apply below_drew1 | refine below_set ?_ (IsS57.ge HI0.out) | refine below_set ?_ GE105.out) | exact HB.out)))
set_option hygiene false in
local macro "zq16_9" : term => `((by repeat (first | (with_reducible first | exact HI0.out | apply IsS57.alloc | apply IsS57.drewN | apply IsS57.drew | apply IsS57.set_1 | refine IsS57.far ?_ NB0_105.out _) | exact HI0.out)))
set_option hygiene false in
local macro "zq16_10" : term => `((by rw [hg]; exact Nat.ne_of_lt (IsS57.lt (show IsS57 w0 _ g s0_0 x1001_16 from by repeat (first | (with_reducible first | exact HI0.out | apply IsS57.alloc | apply IsS57.drewN | apply IsS57.drew | apply IsS57.set_1 | refine IsS57.far ?_ NB0_105.out _) | exact HI0.out))) : g ≠ gb125))
set_option hygiene false in
local macro "zq16_11" : term => `((by rw [hg]; exact Nat.ne_of_gt (IsS57.lt (show IsS57 w0 _ g s0_0 x1001_16 from by repeat (first | (with_reducible first | exact HI0.out | apply IsS57.alloc | apply IsS57.drewN | apply IsS57.drew | apply IsS57.set_1 | refine IsS57.far ?_ NB0_105.out _) | exact HI0.out))) : gb125 ≠ g))
set_option hygiene false in
local macro "zq16_12" : tactic => `(tactic| (case hp => exact (Reps.one (show Kd.M (Kd.int .i64) _ _ _ 1 [.int .i64 1] from rfl) (Reps.one (show Kd.M (Kd.int .i64) _ _ _ 0 [.int .i64 0] from rfl) (Reps.one (show Kd.M (Kd.int .i64) _ _ _ (-1) [.int .i64 (-1)] from rfl) (Reps.one (show Kd.M (Kd.int .i64) _ _ _ 0 [.int .i64 0] from rfl) (Reps.none _ _)))))))
set_option hygiene false in
local macro "zq16_13" : tactic => `(tactic| (case hp => exact (Reps.one (show Kd.M (Kd.int .i64) _ _ _ 0 [.int .i64 0] from rfl) (Reps.one (show Kd.M (Kd.int .i64) _ _ _ 1 [.int .i64 1] from rfl) (Reps.one (show Kd.M (Kd.int .i64) _ _ _ 0 [.int .i64 0] from rfl) (Reps.one (show Kd.M (Kd.int .i64) _ _ _ (-1) [.int .i64 (-1)] from rfl) (Reps.none _ _)))))))
set_option hygiene false in
local macro "zq16_15" : term => `((by first | (with_reducible assumption) | assumption))
set_option hygiene false in
local macro "zq16_18" : term => `((by (try simp only [List.map_toArray, List.map_cons, List.map_nil]); first | done | rfl | (simp only [List.length_drop, List.length_take]; rfl)))
set_option hygiene false in
local macro "zq16_19" : tactic => `(tactic| (case side2 => repeat (first | (with_reducible first | exact HB.out | apply below_alloc | apply pw_below_drewN | apply below_drew1 | refine below_set ?_ (IsS57.ge HI0.out) | refine below_set ?_ GE105.out) | exact HB.out)))
set_option hygiene false in
local macro "zq16_20" : tactic => `(tactic| (case hr => first | (go_simp; done) | (go_simp; rfl)))
set_option hygiene false in
local macro "zq16_21" : tactic => `(tactic| (case side1 => repeat (first | (with_reducible first | exact HI0.out | apply IsS57.alloc | apply IsS57.drewN | apply IsS57.drew | apply IsS57.set_1 | refine IsS57.far ?_ NB0_105.out _) | exact HI0.out)))
set_option hygiene false in
local macro "zq16_22" : term => `((by repeat (first | (with_reducible first | exact HK.out | apply KeepBut.set_ | apply keep_drewN | apply keep_drew | apply keep_alloc) | exact HK.out)))
set_option hygiene false in
local macro "zq16_26" : term => `((by first | rfl | (simp; done) | (simp [*]; done)))
set_option hygiene false in
local macro "zq16_28" : tactic => `(tactic| (case side2 => repeat (first | (with_reducible first | exact HB.out | apply below_alloc | apply pw_below_drewN | apply below_drew1 | refine below_set ?_ (IsS57.ge HI0.out)) | exact HB.out)))
set_option hygiene false in
local macro "zq16_29" : tactic => `(tactic| (try simp only [Act.put, List.setIfInBounds_toArray, List.set_cons_zero, List.set_cons_succ]))
set_option hygiene false in
local macro "zq16_31" : tactic => `(tactic| (case side1 => repeat (first | (with_reducible first | exact HI0.out | apply IsS57.alloc | apply IsS57.drewN | apply IsS57.drew | apply IsS57.set_1) | exact HI0.out)))
set_option hygiene false in
local macro "zq16_14" : term => `((by rw [hg]; exact (keep_size (w := w) (g := g) (row := none) zq16_3) : w.heap.size ≤ gb125))
set_option hygiene false in
local macro "zq16_16" : term => `((by rw [hg]; exact Nat.ne_of_lt (blk_lt (g := gb105) (o := .cells #[.int .i64 x106000_1, .int .i64 x106001_1] 38 (0, 0)) (by (zq16_1); exact BK105.out)) : gb105 ≠ gb125))
set_option hygiene false in
local macro "zq16_17" : term => `((by rw [hg]; exact Nat.ne_of_gt (blk_lt (g := gb105) (o := .cells #[.int .i64 x106000_1, .int .i64 x106001_1] 38 (0, 0)) (by (zq16_1); exact BK105.out)) : gb125 ≠ gb105))
set_option hygiene false in
local macro "zq16_23" : term => `((by (zq16_2); exact Kd.R_mono HO119.out (fun _ hk => hk.2)))
set_option hygiene false in
local macro "zq16_24" : term => `((by (zq16_2); exact Kd.R_mono HO123.out (fun _ hk => hk.2)))
set_option hygiene false in
local macro "zq16_25" : term => `((by (zq16_2); exact (Kd.R_mono (Kd.R_far (p := ⟨gb105, 1, none⟩) (Kd.R_far (p := ⟨gb105, 0, none⟩) (Kd.R_mono HO_4.out (fun k_ hk => (⟨hk, hk.1⟩ : _ ∧ k_ ≠ gb105))) (fun _ hk => hk.2) (.int .i64 (wrap64 (x106000_1 + (rd y117 x5_16))))) (fun _ hk => hk.2) (.int .i64 (wrap64 (x106001_1 + (rd y121 x5_16))))) (fun _ h_ => h_.1))))
set_option hygiene false in
local macro "zq16_27" : term => `((by (zq16_1); refine blk_put (cs := #[.int .i64 (wrap64 (x106000_1 + (rd y117 x5_16))), .int .i64 x106001_1]) ?_ 1 _ rfl; (zq16_1); refine blk_put (cs := #[.int .i64 x106000_1, .int .i64 x106001_1]) ?_ 0 _ rfl; (zq16_1); exact BK105.out))
set_option hygiene false in
local macro "zq16_30" : term => `((by (zq16_1); refine blk_put (cs := #[.int .i64 t101, .int .i64 0]) ?_ 1 _ rfl; (zq16_1); refine blk_put (cs := #[.int .i64 0, .int .i64 0]) ?_ 0 _ rfl; (zq16_1); exact BK105.out))
set_option maxHeartbeats 8000000 in
set_option maxRecDepth 100000 in
theorem spec_l72Path.calls (k : Nat) (g : Nat) (s0_0 : List Int) (s0_1 : Int) (r1 : List (S38)) (r2 : Int) (w0 w : World) (hI : IsS57 w0 w g s0_0 s0_1) (hB : Below w0.heap.size w0 w) (h : spec_l72Path.f k s0_0 s0_1 = some (r1, r2)) :
  Calls Try.prog 35 #[.pointer (some ⟨g, 0, none⟩)] w fun e w' => ∃ v0_ : Value, e = .returned (v0_) ∧ Kd.R k38 38 w' w.heap.size (fun _ => True) v0_ r1 ∧ IsS57 w0 w' g s0_0 r2 ∧ Below w0.heap.size w0 w' ∧ KeepBut w w' g none := by
 have hu38 := Try.underlying38
 have HI0 := Aside0.mk hI
 have HK := Aside0.mk (KeepBut.refl w g none)
 have HL := Aside0.mk hB.size
 clear hI
 have HW0 := Aside0.mk hB.size
 have HB := Aside0.mk hB
 clear hB
 have H : ((spec_l6Rd_pick.f k s0_0 s0_1 10).bind fun bt101 => ((spec_l6Rd_pick.f k s0_0 bt101.2 10).bind fun bt103 => ((spec_l6Rd_pick.f k s0_0 bt103.2 4).bind fun bt109 => ((spec_l6Rd_pick.f k s0_0 bt109.2 16).bind fun bt111 => (spec_l72Path.l0 k (([(⟨bt101.1, bt103.1⟩ : S38)] : List (S38))) bt109.1 bt111.1 s0_0 bt111.2 bt101.1 bt103.1))))) = some (r1, r2) := h
 clear h
 replace H := Option.bind_eq_some_iff.mp H
 obtain ⟨⟨t101, t102⟩, A20, H⟩ := H
 replace H : ((spec_l6Rd_pick.f k s0_0 t102 10).bind fun bt103 => ((spec_l6Rd_pick.f k s0_0 bt103.2 4).bind fun bt109 => ((spec_l6Rd_pick.f k s0_0 bt109.2 16).bind fun bt111 => (spec_l72Path.l0 k (([(⟨t101, bt103.1⟩ : S38)] : List (S38))) bt109.1 bt111.1 s0_0 bt111.2 t101 bt103.1)))) = some (r1, r2) := H
 have A2 := Aside0.mk A20
 clear A20
 replace H := Option.bind_eq_some_iff.mp H
 obtain ⟨⟨t103, t104⟩, A30, H⟩ := H
 replace H : ((spec_l6Rd_pick.f k s0_0 t104 4).bind fun bt109 => ((spec_l6Rd_pick.f k s0_0 bt109.2 16).bind fun bt111 => (spec_l72Path.l0 k (([(⟨t101, t103⟩ : S38)] : List (S38))) bt109.1 bt111.1 s0_0 bt111.2 t101 t103))) = some (r1, r2) := H
 have A3 := Aside0.mk A30
 clear A30
 obtain ⟨y106, hy106⟩ : ∃ y_ : List (S38), y_ = (([(⟨t101, t103⟩ : S38)] : List (S38))) := ⟨_, rfl⟩
 replace H : ((spec_l6Rd_pick.f k s0_0 t104 4).bind fun bt109 => ((spec_l6Rd_pick.f k s0_0 bt109.2 16).bind fun bt111 => (spec_l72Path.l0 k y106 bt109.1 bt111.1 s0_0 bt111.2 t101 t103))) = some (r1, r2) := by first | (rw [hy106]; with_reducible exact H) | (have H2_ := (Option.bind_some _ _).symm.trans H; rw [hy106]; with_reducible exact H2_) | (have H2_ := (Option.bind_some _ _).symm.trans H; with_reducible exact H2_) | with_reducible exact H | (rw [hy106]; exact H) | exact H
 have Ny106 := Aside0.mk hy106
 clear hy106
 replace H := Option.bind_eq_some_iff.mp H
 obtain ⟨⟨t109, t110⟩, A40, H⟩ := H
 replace H : ((spec_l6Rd_pick.f k s0_0 t110 16).bind fun bt111 => (spec_l72Path.l0 k y106 t109 bt111.1 s0_0 bt111.2 t101 t103)) = some (r1, r2) := H
 have A4 := Aside0.mk A40
 clear A40
 replace H := Option.bind_eq_some_iff.mp H
 obtain ⟨⟨t111, t112⟩, A50, H⟩ := H
 replace H : (spec_l72Path.l0 k y106 t109 t111 s0_0 t112 t101 t103) = some (r1, r2) := H
 have A5 := Aside0.mk A50
 clear A50
 have H' := Aside0.mk H
 clear H
 go_enter Try.func35, Try.ntmps35
 go_wp2_with (first | ((with_reducible refine gate_callee (f := 38) rfl ?_); refine goesL_ (some 9) rfl rfl Try.func38 (by kernel_rfl) rfl #[.pointer (some ⟨g, 0, none⟩), .int .i64 10] rfl zq16_18 ?_; (with_reducible refine (spec_l6Rd_pick.calls k g s0_0 s0_1 10 t101 t102 w0 _ ?side1 ?side2 A2.out).mono ?_); (zq16_31); (zq16_28); rintro e w6 ⟨rfl, hi, hb, hk⟩; refine ⟨_, rfl, ?_⟩; have n0_ := Aside0.mk (KeepBut.trans zq16_22 hk (.inl rfl)); have n1_ := Aside0.mk (hb); have n2_ := Aside0.mk (hi); clear HK; clear HB; clear HI0; have HK := n0_; have HB := n1_; have HI0 := n2_; clear n0_ n1_ n2_; (try clear hb); (try clear hb2); (try clear hk); (try clear hi)) | ((with_reducible refine gate_callee (f := 38) rfl ?_); refine goesL_ (some 11) rfl rfl Try.func38 (by kernel_rfl) rfl #[.pointer (some ⟨g, 0, none⟩), .int .i64 10] rfl zq16_18 ?_; (with_reducible refine (spec_l6Rd_pick.calls k g s0_0 t102 10 t103 t104 w0 _ ?side1 ?side2 A3.out).mono ?_); (zq16_31); (zq16_28); rintro e w7 ⟨rfl, hi, hb, hk⟩; refine ⟨_, rfl, ?_⟩; have n0_ := Aside0.mk (KeepBut.trans zq16_22 hk (.inl rfl)); have n1_ := Aside0.mk (hb); have n2_ := Aside0.mk (hi); clear HK; clear HB; clear HI0; have HK := n0_; have HB := n1_; have HI0 := n2_; clear n0_ n1_ n2_; (try clear hb); (try clear hb2); (try clear hk); (try clear hi)) | ((with_reducible refine gate_dst (N := 3) rfl ?_); refine box_event ?hg (N := 3) ?hd (cs := #[.int .i64 0, .int .i64 0]) (t := 38) ?hr ?_; (case hd => rfl); (case hg => rfl); (zq16_20); intro gb105 hg w8 hbox hb; have n0_ := Aside0.mk (IsS57.below (by repeat (first | (with_reducible first | exact HI0.out | apply IsS57.alloc | apply IsS57.drewN | apply IsS57.drew | apply IsS57.set_1) | exact HI0.out)) hb); have n1_ := Aside0.mk (KeepBut.trans zq16_22 (KeepBut.of_below hb g none) (.inl rfl)); have n2_ := Aside0.mk (below_step (by repeat (first | (with_reducible first | exact HB.out | apply below_alloc | apply pw_below_drewN | apply below_drew1 | refine below_set ?_ (IsS57.ge HI0.out)) | exact HB.out)) hb); have n3_ := Aside0.mk (hbox); have n4_ := Aside0.mk ((by rw [hg]; exact (keep_size (w := w) (g := g) (row := none) zq16_22) : w.heap.size ≤ gb105)); have n5_ := Aside0.mk ((Nat.le_trans HW0.out (by rw [hg]; exact (keep_size (w := w) (g := g) (row := none) zq16_22) : w.heap.size ≤ gb105) : w0.heap.size ≤ gb105)); have n6_ := Aside0.mk ((by rw [hg]; exact Nat.ne_of_lt (IsS57.lt (show IsS57 w0 _ g s0_0 t104 from by repeat (first | (with_reducible first | exact HI0.out | apply IsS57.alloc | apply IsS57.drewN | apply IsS57.drew | apply IsS57.set_1) | exact HI0.out))) : g ≠ gb105)); have n7_ := Aside0.mk ((by rw [hg]; exact Nat.ne_of_gt (IsS57.lt (show IsS57 w0 _ g s0_0 t104 from by repeat (first | (with_reducible first | exact HI0.out | apply IsS57.alloc | apply IsS57.drewN | apply IsS57.drew | apply IsS57.set_1) | exact HI0.out))) : gb105 ≠ g)); clear HI0; clear HK; clear HB; have HI0 := n0_; have HK := n1_; have HB := n2_; have BK105 := n3_; have GW105 := n4_; have GE105 := n5_; have NB0_105 := n6_; have NB105_0 := n7_; clear n0_ n1_ n2_ n3_ n4_ n5_ n6_ n7_; clear hb hbox hg; have hnb9 := NB105_0.out; have hnc9 := NB0_105.out; have hcz10_0 : w8.cell? ⟨gb105, 0, none⟩ = some (.int .i64 0) := (blk_cell BK105.out 0).trans rfl; have hcz10_1 : w8.cell? ⟨gb105, 1, none⟩ = some (.int .i64 0) := (blk_cell BK105.out 1).trans rfl; have hfz10_0 := blk_frozen BK105.out 0; have hfz10_1 := blk_frozen BK105.out 1) | ((with_reducible refine gate_dst (N := 14) rfl ?_); refine Kd.R_lit k38 _ 38 ?hg (N := 14) ?hd (xs := ([(⟨t101, t103⟩ : S38)] : List (S38))) (inner := [.int .i64 t101, .int .i64 t103]) (ok := fun _ => True) (okp := fun _ => True) ?hr ?hp (fun _ hk => hk) trivial (Below.refl _ _) (Nat.le_refl _) (by simp) ?_; (case hd => rfl); (case hg => rfl); (zq16_20); (case hp => exact (Reps.c2 (show Kd.M k38 _ _ _ (⟨t101, t103⟩ : S38) [.int .i64 t101, .int .i64 t103] from (k38_mkM _ _ _ (⟨t101, t103⟩ : S38) )) (Reps.none _ _))); intro v107 w11 ho12 hb hg_ hnew_; clear hg_ hnew_; (first | rw [← Ny106.out] at ho12 | (simp only [Int.reduceToNat] at ho12; rw [← Ny106.out] at ho12)); have n0_ := Aside0.mk (Kd.R_lower (Kd.R_newB ho12 (g := gb105) (o := .cells #[.int .i64 t101, .int .i64 t103] 38 (0, 0)) zq16_30) (keep_size (w := w) (g := g) (row := none) zq16_3)); have n1_ := Aside0.mk (IsS57.below (show IsS57 w0 ((w8.setCell ⟨gb105, 0, none⟩ (.int .i64 t101)).setCell ⟨gb105, 1, none⟩ (.int .i64 t103)) g s0_0 t104 from by repeat (first | (with_reducible first | exact HI0.out | apply IsS57.alloc | apply IsS57.drewN | apply IsS57.drew | apply IsS57.set_1 | refine IsS57.far ?_ NB0_105.out _) | exact HI0.out)) hb); have n2_ := Aside0.mk (blk_below (g := gb105) (o := .cells #[.int .i64 t101, .int .i64 t103] 38 (0, 0)) zq16_30 hb); have n3_ := Aside0.mk (KeepBut.trans zq16_3 (KeepBut.of_below hb g none) (.inl rfl)); have n4_ := Aside0.mk (below_step zq16_8 hb); clear HI0; clear BK105; clear HK; clear HB; have HO108 := n0_; have HI0 := n1_; have BK105 := n2_; have HK := n3_; have HB := n4_; clear n0_ n1_ n2_ n3_ n4_; clear hb ho12) | ((with_reducible refine gate_callee (f := 38) rfl ?_); refine goesL_ (some 16) rfl rfl Try.func38 (by kernel_rfl) rfl #[.pointer (some ⟨g, 0, none⟩), .int .i64 4] rfl zq16_18 ?_; (with_reducible refine (spec_l6Rd_pick.calls k g s0_0 t104 4 t109 t110 w0 _ ?side1 ?side2 A4.out).mono ?_); (zq16_21); (zq16_19); rintro e w13 ⟨rfl, hi, hb, hk⟩; refine ⟨_, rfl, ?_⟩; have n0_ := Aside0.mk (KeepBut.blk hk (g' := gb105) (o := .cells #[.int .i64 t101, .int .i64 t103] 38 (0, 0)) (by (zq16_1); exact BK105.out) NB105_0.out (by simp)); have n1_ := Aside0.mk (Kd.R_mono (Kd.R_keep (IsS57.apart (show IsS57 w0 _ g s0_0 t104 from by repeat (first | (with_reducible first | exact HI0.out | apply IsS57.alloc | apply IsS57.drewN | apply IsS57.drew | apply IsS57.set_1 | refine IsS57.far ?_ NB0_105.out _) | exact HI0.out)) (by (zq16_2); exact HO108.out) (by decide)) hk (fun _ h => h.2)) (fun _ h => h.1)); have n2_ := Aside0.mk (KeepBut.trans zq16_3 hk (.inl rfl)); have n3_ := Aside0.mk (hb); have n4_ := Aside0.mk (hi); clear BK105; clear HO108; clear HK; clear HB; clear HI0; have BK105 := n0_; have HO108 := n1_; have HK := n2_; have HB := n3_; have HI0 := n4_; clear n0_ n1_ n2_ n3_ n4_; (try clear hb); (try clear hb2); (try clear hk); (try clear hi)) | ((with_reducible refine gate_callee (f := 38) rfl ?_); refine goesL_ (some 18) rfl rfl Try.func38 (by kernel_rfl) rfl #[.pointer (some ⟨g, 0, none⟩), .int .i64 16] rfl zq16_18 ?_; (with_reducible refine (spec_l6Rd_pick.calls k g s0_0 t110 16 t111 t112 w0 _ ?side1 ?side2 A5.out).mono ?_); (zq16_21); (zq16_19); rintro e w14 ⟨rfl, hi, hb, hk⟩; refine ⟨_, rfl, ?_⟩; have n0_ := Aside0.mk (KeepBut.blk hk (g' := gb105) (o := .cells #[.int .i64 t101, .int .i64 t103] 38 (0, 0)) (by (zq16_1); exact BK105.out) NB105_0.out (by simp)); have n1_ := Aside0.mk (Kd.R_mono (Kd.R_keep (IsS57.apart (show IsS57 w0 _ g s0_0 t110 from by repeat (first | (with_reducible first | exact HI0.out | apply IsS57.alloc | apply IsS57.drewN | apply IsS57.drew | apply IsS57.set_1 | refine IsS57.far ?_ NB0_105.out _) | exact HI0.out)) (by (zq16_2); exact HO108.out) (by decide)) hk (fun _ h => h.2)) (fun _ h => h.1)); have n2_ := Aside0.mk (KeepBut.trans zq16_3 hk (.inl rfl)); have n3_ := Aside0.mk (hb); have n4_ := Aside0.mk (hi); clear BK105; clear HO108; clear HK; clear HB; clear HI0; have BK105 := n0_; have HO108 := n1_; have HK := n2_; have HB := n3_; have HI0 := n4_; clear n0_ n1_ n2_ n3_ n4_; (try clear hb); (try clear hb2); (try clear hk); (try clear hi)))
 go_loopg [4, 5, 6] k (fun kq v4 v5 v6 w' => ∃ (x4_1 : List (S38)) (x5_1 : Int) (x6_1 : Int) (x1001_1 : Int) (x106000_1 : Int) (x106001_1 : Int), v5 = .int .i64 x5_1 ∧ v6 = .int .i64 x6_1 ∧ Aside0 (spec_l72Path.l0 kq x4_1 x5_1 x6_1 s0_0 x1001_1 x106000_1 x106001_1 = some (r1, r2)) ∧ Aside0 (kq ≤ k) ∧ Aside0 (Kd.R k38 38 w' w.heap.size (fun k_ => k_ ≠ gb105) v4 x4_1) ∧ Aside0 (w'.heap[gb105]? = some (.cells #[.int .i64 x106000_1, .int .i64 x106001_1] 38 (0, 0))) ∧ Aside0 (IsS57 w0 w' g s0_0 x1001_1) ∧ Aside0 (KeepBut w w' g none) ∧ Aside0 (Below w0.heap.size w0 w'))
 case atStart => exact ⟨(y106), (t109), (t111), (t112), (t101), (t103), zq16_26, zq16_26, H', ⟨Nat.le_refl _⟩, ⟨by (zq16_2); exact Kd.R_mono HO108.out (fun _ hk => hk.2)⟩, ⟨by (zq16_1); exact BK105.out⟩, ⟨by repeat (first | (with_reducible first | exact HI0.out | apply IsS57.alloc | apply IsS57.drewN | apply IsS57.drew | apply IsS57.set_1 | refine IsS57.far ?_ NB0_105.out _) | exact HI0.out)⟩, ⟨by repeat (first | (with_reducible first | exact HK.out | apply KeepBut.set_ | apply keep_drewN | apply keep_drew | apply keep_alloc | refine keep_far ?_ GW105.out _) | exact HK.out)⟩, ⟨by repeat (first | (with_reducible first | exact HB.out | apply below_alloc | apply pw_below_drewN | apply below_drew1 | refine below_set ?_ (IsS57.ge HI0.out) | refine below_set ?_ GE105.out) | exact HB.out)⟩⟩
 case round =>
  clear H'
  try clear c2
  try clear p2
  try clear c3
  try clear c9
  try clear hcz10_0
  try clear hcz10_1
  try clear hfz10_0
  try clear hfz10_1
  obtain ⟨x4_1, x5_1, x6_1, x1001_1, x106000_1, x106001_1, rfl, rfl, HA, HK1, HO_4, BK105, HI0, HK, HB⟩ := hrel
  cases gk with
  | zero => exact absurd HA.out (by simp [spec_l72Path.l0])
  | succ k1 =>
   have H := HA.out
   clear HA
   simp only [spec_l72Path.l0] at H
   by_cases c15 : x6_1 > 0
   ·rw [if_pos c15] at H
    have c15b0 : decide (0 < x6_1) = true := decide_eq_true c15
    clear c15
    replace H := Option.bind_eq_some_iff.mp H
    obtain ⟨⟨t113, t114⟩, A160, H⟩ := H
    replace H : (if t113 = 0 then ((spec_l6Rd_pick.f k1 s0_0 t114 4).bind fun bt115 => (spec_l72Path.j1 k1 x4_1 bt115.1 x6_1 s0_0 bt115.2 x106000_1 x106001_1)) else (spec_l72Path.j1 k1 x4_1 x5_1 x6_1 s0_0 t114 x106000_1 x106001_1)) = some (r1, r2) := H
    have A16 := Aside0.mk A160
    clear A160
    have HC17 := Aside0.mk H
    clear H
    go_upto_if 25 with (first | ((with_reducible refine gate_callee (f := 38) rfl ?_); refine goesL_ (some 24) rfl rfl Try.func38 (by kernel_rfl) rfl #[.pointer (some ⟨g, 0, none⟩), .int .i64 3] rfl zq16_18 ?_; (with_reducible refine (spec_l6Rd_pick.calls k1 g s0_0 x1001_1 3 t113 t114 w0 _ ?side1 ?side2 A16.out).mono ?_); (zq16_21); (zq16_19); rintro e w18 ⟨rfl, hi, hb, hk⟩; refine ⟨_, rfl, ?_⟩; have n0_ := Aside0.mk (Kd.R_mono (Kd.R_keep (IsS57.apart (show IsS57 w0 _ g s0_0 x1001_1 from by repeat (first | (with_reducible first | exact HI0.out | apply IsS57.alloc | apply IsS57.drewN | apply IsS57.drew | apply IsS57.set_1 | refine IsS57.far ?_ NB0_105.out _) | exact HI0.out)) (by (zq16_2); exact HO_4.out) (by decide)) hk (fun _ h => h.2)) (fun _ h => h.1)); have n1_ := Aside0.mk (KeepBut.blk hk (g' := gb105) (o := .cells #[.int .i64 x106000_1, .int .i64 x106001_1] 38 (0, 0)) (by (zq16_1); exact BK105.out) NB105_0.out (by simp)); have n2_ := Aside0.mk (KeepBut.trans zq16_3 hk (.inl rfl)); have n3_ := Aside0.mk (hb); have n4_ := Aside0.mk (hi); clear HO_4; clear BK105; clear HK; clear HB; clear HI0; have HO_4 := n0_; have BK105 := n1_; have HK := n2_; have HB := n3_; have HI0 := n4_; clear n0_ n1_ n2_ n3_ n4_; (try clear hb); (try clear hb2); (try clear hk); (try clear hi)))
    (zq16_29)
    go_cut [5] (fun v5 wc => ∃ (kq : Nat) (x5_16 : Int) (x1001_16 : Int), v5 = .int .i64 x5_16 ∧ Aside0 (spec_l72Path.j1 kq x4_1 x5_16 x6_1 s0_0 x1001_16 x106000_1 x106001_1 = some (r1, r2)) ∧ Aside0 (kq ≤ k1) ∧ Aside0 (Kd.R k38 38 wc w.heap.size (fun k_ => k_ ≠ gb105) u4 x4_1) ∧ Aside0 (wc.heap[gb105]? = some (.cells #[.int .i64 x106000_1, .int .i64 x106001_1] 38 (0, 0))) ∧ Aside0 (IsS57 w0 wc g s0_0 x1001_16) ∧ Aside0 (KeepBut w wc g none) ∧ Aside0 (Below w0.heap.size w0 wc))
    case first =>
     have H := HC17.out
     clear HC17
     by_cases c19 : t113 = 0
     ·rw [if_pos c19] at H
      have c19b0 : (t113 == 0) = true := beq_iff_eq.mpr c19
      have c19b1 : (t113 != 0) = false := bne_eq_false_iff_eq.mpr c19
      clear c19
      (first | rw [c19b0] | (simp only [i64_w, i32_w]; rw [c19b0]) | skip)
      replace H := Option.bind_eq_some_iff.mp H
      obtain ⟨⟨t115, t116⟩, A200, H⟩ := H
      replace H : (spec_l72Path.j1 k1 x4_1 t115 x6_1 s0_0 t116 x106000_1 x106001_1) = some (r1, r2) := H
      have A20 := Aside0.mk A200
      clear A200
      have H' := Aside0.mk H
      clear H
      go_wp2_with (first | ((with_reducible refine gate_callee (f := 38) rfl ?_); refine goesL_ (some 27) rfl rfl Try.func38 (by kernel_rfl) rfl #[.pointer (some ⟨g, 0, none⟩), .int .i64 4] rfl zq16_18 ?_; (with_reducible refine (spec_l6Rd_pick.calls k1 g s0_0 t114 4 t115 t116 w0 _ ?side1 ?side2 A20.out).mono ?_); (zq16_21); (zq16_19); rintro e w21 ⟨rfl, hi, hb, hk⟩; refine ⟨_, rfl, ?_⟩; have n0_ := Aside0.mk (Kd.R_mono (Kd.R_keep (IsS57.apart (show IsS57 w0 _ g s0_0 t114 from by repeat (first | (with_reducible first | exact HI0.out | apply IsS57.alloc | apply IsS57.drewN | apply IsS57.drew | apply IsS57.set_1 | refine IsS57.far ?_ NB0_105.out _) | exact HI0.out)) (by (zq16_2); exact HO_4.out) (by decide)) hk (fun _ h => h.2)) (fun _ h => h.1)); have n1_ := Aside0.mk (KeepBut.blk hk (g' := gb105) (o := .cells #[.int .i64 x106000_1, .int .i64 x106001_1] 38 (0, 0)) (by (zq16_1); exact BK105.out) NB105_0.out (by simp)); have n2_ := Aside0.mk (KeepBut.trans zq16_3 hk (.inl rfl)); have n3_ := Aside0.mk (hb); have n4_ := Aside0.mk (hi); clear HO_4; clear BK105; clear HK; clear HB; clear HI0; have HO_4 := n0_; have BK105 := n1_; have HK := n2_; have HB := n3_; have HI0 := n4_; clear n0_ n1_ n2_ n3_ n4_; (try clear hb); (try clear hb2); (try clear hk); (try clear hi)))
      go_meet
      case rel => exact ⟨_, (t115), (t116), zq16_26, H', ⟨by have := HK1.out; first | omega | exact Nat.le_refl _⟩, ⟨by (zq16_2); exact HO_4.out⟩, ⟨by (zq16_1); exact BK105.out⟩, ⟨by repeat (first | (with_reducible first | exact HI0.out | apply IsS57.alloc | apply IsS57.drewN | apply IsS57.drew | apply IsS57.set_1 | refine IsS57.far ?_ NB0_105.out _) | exact HI0.out)⟩, ⟨by repeat (first | (with_reducible first | exact HK.out | apply KeepBut.set_ | apply keep_drewN | apply keep_drew | apply keep_alloc | refine keep_far ?_ GW105.out _) | exact HK.out)⟩, ⟨by repeat (first | (with_reducible first | exact HB.out | apply below_alloc | apply pw_below_drewN | apply below_drew1 | refine below_set ?_ (IsS57.ge HI0.out) | refine below_set ?_ GE105.out) | exact HB.out)⟩⟩
     ·rw [if_neg c19] at H
      have c19b0 : (t113 == 0) = false := beq_eq_false_iff_ne.mpr c19
      have c19b1 : (t113 != 0) = true := bne_iff_ne.mpr c19
      (first | rw [c19b0] | (simp only [i64_w, i32_w]; rw [c19b0]) | skip)
      have H' := Aside0.mk H
      clear H
      go_wp2
      go_meet
      case rel => exact ⟨_, (x5_1), (t114), zq16_26, H', ⟨by have := HK1.out; first | omega | exact Nat.le_refl _⟩, ⟨by (zq16_2); exact HO_4.out⟩, ⟨by (zq16_1); exact BK105.out⟩, ⟨by repeat (first | (with_reducible first | exact HI0.out | apply IsS57.alloc | apply IsS57.drewN | apply IsS57.drew | apply IsS57.set_1 | refine IsS57.far ?_ NB0_105.out _) | exact HI0.out)⟩, ⟨by repeat (first | (with_reducible first | exact HK.out | apply KeepBut.set_ | apply keep_drewN | apply keep_drew | apply keep_alloc | refine keep_far ?_ GW105.out _) | exact HK.out)⟩, ⟨by repeat (first | (with_reducible first | exact HB.out | apply below_alloc | apply pw_below_drewN | apply below_drew1 | refine below_set ?_ (IsS57.ge HI0.out) | refine below_set ?_ GE105.out) | exact HB.out)⟩⟩
    case rest =>
     clear HC17
     try clear c1
     try clear c2
     try clear p2
     try clear c3
     try clear c9
     try clear c15
     try clear c15b0
     try clear c19
     try clear c19b0
     try clear c19b1
     try clear hcz10_0
     try clear hcz10_1
     try clear hfz10_0
     try clear hfz10_1
     try clear p2
     obtain ⟨kq, x5_16, x1001_16, rfl, HA, HJ16, HO_4, BK105, HI0, HK, HB⟩ := hcut
     cases kq with
     | zero => exact absurd HA.out (by simp [spec_l72Path.j1])
     | succ kj16 =>
      have H := HA.out
      clear HA
      simp only [spec_l72Path.j1] at H
      obtain ⟨y117, hy117⟩ : ∃ y_ : List Int, y_ = (([1, 0, (-1), 0] : List Int)) := ⟨_, rfl⟩
      replace H : (if 0 ≤ x5_16 then (if x5_16 < (y117.length : Int) then ((some (([0, 1, 0, (-1)] : List Int) : List Int)).bind fun y121 => (if x5_16 < (y121.length : Int) then ((spec_PtOk.f (wrap64 (x106000_1 + (rd y117 x5_16))) (wrap64 (x106001_1 + (rd y121 x5_16)))).bind fun t126 => (if t126 = true then (if x4_1.length < 8796093022208 then (spec_l72Path.j2 kj16 (x4_1 ++ [(⟨wrap64 (x106000_1 + (rd y117 x5_16)), wrap64 (x106001_1 + (rd y121 x5_16))⟩ : S38)]) x5_16 x6_1 s0_0 x1001_16 (wrap64 (x106000_1 + (rd y117 x5_16))) (wrap64 (x106001_1 + (rd y121 x5_16)))) else (none)) else (spec_l72Path.j2 kj16 x4_1 x5_16 x6_1 s0_0 x1001_16 x106000_1 x106001_1))) else (none))) else (none)) else (none)) = some (r1, r2) := by first | (rw [hy117]; with_reducible exact H) | (have H2_ := (Option.bind_some _ _).symm.trans H; rw [hy117]; with_reducible exact H2_) | (have H2_ := (Option.bind_some _ _).symm.trans H; with_reducible exact H2_) | with_reducible exact H | (rw [hy117]; exact H) | exact H
      have Ny117 := Aside0.mk hy117
      clear hy117
      by_cases c22 : 0 ≤ x5_16
      ·rw [if_pos c22] at H
       have c22b0 : decide (0 ≤ x5_16) = true := decide_eq_true c22
       clear c22
       by_cases c23 : x5_16 < (y117.length : Int)
       ·rw [if_pos c23] at H
        have c23b0 : decide (x5_16 < (y117.length : Int)) = true := decide_eq_true c23
        clear c23
        obtain ⟨y121, hy121⟩ : ∃ y_ : List Int, y_ = (([0, 1, 0, (-1)] : List Int)) := ⟨_, rfl⟩
        replace H : (if x5_16 < (y121.length : Int) then ((spec_PtOk.f (wrap64 (x106000_1 + (rd y117 x5_16))) (wrap64 (x106001_1 + (rd y121 x5_16)))).bind fun t126 => (if t126 = true then (if x4_1.length < 8796093022208 then (spec_l72Path.j2 kj16 (x4_1 ++ [(⟨wrap64 (x106000_1 + (rd y117 x5_16)), wrap64 (x106001_1 + (rd y121 x5_16))⟩ : S38)]) x5_16 x6_1 s0_0 x1001_16 (wrap64 (x106000_1 + (rd y117 x5_16))) (wrap64 (x106001_1 + (rd y121 x5_16)))) else (none)) else (spec_l72Path.j2 kj16 x4_1 x5_16 x6_1 s0_0 x1001_16 x106000_1 x106001_1))) else (none)) = some (r1, r2) := by first | (rw [hy121]; with_reducible exact H) | (have H2_ := (Option.bind_some _ _).symm.trans H; rw [hy121]; with_reducible exact H2_) | (have H2_ := (Option.bind_some _ _).symm.trans H; with_reducible exact H2_) | with_reducible exact H | (rw [hy121]; exact H) | exact H
        have Ny121 := Aside0.mk hy121
        clear hy121
        by_cases c24 : x5_16 < (y121.length : Int)
        ·rw [if_pos c24] at H
         have c24b0 : decide (x5_16 < (y121.length : Int)) = true := decide_eq_true c24
         clear c24
         replace H := Option.bind_eq_some_iff.mp H
         obtain ⟨t126, A250, H⟩ := H
         replace H : (if t126 = true then (if x4_1.length < 8796093022208 then (spec_l72Path.j2 kj16 (x4_1 ++ [(⟨wrap64 (x106000_1 + (rd y117 x5_16)), wrap64 (x106001_1 + (rd y121 x5_16))⟩ : S38)]) x5_16 x6_1 s0_0 x1001_16 (wrap64 (x106000_1 + (rd y117 x5_16))) (wrap64 (x106001_1 + (rd y121 x5_16)))) else (none)) else (spec_l72Path.j2 kj16 x4_1 x5_16 x6_1 s0_0 x1001_16 x106000_1 x106001_1)) = some (r1, r2) := H
         have A25 := Aside0.mk A250
         clear A250
         have HC26 := Aside0.mk H
         clear H
         try go_wp2
         have pi120 : (0 ≤ (x5_16 : Int)) = True := eq_true (of_decide_eq_true zq16_15)
         have qi120 : (x5_16 < (y117.length : Int)) = True := eq_true (of_decide_eq_true zq16_15)
         have pi124 : (0 ≤ (x5_16 : Int)) = True := eq_true (of_decide_eq_true zq16_15)
         have qi124 : (x5_16 < (y121.length : Int)) = True := eq_true (of_decide_eq_true zq16_15)
         have n0_ := Aside0.mk (Kd.R_drew HO_4.out)
         have n1_ := Aside0.mk (blk_drew BK105.out)
         have n2_ := Aside0.mk (IsS57.drew HI0.out)
         have n3_ := Aside0.mk (keep_drew HK.out)
         have n4_ := Aside0.mk (below_drew1 HB.out)
         clear HO_4
         clear BK105
         clear HI0
         clear HK
         clear HB
         have HO_4 := n0_
         have BK105 := n1_
         have HI0 := n2_
         have HK := n3_
         have HB := n4_
         clear n0_ n1_ n2_ n3_ n4_
         refine start_ (n := 17) (S := fun w' => w'.cell? ⟨gb105, 0, none⟩ = some (.int .i64 x106000_1) ∧ w'.cell? ⟨gb105, 1, none⟩ = some (.int .i64 x106001_1)) (ds := []) #[false, false, false, false, false, false, false, false, false, false, false, false, false, false, false, false, false] (by kernel_rfl) rfl rfl ⟨(blk_cell BK105.out 0).trans rfl, (blk_cell BK105.out 1).trans rfl⟩ (fun hHeld => ?_); refine with_tabW spec_l72Path.tab9 spec_l72Path.bits9 (fun HT_ HW_ => ?_)
         generalize wc.drew = w27 at HO_4 BK105 HI0 HK HB hHeld ⊢
         refine pure_ (i := 0) (N := some 28) (v := ?_) (a' := ?_) #[true, false, false, false, false, false, false, false, false, false, false, false, false, false, false, false, false] rfl rfl (any_of HT_.out (by kernel_rfl)) (fun _ _ _ h => h) (Or.inl ⟨by rfl, ?_⟩) ?_ ?_
         rotate_left
         ·intro w'
          go_simp
          with_reducible rfl
         rotate_left
         ·simp only [Act.put, List.setIfInBounds_toArray, List.set_cons_zero, List.set_cons_succ, i64_w, i32_w]
          rfl
         refine pure_ (i := 3) (N := some 31) (v := ?_) (a' := ?_) #[true, false, false, true, false, false, false, false, false, false, false, false, false, false, false, false, false] rfl rfl (any_of HT_.out (by kernel_rfl)) (fun _ _ _ h => h) (Or.inl ⟨by rfl, ?_⟩) ?_ ?_
         rotate_left
         ·intro w'
          go_simp
          with_reducible rfl
         rotate_left
         ·simp only [Act.put, List.setIfInBounds_toArray, List.set_cons_zero, List.set_cons_succ, i64_w, i32_w]
          rfl
         refine pure_ (i := 7) (N := some 35) (v := ?_) (a' := ?_) #[true, false, false, true, false, false, false, true, false, false, false, false, false, false, false, false, false] rfl rfl (any_of HT_.out (by kernel_rfl)) (fun _ _ _ h => h) (Or.inl ⟨by rfl, ?_⟩) ?_ ?_
         rotate_left
         ·intro w'
          go_simp
          with_reducible rfl
         rotate_left
         ·simp only [Act.put, List.setIfInBounds_toArray, List.set_cons_zero, List.set_cons_succ, i64_w, i32_w]
          rfl
         refine pure_ (i := 10) (N := some 38) (v := ?_) (a' := ?_) #[true, false, false, true, false, false, false, true, false, false, true, false, false, false, false, false, false] rfl rfl (any_of HT_.out (by kernel_rfl)) (fun _ _ _ h => h) (Or.inl ⟨by rfl, ?_⟩) ?_ ?_
         rotate_left
         ·intro w'
          go_simp
          with_reducible rfl
         rotate_left
         ·simp only [Act.put, List.setIfInBounds_toArray, List.set_cons_zero, List.set_cons_succ, i64_w, i32_w]
          rfl
         refine take_ (i := 1) (N := some 29) (v := ?_) (a' := ?_) #[true, true, false, true, false, false, false, true, false, false, true, false, false, false, false, false, false] rfl rfl (take_ofW HT_.out HW_.out (by kernel_rfl)) (fun _ _ _ h => h) (Or.inl ⟨by rfl, ?_⟩) hHeld ?_ ?_
         rotate_left
         ·rintro w' ⟨s0, s1⟩
          go_simp
          with_reducible rfl
         rotate_left
         ·simp only [Act.put, List.setIfInBounds_toArray, List.set_cons_zero, List.set_cons_succ, i64_w, i32_w]
          rfl
         refine take_ (i := 8) (N := some 36) (v := ?_) (a' := ?_) #[true, true, false, true, false, false, false, true, true, false, true, false, false, false, false, false, false] rfl rfl (take_ofW HT_.out HW_.out (by kernel_rfl)) (fun _ _ _ h => h) (Or.inl ⟨by rfl, ?_⟩) hHeld ?_ ?_
         rotate_left
         ·rintro w' ⟨s0, s1⟩
          go_simp
          with_reducible rfl
         rotate_left
         ·simp only [Act.put, List.setIfInBounds_toArray, List.set_cons_zero, List.set_cons_succ, i64_w, i32_w]
          rfl
         refine join_ (σ := Value × Addr × Value × Addr × Nat) 1 #[true, true, true, true, true, true, true, true, true, true, true, true, true, true, true, true, false] (fun s_ => [(30, s_.1), (33, .int .i64 (rd y117 x5_16)), (37, s_.2.2.1), (40, .int .i64 (rd y121 x5_16)), (7, .pointer (some ⟨s_.2.2.2.2, 0, none⟩)), (32, .pointer (some (s_.2.1.add (x5_16).toNat))), (34, .int .i64 (wrap64 (x106000_1 + (rd y117 x5_16)))), (39, .pointer (some (s_.2.2.2.1.add (x5_16).toNat))), (41, .int .i64 (wrap64 (x106001_1 + (rd y121 x5_16)))), (42, .agg #[.int .i64 (wrap64 (x106000_1 + (rd y117 x5_16))), .int .i64 (wrap64 (x106001_1 + (rd y121 x5_16)))])]) (fun s_ w' => (w'.cell? ⟨gb105, 0, none⟩ = some (.int .i64 x106000_1) ∧ w'.cell? ⟨gb105, 1, none⟩ = some (.int .i64 x106001_1)) ∧ (Kd.R (Kd.int .i64) 3 w' w.heap.size (fun k_ => some k_ ≠ (s_.2.2.1 : Value).ownBlock) s_.1 y117) ∧ (Kd.R (Kd.int .i64) 3 w' w.heap.size (fun k_ => some k_ ≠ (s_.1 : Value).ownBlock) s_.2.2.1 y121) ∧ (Kd.R k38 38 w' w.heap.size (fun k_ => k_ ≠ gb105 ∧ k_ ≠ s_.2.2.2.2) u4 x4_1) ∧ (∃ c_, (s_.1 : Value) = .slice (some s_.2.1) y117.length c_) ∧ (∃ c_, (s_.2.2.1 : Value) = .slice (some s_.2.2.2.1) y121.length c_) ∧ (w'.heap[gb105]? = some (.cells #[.int .i64 x106000_1, .int .i64 x106001_1] 38 (0, 0))) ∧ (w'.heap[s_.2.2.2.2]? = some (.cells #[.int .i64 0, .int .i64 0] 38 (0, 0))) ∧ (w.heap.size ≤ s_.2.2.2.2) ∧ (w0.heap.size ≤ s_.2.2.2.2) ∧ (g ≠ s_.2.2.2.2) ∧ (s_.2.2.2.2 ≠ g) ∧ (gb105 ≠ s_.2.2.2.2) ∧ (s_.2.2.2.2 ≠ gb105) ∧ (IsS57 w0 w' g s0_0 x1001_16) ∧ (KeepBut w w' g none) ∧ (Below w0.heap.size w0 w')) ?_ ?_
         rotate_left
         ·intro hJ2_5_9_12_15
          refine join_ (σ := Value × Addr × Value × Addr) 2 #[true, true, true, true, true, true, true, true, true, true, true, true, true, true, true, false, false] (fun s_ => [(30, s_.1), (33, .int .i64 (rd y117 x5_16)), (37, s_.2.2.1), (40, .int .i64 (rd y121 x5_16)), (32, .pointer (some (s_.2.1.add (x5_16).toNat))), (34, .int .i64 (wrap64 (x106000_1 + (rd y117 x5_16)))), (39, .pointer (some (s_.2.2.2.add (x5_16).toNat))), (41, .int .i64 (wrap64 (x106001_1 + (rd y121 x5_16)))), (42, .agg #[.int .i64 (wrap64 (x106000_1 + (rd y117 x5_16))), .int .i64 (wrap64 (x106001_1 + (rd y121 x5_16)))])]) (fun s_ w' => (w'.cell? ⟨gb105, 0, none⟩ = some (.int .i64 x106000_1) ∧ w'.cell? ⟨gb105, 1, none⟩ = some (.int .i64 x106001_1)) ∧ (Kd.R (Kd.int .i64) 3 w' w.heap.size (fun k_ => some k_ ≠ (s_.2.2.1 : Value).ownBlock) s_.1 y117) ∧ (Kd.R (Kd.int .i64) 3 w' w.heap.size (fun k_ => some k_ ≠ (s_.1 : Value).ownBlock) s_.2.2.1 y121) ∧ (Kd.R k38 38 w' w.heap.size (fun k_ => k_ ≠ gb105) u4 x4_1) ∧ (∃ c_, (s_.1 : Value) = .slice (some s_.2.1) y117.length c_) ∧ (∃ c_, (s_.2.2.1 : Value) = .slice (some s_.2.2.2) y121.length c_) ∧ (w'.heap[gb105]? = some (.cells #[.int .i64 x106000_1, .int .i64 x106001_1] 38 (0, 0))) ∧ (IsS57 w0 w' g s0_0 x1001_16) ∧ (KeepBut w w' g none) ∧ (Below w0.heap.size w0 w')) ?_ ?_
          rotate_left
          ·intro hJ2_5_9_12
           refine join_ (σ := Value × Addr × Value × Addr × Nat) 4 #[true, true, true, true, true, true, true, true, true, true, true, true, false, false, false, true, false] (fun s_ => [(30, s_.1), (33, .int .i64 (rd y117 x5_16)), (37, s_.2.2.1), (7, .pointer (some ⟨s_.2.2.2.2, 0, none⟩)), (32, .pointer (some (s_.2.1.add (x5_16).toNat))), (34, .int .i64 (wrap64 (x106000_1 + (rd y117 x5_16)))), (39, .pointer (some (s_.2.2.2.1.add (x5_16).toNat)))]) (fun s_ w' => (w'.cell? ⟨gb105, 0, none⟩ = some (.int .i64 x106000_1) ∧ w'.cell? ⟨gb105, 1, none⟩ = some (.int .i64 x106001_1)) ∧ (Kd.R (Kd.int .i64) 3 w' w.heap.size (fun k_ => some k_ ≠ (s_.2.2.1 : Value).ownBlock) s_.1 y117) ∧ (Kd.R (Kd.int .i64) 3 w' w.heap.size (fun k_ => some k_ ≠ (s_.1 : Value).ownBlock) s_.2.2.1 y121) ∧ (Kd.R k38 38 w' w.heap.size (fun k_ => k_ ≠ gb105 ∧ k_ ≠ s_.2.2.2.2) u4 x4_1) ∧ (∃ c_, (s_.1 : Value) = .slice (some s_.2.1) y117.length c_) ∧ (∃ c_, (s_.2.2.1 : Value) = .slice (some s_.2.2.2.1) y121.length c_) ∧ (w'.heap[gb105]? = some (.cells #[.int .i64 x106000_1, .int .i64 x106001_1] 38 (0, 0))) ∧ (w'.heap[s_.2.2.2.2]? = some (.cells #[.int .i64 0, .int .i64 0] 38 (0, 0))) ∧ (w.heap.size ≤ s_.2.2.2.2) ∧ (w0.heap.size ≤ s_.2.2.2.2) ∧ (g ≠ s_.2.2.2.2) ∧ (s_.2.2.2.2 ≠ g) ∧ (gb105 ≠ s_.2.2.2.2) ∧ (s_.2.2.2.2 ≠ gb105) ∧ (IsS57 w0 w' g s0_0 x1001_16) ∧ (KeepBut w w' g none) ∧ (Below w0.heap.size w0 w')) ?_ ?_
           rotate_left
           ·intro hJ2_5_9_15
            refine join_ (σ := Value × Addr × Value × Addr × Nat) 4 #[true, true, true, true, true, false, false, true, true, true, true, true, true, true, false, true, false] (fun s_ => [(30, s_.1), (37, s_.2.2.1), (40, .int .i64 (rd y121 x5_16)), (7, .pointer (some ⟨s_.2.2.2.2, 0, none⟩)), (32, .pointer (some (s_.2.1.add (x5_16).toNat))), (39, .pointer (some (s_.2.2.2.1.add (x5_16).toNat))), (41, .int .i64 (wrap64 (x106001_1 + (rd y121 x5_16))))]) (fun s_ w' => (w'.cell? ⟨gb105, 0, none⟩ = some (.int .i64 x106000_1) ∧ w'.cell? ⟨gb105, 1, none⟩ = some (.int .i64 x106001_1)) ∧ (Kd.R (Kd.int .i64) 3 w' w.heap.size (fun k_ => some k_ ≠ (s_.2.2.1 : Value).ownBlock) s_.1 y117) ∧ (Kd.R (Kd.int .i64) 3 w' w.heap.size (fun k_ => some k_ ≠ (s_.1 : Value).ownBlock) s_.2.2.1 y121) ∧ (Kd.R k38 38 w' w.heap.size (fun k_ => k_ ≠ gb105 ∧ k_ ≠ s_.2.2.2.2) u4 x4_1) ∧ (∃ c_, (s_.1 : Value) = .slice (some s_.2.1) y117.length c_) ∧ (∃ c_, (s_.2.2.1 : Value) = .slice (some s_.2.2.2.1) y121.length c_) ∧ (w'.heap[gb105]? = some (.cells #[.int .i64 x106000_1, .int .i64 x106001_1] 38 (0, 0))) ∧ (w'.heap[s_.2.2.2.2]? = some (.cells #[.int .i64 0, .int .i64 0] 38 (0, 0))) ∧ (w.heap.size ≤ s_.2.2.2.2) ∧ (w0.heap.size ≤ s_.2.2.2.2) ∧ (g ≠ s_.2.2.2.2) ∧ (s_.2.2.2.2 ≠ g) ∧ (gb105 ≠ s_.2.2.2.2) ∧ (s_.2.2.2.2 ≠ gb105) ∧ (IsS57 w0 w' g s0_0 x1001_16) ∧ (KeepBut w w' g none) ∧ (Below w0.heap.size w0 w')) ?_ ?_
            rotate_left
            ·intro hJ2_9_12_15
             refine join_ (σ := Value × Addr × Value × Addr) 5 #[true, true, true, true, true, true, true, true, true, true, true, true, false, false, false, false, false] (fun s_ => [(30, s_.1), (33, .int .i64 (rd y117 x5_16)), (37, s_.2.2.1), (32, .pointer (some (s_.2.1.add (x5_16).toNat))), (34, .int .i64 (wrap64 (x106000_1 + (rd y117 x5_16)))), (39, .pointer (some (s_.2.2.2.add (x5_16).toNat)))]) (fun s_ w' => (w'.cell? ⟨gb105, 0, none⟩ = some (.int .i64 x106000_1) ∧ w'.cell? ⟨gb105, 1, none⟩ = some (.int .i64 x106001_1)) ∧ (Kd.R (Kd.int .i64) 3 w' w.heap.size (fun k_ => some k_ ≠ (s_.2.2.1 : Value).ownBlock) s_.1 y117) ∧ (Kd.R (Kd.int .i64) 3 w' w.heap.size (fun k_ => some k_ ≠ (s_.1 : Value).ownBlock) s_.2.2.1 y121) ∧ (Kd.R k38 38 w' w.heap.size (fun k_ => k_ ≠ gb105) u4 x4_1) ∧ (∃ c_, (s_.1 : Value) = .slice (some s_.2.1) y117.length c_) ∧ (∃ c_, (s_.2.2.1 : Value) = .slice (some s_.2.2.2) y121.length c_) ∧ (w'.heap[gb105]? = some (.cells #[.int .i64 x106000_1, .int .i64 x106001_1] 38 (0, 0))) ∧ (IsS57 w0 w' g s0_0 x1001_16) ∧ (KeepBut w w' g none) ∧ (Below w0.heap.size w0 w')) ?_ ?_
             rotate_left
             ·intro hJ2_5_9
              refine join_ (σ := Value × Addr × Nat) 6 #[true, true, true, true, true, true, true, true, true, false, true, false, false, false, false, true, false] (fun s_ => [(30, s_.1), (33, .int .i64 (rd y117 x5_16)), (7, .pointer (some ⟨s_.2.2, 0, none⟩)), (32, .pointer (some (s_.2.1.add (x5_16).toNat))), (34, .int .i64 (wrap64 (x106000_1 + (rd y117 x5_16))))]) (fun s_ w' => (w'.cell? ⟨gb105, 0, none⟩ = some (.int .i64 x106000_1) ∧ w'.cell? ⟨gb105, 1, none⟩ = some (.int .i64 x106001_1)) ∧ (Kd.R (Kd.int .i64) 3 w' w.heap.size (fun _ => True) s_.1 y117) ∧ (Kd.R k38 38 w' w.heap.size (fun k_ => k_ ≠ gb105 ∧ k_ ≠ s_.2.2) u4 x4_1) ∧ (∃ c_, (s_.1 : Value) = .slice (some s_.2.1) y117.length c_) ∧ (w'.heap[gb105]? = some (.cells #[.int .i64 x106000_1, .int .i64 x106001_1] 38 (0, 0))) ∧ (w'.heap[s_.2.2]? = some (.cells #[.int .i64 0, .int .i64 0] 38 (0, 0))) ∧ (w.heap.size ≤ s_.2.2) ∧ (w0.heap.size ≤ s_.2.2) ∧ (g ≠ s_.2.2) ∧ (s_.2.2 ≠ g) ∧ (gb105 ≠ s_.2.2) ∧ (s_.2.2 ≠ gb105) ∧ (IsS57 w0 w' g s0_0 x1001_16) ∧ (KeepBut w w' g none) ∧ (Below w0.heap.size w0 w')) ?_ ?_
              rotate_left
              ·intro hJ2_5_15
               refine join_ (σ := Value × Addr × Value × Addr) 5 #[true, true, true, true, true, false, false, true, true, true, true, true, true, true, false, false, false] (fun s_ => [(30, s_.1), (37, s_.2.2.1), (40, .int .i64 (rd y121 x5_16)), (32, .pointer (some (s_.2.1.add (x5_16).toNat))), (39, .pointer (some (s_.2.2.2.add (x5_16).toNat))), (41, .int .i64 (wrap64 (x106001_1 + (rd y121 x5_16))))]) (fun s_ w' => (w'.cell? ⟨gb105, 0, none⟩ = some (.int .i64 x106000_1) ∧ w'.cell? ⟨gb105, 1, none⟩ = some (.int .i64 x106001_1)) ∧ (Kd.R (Kd.int .i64) 3 w' w.heap.size (fun k_ => some k_ ≠ (s_.2.2.1 : Value).ownBlock) s_.1 y117) ∧ (Kd.R (Kd.int .i64) 3 w' w.heap.size (fun k_ => some k_ ≠ (s_.1 : Value).ownBlock) s_.2.2.1 y121) ∧ (Kd.R k38 38 w' w.heap.size (fun k_ => k_ ≠ gb105) u4 x4_1) ∧ (∃ c_, (s_.1 : Value) = .slice (some s_.2.1) y117.length c_) ∧ (∃ c_, (s_.2.2.1 : Value) = .slice (some s_.2.2.2) y121.length c_) ∧ (w'.heap[gb105]? = some (.cells #[.int .i64 x106000_1, .int .i64 x106001_1] 38 (0, 0))) ∧ (IsS57 w0 w' g s0_0 x1001_16) ∧ (KeepBut w w' g none) ∧ (Below w0.heap.size w0 w')) ?_ ?_
               rotate_left
               ·intro hJ2_9_12
                refine join_ (σ := Value × Addr × Value × Addr × Nat) 6 #[true, true, true, true, true, false, false, true, true, true, true, true, false, false, false, true, false] (fun s_ => [(30, s_.1), (37, s_.2.2.1), (7, .pointer (some ⟨s_.2.2.2.2, 0, none⟩)), (32, .pointer (some (s_.2.1.add (x5_16).toNat))), (39, .pointer (some (s_.2.2.2.1.add (x5_16).toNat)))]) (fun s_ w' => (w'.cell? ⟨gb105, 0, none⟩ = some (.int .i64 x106000_1) ∧ w'.cell? ⟨gb105, 1, none⟩ = some (.int .i64 x106001_1)) ∧ (Kd.R (Kd.int .i64) 3 w' w.heap.size (fun k_ => some k_ ≠ (s_.2.2.1 : Value).ownBlock) s_.1 y117) ∧ (Kd.R (Kd.int .i64) 3 w' w.heap.size (fun k_ => some k_ ≠ (s_.1 : Value).ownBlock) s_.2.2.1 y121) ∧ (Kd.R k38 38 w' w.heap.size (fun k_ => k_ ≠ gb105 ∧ k_ ≠ s_.2.2.2.2) u4 x4_1) ∧ (∃ c_, (s_.1 : Value) = .slice (some s_.2.1) y117.length c_) ∧ (∃ c_, (s_.2.2.1 : Value) = .slice (some s_.2.2.2.1) y121.length c_) ∧ (w'.heap[gb105]? = some (.cells #[.int .i64 x106000_1, .int .i64 x106001_1] 38 (0, 0))) ∧ (w'.heap[s_.2.2.2.2]? = some (.cells #[.int .i64 0, .int .i64 0] 38 (0, 0))) ∧ (w.heap.size ≤ s_.2.2.2.2) ∧ (w0.heap.size ≤ s_.2.2.2.2) ∧ (g ≠ s_.2.2.2.2) ∧ (s_.2.2.2.2 ≠ g) ∧ (gb105 ≠ s_.2.2.2.2) ∧ (s_.2.2.2.2 ≠ gb105) ∧ (IsS57 w0 w' g s0_0 x1001_16) ∧ (KeepBut w w' g none) ∧ (Below w0.heap.size w0 w')) ?_ ?_
                rotate_left
                ·intro hJ2_9_15
                 refine join_ (σ := Value × Addr × Nat) 6 #[true, true, false, true, false, false, false, true, true, true, true, true, true, true, false, true, false] (fun s_ => [(37, s_.1), (40, .int .i64 (rd y121 x5_16)), (7, .pointer (some ⟨s_.2.2, 0, none⟩)), (39, .pointer (some (s_.2.1.add (x5_16).toNat))), (41, .int .i64 (wrap64 (x106001_1 + (rd y121 x5_16))))]) (fun s_ w' => (w'.cell? ⟨gb105, 0, none⟩ = some (.int .i64 x106000_1) ∧ w'.cell? ⟨gb105, 1, none⟩ = some (.int .i64 x106001_1)) ∧ (Kd.R (Kd.int .i64) 3 w' w.heap.size (fun _ => True) s_.1 y121) ∧ (Kd.R k38 38 w' w.heap.size (fun k_ => k_ ≠ gb105 ∧ k_ ≠ s_.2.2) u4 x4_1) ∧ (∃ c_, (s_.1 : Value) = .slice (some s_.2.1) y121.length c_) ∧ (w'.heap[gb105]? = some (.cells #[.int .i64 x106000_1, .int .i64 x106001_1] 38 (0, 0))) ∧ (w'.heap[s_.2.2]? = some (.cells #[.int .i64 0, .int .i64 0] 38 (0, 0))) ∧ (w.heap.size ≤ s_.2.2) ∧ (w0.heap.size ≤ s_.2.2) ∧ (g ≠ s_.2.2) ∧ (s_.2.2 ≠ g) ∧ (gb105 ≠ s_.2.2) ∧ (s_.2.2 ≠ gb105) ∧ (IsS57 w0 w' g s0_0 x1001_16) ∧ (KeepBut w w' g none) ∧ (Below w0.heap.size w0 w')) ?_ ?_
                 rotate_left
                 ·intro hJ9_12_15
                  refine join_ (σ := Value × Addr) 7 #[true, true, true, true, true, true, true, true, true, false, true, false, false, false, false, false, false] (fun s_ => [(30, s_.1), (33, .int .i64 (rd y117 x5_16)), (32, .pointer (some (s_.2.add (x5_16).toNat))), (34, .int .i64 (wrap64 (x106000_1 + (rd y117 x5_16))))]) (fun s_ w' => (w'.cell? ⟨gb105, 0, none⟩ = some (.int .i64 x106000_1) ∧ w'.cell? ⟨gb105, 1, none⟩ = some (.int .i64 x106001_1)) ∧ (Kd.R (Kd.int .i64) 3 w' w.heap.size (fun _ => True) s_.1 y117) ∧ (Kd.R k38 38 w' w.heap.size (fun k_ => k_ ≠ gb105) u4 x4_1) ∧ (∃ c_, (s_.1 : Value) = .slice (some s_.2) y117.length c_) ∧ (w'.heap[gb105]? = some (.cells #[.int .i64 x106000_1, .int .i64 x106001_1] 38 (0, 0))) ∧ (IsS57 w0 w' g s0_0 x1001_16) ∧ (KeepBut w w' g none) ∧ (Below w0.heap.size w0 w')) ?_ ?_
                  rotate_left
                  ·intro hJ2_5
                   refine join_ (σ := Value × Addr × Value × Addr) 7 #[true, true, true, true, true, false, false, true, true, true, true, true, false, false, false, false, false] (fun s_ => [(30, s_.1), (37, s_.2.2.1), (32, .pointer (some (s_.2.1.add (x5_16).toNat))), (39, .pointer (some (s_.2.2.2.add (x5_16).toNat)))]) (fun s_ w' => (w'.cell? ⟨gb105, 0, none⟩ = some (.int .i64 x106000_1) ∧ w'.cell? ⟨gb105, 1, none⟩ = some (.int .i64 x106001_1)) ∧ (Kd.R (Kd.int .i64) 3 w' w.heap.size (fun k_ => some k_ ≠ (s_.2.2.1 : Value).ownBlock) s_.1 y117) ∧ (Kd.R (Kd.int .i64) 3 w' w.heap.size (fun k_ => some k_ ≠ (s_.1 : Value).ownBlock) s_.2.2.1 y121) ∧ (Kd.R k38 38 w' w.heap.size (fun k_ => k_ ≠ gb105) u4 x4_1) ∧ (∃ c_, (s_.1 : Value) = .slice (some s_.2.1) y117.length c_) ∧ (∃ c_, (s_.2.2.1 : Value) = .slice (some s_.2.2.2) y121.length c_) ∧ (w'.heap[gb105]? = some (.cells #[.int .i64 x106000_1, .int .i64 x106001_1] 38 (0, 0))) ∧ (IsS57 w0 w' g s0_0 x1001_16) ∧ (KeepBut w w' g none) ∧ (Below w0.heap.size w0 w')) ?_ ?_
                   rotate_left
                   ·intro hJ2_9
                    refine join_ (σ := Value × Addr × Nat) 8 #[true, true, true, true, true, false, false, true, true, false, true, false, false, false, false, true, false] (fun s_ => [(30, s_.1), (7, .pointer (some ⟨s_.2.2, 0, none⟩)), (32, .pointer (some (s_.2.1.add (x5_16).toNat)))]) (fun s_ w' => (w'.cell? ⟨gb105, 0, none⟩ = some (.int .i64 x106000_1) ∧ w'.cell? ⟨gb105, 1, none⟩ = some (.int .i64 x106001_1)) ∧ (Kd.R (Kd.int .i64) 3 w' w.heap.size (fun _ => True) s_.1 y117) ∧ (Kd.R k38 38 w' w.heap.size (fun k_ => k_ ≠ gb105 ∧ k_ ≠ s_.2.2) u4 x4_1) ∧ (∃ c_, (s_.1 : Value) = .slice (some s_.2.1) y117.length c_) ∧ (w'.heap[gb105]? = some (.cells #[.int .i64 x106000_1, .int .i64 x106001_1] 38 (0, 0))) ∧ (w'.heap[s_.2.2]? = some (.cells #[.int .i64 0, .int .i64 0] 38 (0, 0))) ∧ (w.heap.size ≤ s_.2.2) ∧ (w0.heap.size ≤ s_.2.2) ∧ (g ≠ s_.2.2) ∧ (s_.2.2 ≠ g) ∧ (gb105 ≠ s_.2.2) ∧ (s_.2.2 ≠ gb105) ∧ (IsS57 w0 w' g s0_0 x1001_16) ∧ (KeepBut w w' g none) ∧ (Below w0.heap.size w0 w')) ?_ ?_
                    rotate_left
                    ·intro hJ2_15
                     refine join_ (σ := Value × Addr) 7 #[true, true, false, true, false, false, false, true, true, true, true, true, true, true, false, false, false] (fun s_ => [(37, s_.1), (40, .int .i64 (rd y121 x5_16)), (39, .pointer (some (s_.2.add (x5_16).toNat))), (41, .int .i64 (wrap64 (x106001_1 + (rd y121 x5_16))))]) (fun s_ w' => (w'.cell? ⟨gb105, 0, none⟩ = some (.int .i64 x106000_1) ∧ w'.cell? ⟨gb105, 1, none⟩ = some (.int .i64 x106001_1)) ∧ (Kd.R (Kd.int .i64) 3 w' w.heap.size (fun _ => True) s_.1 y121) ∧ (Kd.R k38 38 w' w.heap.size (fun k_ => k_ ≠ gb105) u4 x4_1) ∧ (∃ c_, (s_.1 : Value) = .slice (some s_.2) y121.length c_) ∧ (w'.heap[gb105]? = some (.cells #[.int .i64 x106000_1, .int .i64 x106001_1] 38 (0, 0))) ∧ (IsS57 w0 w' g s0_0 x1001_16) ∧ (KeepBut w w' g none) ∧ (Below w0.heap.size w0 w')) ?_ ?_
                     rotate_left
                     ·intro hJ9_12
                      refine join_ (σ := Value × Addr × Nat) 8 #[true, true, false, true, false, false, false, true, true, true, true, true, false, false, false, true, false] (fun s_ => [(37, s_.1), (7, .pointer (some ⟨s_.2.2, 0, none⟩)), (39, .pointer (some (s_.2.1.add (x5_16).toNat)))]) (fun s_ w' => (w'.cell? ⟨gb105, 0, none⟩ = some (.int .i64 x106000_1) ∧ w'.cell? ⟨gb105, 1, none⟩ = some (.int .i64 x106001_1)) ∧ (Kd.R (Kd.int .i64) 3 w' w.heap.size (fun _ => True) s_.1 y121) ∧ (Kd.R k38 38 w' w.heap.size (fun k_ => k_ ≠ gb105 ∧ k_ ≠ s_.2.2) u4 x4_1) ∧ (∃ c_, (s_.1 : Value) = .slice (some s_.2.1) y121.length c_) ∧ (w'.heap[gb105]? = some (.cells #[.int .i64 x106000_1, .int .i64 x106001_1] 38 (0, 0))) ∧ (w'.heap[s_.2.2]? = some (.cells #[.int .i64 0, .int .i64 0] 38 (0, 0))) ∧ (w.heap.size ≤ s_.2.2) ∧ (w0.heap.size ≤ s_.2.2) ∧ (g ≠ s_.2.2) ∧ (s_.2.2 ≠ g) ∧ (gb105 ≠ s_.2.2) ∧ (s_.2.2 ≠ gb105) ∧ (IsS57 w0 w' g s0_0 x1001_16) ∧ (KeepBut w w' g none) ∧ (Below w0.heap.size w0 w')) ?_ ?_
                      rotate_left
                      ·intro hJ9_15
                       refine join_ (σ := Value × Addr) 9 #[true, true, true, true, true, false, false, true, true, false, true, false, false, false, false, false, false] (fun s_ => [(30, s_.1), (32, .pointer (some (s_.2.add (x5_16).toNat)))]) (fun s_ w' => (w'.cell? ⟨gb105, 0, none⟩ = some (.int .i64 x106000_1) ∧ w'.cell? ⟨gb105, 1, none⟩ = some (.int .i64 x106001_1)) ∧ (Kd.R (Kd.int .i64) 3 w' w.heap.size (fun _ => True) s_.1 y117) ∧ (Kd.R k38 38 w' w.heap.size (fun k_ => k_ ≠ gb105) u4 x4_1) ∧ (∃ c_, (s_.1 : Value) = .slice (some s_.2) y117.length c_) ∧ (w'.heap[gb105]? = some (.cells #[.int .i64 x106000_1, .int .i64 x106001_1] 38 (0, 0))) ∧ (IsS57 w0 w' g s0_0 x1001_16) ∧ (KeepBut w w' g none) ∧ (Below w0.heap.size w0 w')) ?_ ?_
                       rotate_left
                       ·intro hJ2
                        refine join_ (σ := Value × Addr) 9 #[true, true, false, true, false, false, false, true, true, true, true, true, false, false, false, false, false] (fun s_ => [(37, s_.1), (39, .pointer (some (s_.2.add (x5_16).toNat)))]) (fun s_ w' => (w'.cell? ⟨gb105, 0, none⟩ = some (.int .i64 x106000_1) ∧ w'.cell? ⟨gb105, 1, none⟩ = some (.int .i64 x106001_1)) ∧ (Kd.R (Kd.int .i64) 3 w' w.heap.size (fun _ => True) s_.1 y121) ∧ (Kd.R k38 38 w' w.heap.size (fun k_ => k_ ≠ gb105) u4 x4_1) ∧ (∃ c_, (s_.1 : Value) = .slice (some s_.2) y121.length c_) ∧ (w'.heap[gb105]? = some (.cells #[.int .i64 x106000_1, .int .i64 x106001_1] 38 (0, 0))) ∧ (IsS57 w0 w' g s0_0 x1001_16) ∧ (KeepBut w w' g none) ∧ (Below w0.heap.size w0 w')) ?_ ?_
                        rotate_left
                        ·intro hJ9
                         refine join_ (σ := Nat) 10 #[true, true, false, true, false, false, false, true, true, false, true, false, false, false, false, true, false] (fun s_ => [(7, .pointer (some ⟨s_, 0, none⟩))]) (fun s_ w' => (w'.cell? ⟨gb105, 0, none⟩ = some (.int .i64 x106000_1) ∧ w'.cell? ⟨gb105, 1, none⟩ = some (.int .i64 x106001_1)) ∧ (Kd.R k38 38 w' w.heap.size (fun k_ => k_ ≠ gb105 ∧ k_ ≠ s_) u4 x4_1) ∧ (w'.heap[gb105]? = some (.cells #[.int .i64 x106000_1, .int .i64 x106001_1] 38 (0, 0))) ∧ (w'.heap[s_]? = some (.cells #[.int .i64 0, .int .i64 0] 38 (0, 0))) ∧ (w.heap.size ≤ s_) ∧ (w0.heap.size ≤ s_) ∧ (g ≠ s_) ∧ (s_ ≠ g) ∧ (gb105 ≠ s_) ∧ (s_ ≠ gb105) ∧ (IsS57 w0 w' g s0_0 x1001_16) ∧ (KeepBut w w' g none) ∧ (Below w0.heap.size w0 w')) ?_ ?_
                         rotate_left
                         ·intro hJ15
                          refine three_ (i := 2) (j := 9) (k := 15) (Ni := some 30) (Nj := some 37) (Nk := some 7) #[true, true, true, true, false, false, false, true, true, false, true, false, false, false, false, false, false] #[true, true, false, true, false, false, false, true, true, true, true, false, false, false, false, false, false] #[true, true, false, true, false, false, false, true, true, false, true, false, false, false, false, true, false] rfl rfl rfl rfl rfl rfl (three_of HT_.out (by kernel_rfl)) (by decide) (by decide) (by decide) (fun K hK => ?_) (fun K hK => ?_) (fun K hK => ?_)
                          ·skip
                           refine Kd.R_lit_step (Kd.int .i64) _ 3 ?hg (N := 30) ?hd (xs := ([1, 0, (-1), 0] : List Int)) (inner := [.int .i64 1, .int .i64 0, .int .i64 (-1), .int .i64 0]) (ok := fun _ => True) (okp := fun _ => True) ?hr ?hp (fun _ hk => hk) trivial (Below.refl _ _) (Nat.le_refl _) (by simp) ?_; (case hd => rfl); (case hg => rfl); (zq16_20); (zq16_12)
                           intro v118 w28 ho29 hb hg_ hnew_
                           clear hg_ hnew_
                           (first | rw [← Ny117.out] at ho29 | (simp only [Int.reduceToNat] at ho29; rw [← Ny117.out] at ho29))
                           have n0_ := Aside0.mk (Kd.R_below (by (zq16_2); exact HO_4.out) hb)
                           have n1_ := Aside0.mk (Kd.R_lower ho29 (keep_size (w := w) (g := g) (row := none) zq16_3))
                           have n2_ := Aside0.mk (blk_below (g := gb105) (o := .cells #[.int .i64 x106000_1, .int .i64 x106001_1] 38 (0, 0)) (by (zq16_1); exact BK105.out) hb)
                           have n3_ := Aside0.mk (IsS57.below zq16_9 hb)
                           have n4_ := Aside0.mk (KeepBut.trans zq16_3 (KeepBut.of_below hb g none) (.inl rfl))
                           have n5_ := Aside0.mk (below_step zq16_8 hb)
                           clear HO_4
                           clear BK105
                           clear HI0
                           clear HK
                           clear HB
                           have HO_4 := n0_
                           have HO119 := n1_
                           have BK105 := n2_
                           have HI0 := n3_
                           have HK := n4_
                           have HB := n5_
                           clear n0_ n1_ n2_ n3_ n4_ n5_
                           clear hb ho29
                           obtain ⟨Ao30, co30, eo30⟩ := Kd.R_slice HO119.out
                           subst eo30
                           obtain ⟨ado30, fo30, _⟩ := Kd.at_int (Kd.R_reads' HO119.out).2.2 0 (by decide) (by rw [Ny117.out]; simp)
                           cases fo30
                           refine hK.out _ _ ⟨(blk_cell BK105.out 0).trans rfl, (blk_cell BK105.out 1).trans rfl⟩ (fun hHeld => ?_)
                           clear hK K
                           refine norm_ (a' := ?_) ?_ ?_
                           rotate_left
                           ·show Act.put _ (some 30) _ = _
                            simp only [Act.put, List.setIfInBounds_toArray, List.set_cons_zero, List.set_cons_succ, i64_w, i32_w]
                            rfl
                           refine pure_ (i := 4) (N := some 32) (v := ?_) (a' := ?_) #[true, true, true, true, true, false, false, true, true, false, true, false, false, false, false, false, false] rfl rfl (any_of HT_.out (by kernel_rfl)) (fun _ _ _ h => h) (Or.inl ⟨by rfl, ?_⟩) ?_ ?_
                           rotate_left
                           ·intro w'
                            go_simp
                            with_reducible rfl
                           rotate_left
                           ·simp only [Act.put, List.setIfInBounds_toArray, List.set_cons_zero, List.set_cons_succ, i64_w, i32_w]
                            rfl
                           exact norm_ zq16_5 (hJ2 (.slice (some ado30) y117.length co30, ado30) _ ⟨hHeld, (by (zq16_2); exact HO119.out), (by (zq16_2); exact HO_4.out), ⟨_, rfl⟩, (by (zq16_1); exact BK105.out), zq16_9, zq16_3, zq16_8⟩)
                          ·skip
                           refine Kd.R_lit_step (Kd.int .i64) _ 3 ?hg (N := 37) ?hd (xs := ([0, 1, 0, (-1)] : List Int)) (inner := [.int .i64 0, .int .i64 1, .int .i64 0, .int .i64 (-1)]) (ok := fun _ => True) (okp := fun _ => True) ?hr ?hp (fun _ hk => hk) trivial (Below.refl _ _) (Nat.le_refl _) (by simp) ?_; (case hd => rfl); (case hg => rfl); (zq16_20); (zq16_13)
                           intro v122 w28 ho29 hb hg_ hnew_
                           clear hg_ hnew_
                           (first | rw [← Ny121.out] at ho29 | (simp only [Int.reduceToNat] at ho29; rw [← Ny121.out] at ho29))
                           have n0_ := Aside0.mk (Kd.R_below (by (zq16_2); exact HO_4.out) hb)
                           have n1_ := Aside0.mk (Kd.R_lower ho29 (keep_size (w := w) (g := g) (row := none) zq16_3))
                           have n2_ := Aside0.mk (blk_below (g := gb105) (o := .cells #[.int .i64 x106000_1, .int .i64 x106001_1] 38 (0, 0)) (by (zq16_1); exact BK105.out) hb)
                           have n3_ := Aside0.mk (IsS57.below zq16_9 hb)
                           have n4_ := Aside0.mk (KeepBut.trans zq16_3 (KeepBut.of_below hb g none) (.inl rfl))
                           have n5_ := Aside0.mk (below_step zq16_8 hb)
                           clear HO_4
                           clear BK105
                           clear HI0
                           clear HK
                           clear HB
                           have HO_4 := n0_
                           have HO123 := n1_
                           have BK105 := n2_
                           have HI0 := n3_
                           have HK := n4_
                           have HB := n5_
                           clear n0_ n1_ n2_ n3_ n4_ n5_
                           clear hb ho29
                           obtain ⟨Ao30, co30, eo30⟩ := Kd.R_slice HO123.out
                           subst eo30
                           obtain ⟨ado30, fo30, _⟩ := Kd.at_int (Kd.R_reads' HO123.out).2.2 0 (by decide) (by rw [Ny121.out]; simp)
                           cases fo30
                           refine hK.out _ _ ⟨(blk_cell BK105.out 0).trans rfl, (blk_cell BK105.out 1).trans rfl⟩ (fun hHeld => ?_)
                           clear hK K
                           refine norm_ (a' := ?_) ?_ ?_
                           rotate_left
                           ·show Act.put _ (some 37) _ = _
                            simp only [Act.put, List.setIfInBounds_toArray, List.set_cons_zero, List.set_cons_succ, i64_w, i32_w]
                            rfl
                           refine pure_ (i := 11) (N := some 39) (v := ?_) (a' := ?_) #[true, true, false, true, false, false, false, true, true, true, true, true, false, false, false, false, false] rfl rfl (any_of HT_.out (by kernel_rfl)) (fun _ _ _ h => h) (Or.inl ⟨by rfl, ?_⟩) ?_ ?_
                           rotate_left
                           ·intro w'
                            go_simp
                            with_reducible rfl
                           rotate_left
                           ·simp only [Act.put, List.setIfInBounds_toArray, List.set_cons_zero, List.set_cons_succ, i64_w, i32_w]
                            rfl
                           exact norm_ zq16_5 (hJ9 (.slice (some ado30) y121.length co30, ado30) _ ⟨hHeld, (by (zq16_2); exact HO123.out), (by (zq16_2); exact HO_4.out), ⟨_, rfl⟩, (by (zq16_1); exact BK105.out), zq16_9, zq16_3, zq16_8⟩)
                          ·skip
                           refine box_step ?hg (N := 7) ?hd (cs := #[.int .i64 0, .int .i64 0]) (t := 38) ?hr ?_; (case hd => rfl); (case hg => rfl); (zq16_20)
                           intro gb125 hg w28 hbox hb
                           have n0_ := Aside0.mk (Kd.R_below (Kd.R_elderB (by (zq16_2); exact HO_4.out) gb125 (Nat.le_of_eq hg.symm)) hb)
                           have n1_ := Aside0.mk (blk_below (g := gb105) (o := .cells #[.int .i64 x106000_1, .int .i64 x106001_1] 38 (0, 0)) (by (zq16_1); exact BK105.out) hb)
                           have n2_ := Aside0.mk (IsS57.below zq16_9 hb)
                           have n3_ := Aside0.mk (KeepBut.trans zq16_3 (KeepBut.of_below hb g none) (.inl rfl))
                           have n4_ := Aside0.mk (below_step zq16_8 hb)
                           have n5_ := Aside0.mk (hbox)
                           have n6_ := Aside0.mk (zq16_14)
                           have n7_ := Aside0.mk ((Nat.le_trans HW0.out zq16_14 : w0.heap.size ≤ gb125))
                           have n8_ := Aside0.mk (zq16_16)
                           have n9_ := Aside0.mk (zq16_17)
                           have n10_ := Aside0.mk (zq16_10)
                           have n11_ := Aside0.mk (zq16_11)
                           clear HO_4
                           clear BK105
                           clear HI0
                           clear HK
                           clear HB
                           have HO_4 := n0_
                           have BK105 := n1_
                           have HI0 := n2_
                           have HK := n3_
                           have HB := n4_
                           have BK125 := n5_
                           have GW125 := n6_
                           have GE125 := n7_
                           have NB105_125 := n8_
                           have NB125_105 := n9_
                           have NB0_125 := n10_
                           have NB125_0 := n11_
                           clear n0_ n1_ n2_ n3_ n4_ n5_ n6_ n7_ n8_ n9_ n10_ n11_
                           clear hb hbox hg
                           refine hK.out _ _ ⟨(blk_cell BK105.out 0).trans rfl, (blk_cell BK105.out 1).trans rfl⟩ (fun hHeld => ?_)
                           clear hK K
                           refine norm_ (a' := ?_) ?_ ?_
                           rotate_left
                           ·show Act.put _ (some 7) _ = _
                            simp only [Act.put, List.setIfInBounds_toArray, List.set_cons_zero, List.set_cons_succ, i64_w, i32_w]
                            rfl
                           exact norm_ zq16_5 (hJ15 (gb125) _ ⟨hHeld, (by (zq16_2); exact HO_4.out), (by (zq16_1); exact BK105.out), (by (zq16_1); exact BK125.out), GW125.out, GE125.out, NB0_125.out, NB125_0.out, NB105_125.out, NB125_105.out, zq16_7, zq16_4, zq16_6⟩)
                         ·skip
                          rintro gb125 w29 ⟨hS_, h0_, h1_, h2_, h3_, h4_, h5_, h6_, h7_, h8_, h9_, h10_, h11_⟩
                          have n0_ : Aside0 (Kd.R k38 38 w29 w.heap.size (fun k_ => k_ ≠ gb105 ∧ k_ ≠ gb125) u4 x4_1) := ⟨h0_⟩
                          have n1_ : Aside0 (w29.heap[gb105]? = some (.cells #[.int .i64 x106000_1, .int .i64 x106001_1] 38 (0, 0))) := ⟨h1_⟩
                          have n2_ : Aside0 (w29.heap[gb125]? = some (.cells #[.int .i64 0, .int .i64 0] 38 (0, 0))) := ⟨h2_⟩
                          have n3_ : Aside0 (w.heap.size ≤ gb125) := ⟨h3_⟩
                          have n4_ : Aside0 (w0.heap.size ≤ gb125) := ⟨h4_⟩
                          have n5_ : Aside0 (g ≠ gb125) := ⟨h5_⟩
                          have n6_ : Aside0 (gb125 ≠ g) := ⟨h6_⟩
                          have n7_ : Aside0 (gb105 ≠ gb125) := ⟨h7_⟩
                          have n8_ : Aside0 (gb125 ≠ gb105) := ⟨h8_⟩
                          have n9_ : Aside0 (IsS57 w0 w29 g s0_0 x1001_16) := ⟨h9_⟩
                          have n10_ : Aside0 (KeepBut w w29 g none) := ⟨h10_⟩
                          have n11_ : Aside0 (Below w0.heap.size w0 w29) := ⟨h11_⟩
                          clear HO_4
                          clear BK105
                          clear HI0
                          clear HK
                          clear HB
                          clear h0_ h1_ h2_ h3_ h4_ h5_ h6_ h7_ h8_ h9_ h10_ h11_
                          have HO_4 := n0_
                          have BK105 := n1_
                          have BK125 := n2_
                          have GW125 := n3_
                          have GE125 := n4_
                          have NB0_125 := n5_
                          have NB125_0 := n6_
                          have NB105_125 := n7_
                          have NB125_105 := n8_
                          have HI0 := n9_
                          have HK := n10_
                          have HB := n11_
                          clear n0_ n1_ n2_ n3_ n4_ n5_ n6_ n7_ n8_ n9_ n10_ n11_
                          have hHeld : w29.cell? ⟨gb105, 0, none⟩ = some (.int .i64 x106000_1) ∧ w29.cell? ⟨gb105, 1, none⟩ = some (.int .i64 x106001_1) := hS_
                          refine norm_ (a' := ?_) ?_ ?_
                          rotate_left
                          ·simp only [putAll, Act.put, List.setIfInBounds_toArray, List.set_cons_zero, List.set_cons_succ]
                           rfl
                          refine two_ (i := 2) (j := 9) (Ni := some 30) (Nj := some 37) #[true, true, true, true, false, false, false, true, true, false, true, false, false, false, false, true, false] #[true, true, false, true, false, false, false, true, true, true, true, false, false, false, false, true, false] rfl rfl rfl rfl (two_of HT_.out (by kernel_rfl)) (by decide) (by decide) (fun K hK => ?_) (fun K hK => ?_)
                          ·skip
                           refine Kd.R_lit_step (Kd.int .i64) _ 3 ?hg (N := 30) ?hd (xs := ([1, 0, (-1), 0] : List Int)) (inner := [.int .i64 1, .int .i64 0, .int .i64 (-1), .int .i64 0]) (ok := fun _ => True) (okp := fun _ => True) ?hr ?hp (fun _ hk => hk) trivial (Below.refl _ _) (Nat.le_refl _) (by simp) ?_; (case hd => rfl); (case hg => rfl); (zq16_20); (zq16_12)
                           intro v118 w30 ho31 hb hg_ hnew_
                           clear hg_ hnew_
                           (first | rw [← Ny117.out] at ho31 | (simp only [Int.reduceToNat] at ho31; rw [← Ny117.out] at ho31))
                           have n0_ := Aside0.mk (Kd.R_below (by (zq16_2); exact HO_4.out) hb)
                           have n1_ := Aside0.mk (Kd.R_lower ho31 (keep_size (w := w) (g := g) (row := none) zq16_4))
                           have n2_ := Aside0.mk (blk_below (g := gb105) (o := .cells #[.int .i64 x106000_1, .int .i64 x106001_1] 38 (0, 0)) (by (zq16_1); exact BK105.out) hb)
                           have n3_ := Aside0.mk (IsS57.below zq16_7 hb)
                           have n4_ := Aside0.mk (blk_below (g := gb125) (o := .cells #[.int .i64 0, .int .i64 0] 38 (0, 0)) (by (zq16_1); exact BK125.out) hb)
                           have n5_ := Aside0.mk (KeepBut.trans zq16_4 (KeepBut.of_below hb g none) (.inl rfl))
                           have n6_ := Aside0.mk (below_step zq16_6 hb)
                           clear HO_4
                           clear BK105
                           clear HI0
                           clear BK125
                           clear HK
                           clear HB
                           have HO_4 := n0_
                           have HO119 := n1_
                           have BK105 := n2_
                           have HI0 := n3_
                           have BK125 := n4_
                           have HK := n5_
                           have HB := n6_
                           clear n0_ n1_ n2_ n3_ n4_ n5_ n6_
                           clear hb ho31
                           obtain ⟨Ao32, co32, eo32⟩ := Kd.R_slice HO119.out
                           subst eo32
                           obtain ⟨ado32, fo32, _⟩ := Kd.at_int (Kd.R_reads' HO119.out).2.2 0 (by decide) (by rw [Ny117.out]; simp)
                           cases fo32
                           refine hK.out _ _ ⟨(blk_cell BK105.out 0).trans rfl, (blk_cell BK105.out 1).trans rfl⟩ (fun hHeld => ?_)
                           clear hK K
                           refine norm_ (a' := ?_) ?_ ?_
                           rotate_left
                           ·show Act.put _ (some 30) _ = _
                            simp only [Act.put, List.setIfInBounds_toArray, List.set_cons_zero, List.set_cons_succ, i64_w, i32_w]
                            rfl
                           refine pure_ (i := 4) (N := some 32) (v := ?_) (a' := ?_) #[true, true, true, true, true, false, false, true, true, false, true, false, false, false, false, true, false] rfl rfl (any_of HT_.out (by kernel_rfl)) (fun _ _ _ h => h) (Or.inl ⟨by rfl, ?_⟩) ?_ ?_
                           rotate_left
                           ·intro w'
                            go_simp
                            with_reducible rfl
                           rotate_left
                           ·simp only [Act.put, List.setIfInBounds_toArray, List.set_cons_zero, List.set_cons_succ, i64_w, i32_w]
                            rfl
                           exact norm_ zq16_5 (hJ2_15 (.slice (some ado32) y117.length co32, ado32, gb125) _ ⟨hHeld, (by (zq16_2); exact HO119.out), (by (zq16_2); exact HO_4.out), ⟨_, rfl⟩, (by (zq16_1); exact BK105.out), (by (zq16_1); exact BK125.out), GW125.out, GE125.out, NB0_125.out, NB125_0.out, NB105_125.out, NB125_105.out, zq16_7, zq16_4, zq16_6⟩)
                          ·skip
                           refine Kd.R_lit_step (Kd.int .i64) _ 3 ?hg (N := 37) ?hd (xs := ([0, 1, 0, (-1)] : List Int)) (inner := [.int .i64 0, .int .i64 1, .int .i64 0, .int .i64 (-1)]) (ok := fun _ => True) (okp := fun _ => True) ?hr ?hp (fun _ hk => hk) trivial (Below.refl _ _) (Nat.le_refl _) (by simp) ?_; (case hd => rfl); (case hg => rfl); (zq16_20); (zq16_13)
                           intro v122 w30 ho31 hb hg_ hnew_
                           clear hg_ hnew_
                           (first | rw [← Ny121.out] at ho31 | (simp only [Int.reduceToNat] at ho31; rw [← Ny121.out] at ho31))
                           have n0_ := Aside0.mk (Kd.R_below (by (zq16_2); exact HO_4.out) hb)
                           have n1_ := Aside0.mk (Kd.R_lower ho31 (keep_size (w := w) (g := g) (row := none) zq16_4))
                           have n2_ := Aside0.mk (blk_below (g := gb105) (o := .cells #[.int .i64 x106000_1, .int .i64 x106001_1] 38 (0, 0)) (by (zq16_1); exact BK105.out) hb)
                           have n3_ := Aside0.mk (IsS57.below zq16_7 hb)
                           have n4_ := Aside0.mk (blk_below (g := gb125) (o := .cells #[.int .i64 0, .int .i64 0] 38 (0, 0)) (by (zq16_1); exact BK125.out) hb)
                           have n5_ := Aside0.mk (KeepBut.trans zq16_4 (KeepBut.of_below hb g none) (.inl rfl))
                           have n6_ := Aside0.mk (below_step zq16_6 hb)
                           clear HO_4
                           clear BK105
                           clear HI0
                           clear BK125
                           clear HK
                           clear HB
                           have HO_4 := n0_
                           have HO123 := n1_
                           have BK105 := n2_
                           have HI0 := n3_
                           have BK125 := n4_
                           have HK := n5_
                           have HB := n6_
                           clear n0_ n1_ n2_ n3_ n4_ n5_ n6_
                           clear hb ho31
                           obtain ⟨Ao32, co32, eo32⟩ := Kd.R_slice HO123.out
                           subst eo32
                           obtain ⟨ado32, fo32, _⟩ := Kd.at_int (Kd.R_reads' HO123.out).2.2 0 (by decide) (by rw [Ny121.out]; simp)
                           cases fo32
                           refine hK.out _ _ ⟨(blk_cell BK105.out 0).trans rfl, (blk_cell BK105.out 1).trans rfl⟩ (fun hHeld => ?_)
                           clear hK K
                           refine norm_ (a' := ?_) ?_ ?_
                           rotate_left
                           ·show Act.put _ (some 37) _ = _
                            simp only [Act.put, List.setIfInBounds_toArray, List.set_cons_zero, List.set_cons_succ, i64_w, i32_w]
                            rfl
                           refine pure_ (i := 11) (N := some 39) (v := ?_) (a' := ?_) #[true, true, false, true, false, false, false, true, true, true, true, true, false, false, false, true, false] rfl rfl (any_of HT_.out (by kernel_rfl)) (fun _ _ _ h => h) (Or.inl ⟨by rfl, ?_⟩) ?_ ?_
                           rotate_left
                           ·intro w'
                            go_simp
                            with_reducible rfl
                           rotate_left
                           ·simp only [Act.put, List.setIfInBounds_toArray, List.set_cons_zero, List.set_cons_succ, i64_w, i32_w]
                            rfl
                           exact norm_ zq16_5 (hJ9_15 (.slice (some ado32) y121.length co32, ado32, gb125) _ ⟨hHeld, (by (zq16_2); exact HO123.out), (by (zq16_2); exact HO_4.out), ⟨_, rfl⟩, (by (zq16_1); exact BK105.out), (by (zq16_1); exact BK125.out), GW125.out, GE125.out, NB0_125.out, NB125_0.out, NB105_125.out, NB125_105.out, zq16_7, zq16_4, zq16_6⟩)
                        ·skip
                         rintro ⟨v122, adz_v122⟩ w31 ⟨hS_, h0_, h1_, h2_, h3_, h4_, h5_, h6_⟩
                         have n0_ : Aside0 (Kd.R (Kd.int .i64) 3 w31 w.heap.size (fun _ => True) v122 y121) := ⟨h0_⟩
                         have n1_ : Aside0 (Kd.R k38 38 w31 w.heap.size (fun k_ => k_ ≠ gb105) u4 x4_1) := ⟨h1_⟩
                         have n2_ : Aside0 (∃ c_, (v122 : Value) = .slice (some adz_v122) y121.length c_) := ⟨h2_⟩
                         have n3_ : Aside0 (w31.heap[gb105]? = some (.cells #[.int .i64 x106000_1, .int .i64 x106001_1] 38 (0, 0))) := ⟨h3_⟩
                         have n4_ : Aside0 (IsS57 w0 w31 g s0_0 x1001_16) := ⟨h4_⟩
                         have n5_ : Aside0 (KeepBut w w31 g none) := ⟨h5_⟩
                         have n6_ : Aside0 (Below w0.heap.size w0 w31) := ⟨h6_⟩
                         clear HO_4
                         clear BK105
                         clear HI0
                         clear HK
                         clear HB
                         clear h0_ h1_ h2_ h3_ h4_ h5_ h6_
                         have HO123 := n0_
                         have HO_4 := n1_
                         have HA_HO123 := n2_
                         have BK105 := n3_
                         have HI0 := n4_
                         have HK := n5_
                         have HB := n6_
                         clear n0_ n1_ n2_ n3_ n4_ n5_ n6_
                         have hHeld : w31.cell? ⟨gb105, 0, none⟩ = some (.int .i64 x106000_1) ∧ w31.cell? ⟨gb105, 1, none⟩ = some (.int .i64 x106001_1) := hS_
                         obtain ⟨co32, eo32⟩ := HA_HO123.out
                         clear HA_HO123
                         subst eo32
                         refine norm_ (a' := ?_) ?_ ?_
                         rotate_left
                         ·simp only [putAll, Act.put, List.setIfInBounds_toArray, List.set_cons_zero, List.set_cons_succ]
                          rfl
                         refine three_ (i := 2) (j := 12) (k := 15) (Ni := some 30) (Nj := some 40) (Nk := some 7) #[true, true, true, true, false, false, false, true, true, true, true, true, false, false, false, false, false] #[true, true, false, true, false, false, false, true, true, true, true, true, true, false, false, false, false] #[true, true, false, true, false, false, false, true, true, true, true, true, false, false, false, true, false] rfl rfl rfl rfl rfl rfl (three_of HT_.out (by kernel_rfl)) (by decide) (by decide) (by decide) (fun K hK => ?_) (fun K hK => ?_) (fun K hK => ?_)
                         ·skip
                          refine Kd.R_lit_step (Kd.int .i64) _ 3 ?hg (N := 30) ?hd (xs := ([1, 0, (-1), 0] : List Int)) (inner := [.int .i64 1, .int .i64 0, .int .i64 (-1), .int .i64 0]) (ok := fun _ => True) (okp := fun _ => True) ?hr ?hp (fun _ hk => hk) trivial (Below.refl _ _) (Nat.le_refl _) (by simp) ?_; (case hd => rfl); (case hg => rfl); (zq16_20); (zq16_12)
                          intro v118 w33 ho34 hb hg_ hnew_
                          clear hg_ hnew_
                          (first | rw [← Ny117.out] at ho34 | (simp only [Int.reduceToNat] at ho34; rw [← Ny117.out] at ho34))
                          have n0_ := Aside0.mk (Kd.R_below (by (zq16_2); exact HO_4.out) hb)
                          have n1_ := Aside0.mk (Kd.R_elder' (by (zq16_2); exact HO123.out) (Kd.R_base ho34) hb)
                          have n2_ := Aside0.mk (Kd.R_lower (Kd.R_new' ho34 (Kd.R_lt (by (zq16_2); exact HO123.out))) (keep_size (w := w) (g := g) (row := none) zq16_3))
                          have n3_ := Aside0.mk (blk_below (g := gb105) (o := .cells #[.int .i64 x106000_1, .int .i64 x106001_1] 38 (0, 0)) (by (zq16_1); exact BK105.out) hb)
                          have n4_ := Aside0.mk (IsS57.below zq16_9 hb)
                          have n5_ := Aside0.mk (KeepBut.trans zq16_3 (KeepBut.of_below hb g none) (.inl rfl))
                          have n6_ := Aside0.mk (below_step zq16_8 hb)
                          clear HO_4
                          clear HO123
                          clear BK105
                          clear HI0
                          clear HK
                          clear HB
                          have HO_4 := n0_
                          have HO123 := n1_
                          have HO119 := n2_
                          have BK105 := n3_
                          have HI0 := n4_
                          have HK := n5_
                          have HB := n6_
                          clear n0_ n1_ n2_ n3_ n4_ n5_ n6_
                          clear hb ho34
                          obtain ⟨Ao35, co35, eo35⟩ := Kd.R_slice HO119.out
                          subst eo35
                          obtain ⟨ado35, fo35, _⟩ := Kd.at_int (Kd.R_reads' HO119.out).2.2 0 (by decide) (by rw [Ny117.out]; simp)
                          cases fo35
                          refine hK.out _ _ ⟨(blk_cell BK105.out 0).trans rfl, (blk_cell BK105.out 1).trans rfl⟩ (fun hHeld => ?_)
                          clear hK K
                          refine norm_ (a' := ?_) ?_ ?_
                          rotate_left
                          ·show Act.put _ (some 30) _ = _
                           simp only [Act.put, List.setIfInBounds_toArray, List.set_cons_zero, List.set_cons_succ, i64_w, i32_w]
                           rfl
                          refine pure_ (i := 4) (N := some 32) (v := ?_) (a' := ?_) #[true, true, true, true, true, false, false, true, true, true, true, true, false, false, false, false, false] rfl rfl (any_of HT_.out (by kernel_rfl)) (fun _ _ _ h => h) (Or.inl ⟨by rfl, ?_⟩) ?_ ?_
                          rotate_left
                          ·intro w'
                           go_simp
                           with_reducible rfl
                          rotate_left
                          ·simp only [Act.put, List.setIfInBounds_toArray, List.set_cons_zero, List.set_cons_succ, i64_w, i32_w]
                           rfl
                          exact norm_ zq16_5 (hJ2_9 (.slice (some ado35) y117.length co35, ado35, .slice (some adz_v122) y121.length co32, adz_v122) _ ⟨hHeld, zq16_23, zq16_24, (by (zq16_2); exact HO_4.out), ⟨_, rfl⟩, ⟨_, rfl⟩, (by (zq16_1); exact BK105.out), zq16_9, zq16_3, zq16_8⟩)
                         ·skip
                          (have p124 : 0 ≤ (x5_16 : Int) := of_decide_eq_true zq16_15; have q124 : x5_16 < (y121.length : Int) := of_decide_eq_true zq16_15; obtain ⟨ad124, e124, hx124_0⟩ := Kd.at_int (Kd.R_reads' HO123.out).2.2 x5_16 p124 q124; obtain rfl : adz_v122 = ad124 := (by injection e124))
                          refine value_ (w1 := ?_) (v := ?_) (by rfl) rfl ?_ ?_
                          rotate_left 2
                          ·go_simp
                           constructor
                           ·rfl
                           ·rfl
                          clear hx124_0
                          refine hK.out _ _ ⟨(blk_cell BK105.out 0).trans rfl, (blk_cell BK105.out 1).trans rfl⟩ (fun hHeld => ?_)
                          clear hK K
                          refine norm_ (a' := ?_) ?_ ?_
                          rotate_left
                          ·show Act.put _ (some 40) _ = _
                           simp only [Act.put, List.setIfInBounds_toArray, List.set_cons_zero, List.set_cons_succ, i64_w, i32_w]
                           rfl
                          refine pure_ (i := 13) (N := some 41) (v := ?_) (a' := ?_) #[true, true, false, true, false, false, false, true, true, true, true, true, true, true, false, false, false] rfl rfl (any_of HT_.out (by kernel_rfl)) (fun _ _ _ h => h) (Or.inl ⟨by rfl, ?_⟩) ?_ ?_
                          rotate_left
                          ·intro w'
                           go_simp
                           with_reducible rfl
                          rotate_left
                          ·simp only [Act.put, List.setIfInBounds_toArray, List.set_cons_zero, List.set_cons_succ, i64_w, i32_w]
                           rfl
                          exact norm_ zq16_5 (hJ9_12 (.slice (some adz_v122) y121.length co32, adz_v122) _ ⟨hHeld, (by (zq16_2); exact HO123.out), (by (zq16_2); exact HO_4.out), ⟨_, rfl⟩, (by (zq16_1); exact BK105.out), zq16_9, zq16_3, zq16_8⟩)
                         ·skip
                          refine box_step ?hg (N := 7) ?hd (cs := #[.int .i64 0, .int .i64 0]) (t := 38) ?hr ?_; (case hd => rfl); (case hg => rfl); (zq16_20)
                          intro gb125 hg w33 hbox hb
                          have n0_ := Aside0.mk (Kd.R_below (Kd.R_elderB (by (zq16_2); exact HO_4.out) gb125 (Nat.le_of_eq hg.symm)) hb)
                          have n1_ := Aside0.mk (Kd.R_below (by (zq16_2); exact HO123.out) hb)
                          have n2_ := Aside0.mk (blk_below (g := gb105) (o := .cells #[.int .i64 x106000_1, .int .i64 x106001_1] 38 (0, 0)) (by (zq16_1); exact BK105.out) hb)
                          have n3_ := Aside0.mk (IsS57.below zq16_9 hb)
                          have n4_ := Aside0.mk (KeepBut.trans zq16_3 (KeepBut.of_below hb g none) (.inl rfl))
                          have n5_ := Aside0.mk (below_step zq16_8 hb)
                          have n6_ := Aside0.mk (hbox)
                          have n7_ := Aside0.mk (zq16_14)
                          have n8_ := Aside0.mk ((Nat.le_trans HW0.out zq16_14 : w0.heap.size ≤ gb125))
                          have n9_ := Aside0.mk (zq16_16)
                          have n10_ := Aside0.mk (zq16_17)
                          have n11_ := Aside0.mk (zq16_10)
                          have n12_ := Aside0.mk (zq16_11)
                          clear HO_4
                          clear HO123
                          clear BK105
                          clear HI0
                          clear HK
                          clear HB
                          have HO_4 := n0_
                          have HO123 := n1_
                          have BK105 := n2_
                          have HI0 := n3_
                          have HK := n4_
                          have HB := n5_
                          have BK125 := n6_
                          have GW125 := n7_
                          have GE125 := n8_
                          have NB105_125 := n9_
                          have NB125_105 := n10_
                          have NB0_125 := n11_
                          have NB125_0 := n12_
                          clear n0_ n1_ n2_ n3_ n4_ n5_ n6_ n7_ n8_ n9_ n10_ n11_ n12_
                          clear hb hbox hg
                          refine hK.out _ _ ⟨(blk_cell BK105.out 0).trans rfl, (blk_cell BK105.out 1).trans rfl⟩ (fun hHeld => ?_)
                          clear hK K
                          refine norm_ (a' := ?_) ?_ ?_
                          rotate_left
                          ·show Act.put _ (some 7) _ = _
                           simp only [Act.put, List.setIfInBounds_toArray, List.set_cons_zero, List.set_cons_succ, i64_w, i32_w]
                           rfl
                          exact norm_ zq16_5 (hJ9_15 (.slice (some adz_v122) y121.length co32, adz_v122, gb125) _ ⟨hHeld, (by (zq16_2); exact HO123.out), (by (zq16_2); exact HO_4.out), ⟨_, rfl⟩, (by (zq16_1); exact BK105.out), (by (zq16_1); exact BK125.out), GW125.out, GE125.out, NB0_125.out, NB125_0.out, NB105_125.out, NB125_105.out, zq16_7, zq16_4, zq16_6⟩)
                       ·skip
                        rintro ⟨v118, adz_v118⟩ w31 ⟨hS_, h0_, h1_, h2_, h3_, h4_, h5_, h6_⟩
                        have n0_ : Aside0 (Kd.R (Kd.int .i64) 3 w31 w.heap.size (fun _ => True) v118 y117) := ⟨h0_⟩
                        have n1_ : Aside0 (Kd.R k38 38 w31 w.heap.size (fun k_ => k_ ≠ gb105) u4 x4_1) := ⟨h1_⟩
                        have n2_ : Aside0 (∃ c_, (v118 : Value) = .slice (some adz_v118) y117.length c_) := ⟨h2_⟩
                        have n3_ : Aside0 (w31.heap[gb105]? = some (.cells #[.int .i64 x106000_1, .int .i64 x106001_1] 38 (0, 0))) := ⟨h3_⟩
                        have n4_ : Aside0 (IsS57 w0 w31 g s0_0 x1001_16) := ⟨h4_⟩
                        have n5_ : Aside0 (KeepBut w w31 g none) := ⟨h5_⟩
                        have n6_ : Aside0 (Below w0.heap.size w0 w31) := ⟨h6_⟩
                        clear HO_4
                        clear BK105
                        clear HI0
                        clear HK
                        clear HB
                        clear h0_ h1_ h2_ h3_ h4_ h5_ h6_
                        have HO119 := n0_
                        have HO_4 := n1_
                        have HA_HO119 := n2_
                        have BK105 := n3_
                        have HI0 := n4_
                        have HK := n5_
                        have HB := n6_
                        clear n0_ n1_ n2_ n3_ n4_ n5_ n6_
                        have hHeld : w31.cell? ⟨gb105, 0, none⟩ = some (.int .i64 x106000_1) ∧ w31.cell? ⟨gb105, 1, none⟩ = some (.int .i64 x106001_1) := hS_
                        obtain ⟨co32, eo32⟩ := HA_HO119.out
                        clear HA_HO119
                        subst eo32
                        refine norm_ (a' := ?_) ?_ ?_
                        rotate_left
                        ·simp only [putAll, Act.put, List.setIfInBounds_toArray, List.set_cons_zero, List.set_cons_succ]
                         rfl
                        refine three_ (i := 5) (j := 9) (k := 15) (Ni := some 33) (Nj := some 37) (Nk := some 7) #[true, true, true, true, true, true, false, true, true, false, true, false, false, false, false, false, false] #[true, true, true, true, true, false, false, true, true, true, true, false, false, false, false, false, false] #[true, true, true, true, true, false, false, true, true, false, true, false, false, false, false, true, false] rfl rfl rfl rfl rfl rfl (three_of HT_.out (by kernel_rfl)) (by decide) (by decide) (by decide) (fun K hK => ?_) (fun K hK => ?_) (fun K hK => ?_)
                        ·skip
                         (have p120 : 0 ≤ (x5_16 : Int) := of_decide_eq_true zq16_15; have q120 : x5_16 < (y117.length : Int) := of_decide_eq_true zq16_15; obtain ⟨ad120, e120, hx120_0⟩ := Kd.at_int (Kd.R_reads' HO119.out).2.2 x5_16 p120 q120; obtain rfl : adz_v118 = ad120 := (by injection e120))
                         refine value_ (w1 := ?_) (v := ?_) (by rfl) rfl ?_ ?_
                         rotate_left 2
                         ·go_simp
                          constructor
                          ·rfl
                          ·rfl
                         clear hx120_0
                         refine hK.out _ _ ⟨(blk_cell BK105.out 0).trans rfl, (blk_cell BK105.out 1).trans rfl⟩ (fun hHeld => ?_)
                         clear hK K
                         refine norm_ (a' := ?_) ?_ ?_
                         rotate_left
                         ·show Act.put _ (some 33) _ = _
                          simp only [Act.put, List.setIfInBounds_toArray, List.set_cons_zero, List.set_cons_succ, i64_w, i32_w]
                          rfl
                         refine pure_ (i := 6) (N := some 34) (v := ?_) (a' := ?_) #[true, true, true, true, true, true, true, true, true, false, true, false, false, false, false, false, false] rfl rfl (any_of HT_.out (by kernel_rfl)) (fun _ _ _ h => h) (Or.inl ⟨by rfl, ?_⟩) ?_ ?_
                         rotate_left
                         ·intro w'
                          go_simp
                          with_reducible rfl
                         rotate_left
                         ·simp only [Act.put, List.setIfInBounds_toArray, List.set_cons_zero, List.set_cons_succ, i64_w, i32_w]
                          rfl
                         exact norm_ zq16_5 (hJ2_5 (.slice (some adz_v118) y117.length co32, adz_v118) _ ⟨hHeld, (by (zq16_2); exact HO119.out), (by (zq16_2); exact HO_4.out), ⟨_, rfl⟩, (by (zq16_1); exact BK105.out), zq16_9, zq16_3, zq16_8⟩)
                        ·skip
                         refine Kd.R_lit_step (Kd.int .i64) _ 3 ?hg (N := 37) ?hd (xs := ([0, 1, 0, (-1)] : List Int)) (inner := [.int .i64 0, .int .i64 1, .int .i64 0, .int .i64 (-1)]) (ok := fun _ => True) (okp := fun _ => True) ?hr ?hp (fun _ hk => hk) trivial (Below.refl _ _) (Nat.le_refl _) (by simp) ?_; (case hd => rfl); (case hg => rfl); (zq16_20); (zq16_13)
                         intro v122 w33 ho34 hb hg_ hnew_
                         clear hg_ hnew_
                         (first | rw [← Ny121.out] at ho34 | (simp only [Int.reduceToNat] at ho34; rw [← Ny121.out] at ho34))
                         have n0_ := Aside0.mk (Kd.R_below (by (zq16_2); exact HO_4.out) hb)
                         have n1_ := Aside0.mk (Kd.R_elder' (by (zq16_2); exact HO119.out) (Kd.R_base ho34) hb)
                         have n2_ := Aside0.mk (Kd.R_lower (Kd.R_new' ho34 (Kd.R_lt (by (zq16_2); exact HO119.out))) (keep_size (w := w) (g := g) (row := none) zq16_3))
                         have n3_ := Aside0.mk (blk_below (g := gb105) (o := .cells #[.int .i64 x106000_1, .int .i64 x106001_1] 38 (0, 0)) (by (zq16_1); exact BK105.out) hb)
                         have n4_ := Aside0.mk (IsS57.below zq16_9 hb)
                         have n5_ := Aside0.mk (KeepBut.trans zq16_3 (KeepBut.of_below hb g none) (.inl rfl))
                         have n6_ := Aside0.mk (below_step zq16_8 hb)
                         clear HO_4
                         clear HO119
                         clear BK105
                         clear HI0
                         clear HK
                         clear HB
                         have HO_4 := n0_
                         have HO119 := n1_
                         have HO123 := n2_
                         have BK105 := n3_
                         have HI0 := n4_
                         have HK := n5_
                         have HB := n6_
                         clear n0_ n1_ n2_ n3_ n4_ n5_ n6_
                         clear hb ho34
                         obtain ⟨Ao35, co35, eo35⟩ := Kd.R_slice HO123.out
                         subst eo35
                         obtain ⟨ado35, fo35, _⟩ := Kd.at_int (Kd.R_reads' HO123.out).2.2 0 (by decide) (by rw [Ny121.out]; simp)
                         cases fo35
                         refine hK.out _ _ ⟨(blk_cell BK105.out 0).trans rfl, (blk_cell BK105.out 1).trans rfl⟩ (fun hHeld => ?_)
                         clear hK K
                         refine norm_ (a' := ?_) ?_ ?_
                         rotate_left
                         ·show Act.put _ (some 37) _ = _
                          simp only [Act.put, List.setIfInBounds_toArray, List.set_cons_zero, List.set_cons_succ, i64_w, i32_w]
                          rfl
                         refine pure_ (i := 11) (N := some 39) (v := ?_) (a' := ?_) #[true, true, true, true, true, false, false, true, true, true, true, true, false, false, false, false, false] rfl rfl (any_of HT_.out (by kernel_rfl)) (fun _ _ _ h => h) (Or.inl ⟨by rfl, ?_⟩) ?_ ?_
                         rotate_left
                         ·intro w'
                          go_simp
                          with_reducible rfl
                         rotate_left
                         ·simp only [Act.put, List.setIfInBounds_toArray, List.set_cons_zero, List.set_cons_succ, i64_w, i32_w]
                          rfl
                         exact norm_ zq16_5 (hJ2_9 (.slice (some adz_v118) y117.length co32, adz_v118, .slice (some ado35) y121.length co35, ado35) _ ⟨hHeld, zq16_23, zq16_24, (by (zq16_2); exact HO_4.out), ⟨_, rfl⟩, ⟨_, rfl⟩, (by (zq16_1); exact BK105.out), zq16_9, zq16_3, zq16_8⟩)
                        ·skip
                         refine box_step ?hg (N := 7) ?hd (cs := #[.int .i64 0, .int .i64 0]) (t := 38) ?hr ?_; (case hd => rfl); (case hg => rfl); (zq16_20)
                         intro gb125 hg w33 hbox hb
                         have n0_ := Aside0.mk (Kd.R_below (Kd.R_elderB (by (zq16_2); exact HO_4.out) gb125 (Nat.le_of_eq hg.symm)) hb)
                         have n1_ := Aside0.mk (Kd.R_below (by (zq16_2); exact HO119.out) hb)
                         have n2_ := Aside0.mk (blk_below (g := gb105) (o := .cells #[.int .i64 x106000_1, .int .i64 x106001_1] 38 (0, 0)) (by (zq16_1); exact BK105.out) hb)
                         have n3_ := Aside0.mk (IsS57.below zq16_9 hb)
                         have n4_ := Aside0.mk (KeepBut.trans zq16_3 (KeepBut.of_below hb g none) (.inl rfl))
                         have n5_ := Aside0.mk (below_step zq16_8 hb)
                         have n6_ := Aside0.mk (hbox)
                         have n7_ := Aside0.mk (zq16_14)
                         have n8_ := Aside0.mk ((Nat.le_trans HW0.out zq16_14 : w0.heap.size ≤ gb125))
                         have n9_ := Aside0.mk (zq16_16)
                         have n10_ := Aside0.mk (zq16_17)
                         have n11_ := Aside0.mk (zq16_10)
                         have n12_ := Aside0.mk (zq16_11)
                         clear HO_4
                         clear HO119
                         clear BK105
                         clear HI0
                         clear HK
                         clear HB
                         have HO_4 := n0_
                         have HO119 := n1_
                         have BK105 := n2_
                         have HI0 := n3_
                         have HK := n4_
                         have HB := n5_
                         have BK125 := n6_
                         have GW125 := n7_
                         have GE125 := n8_
                         have NB105_125 := n9_
                         have NB125_105 := n10_
                         have NB0_125 := n11_
                         have NB125_0 := n12_
                         clear n0_ n1_ n2_ n3_ n4_ n5_ n6_ n7_ n8_ n9_ n10_ n11_ n12_
                         clear hb hbox hg
                         refine hK.out _ _ ⟨(blk_cell BK105.out 0).trans rfl, (blk_cell BK105.out 1).trans rfl⟩ (fun hHeld => ?_)
                         clear hK K
                         refine norm_ (a' := ?_) ?_ ?_
                         rotate_left
                         ·show Act.put _ (some 7) _ = _
                          simp only [Act.put, List.setIfInBounds_toArray, List.set_cons_zero, List.set_cons_succ, i64_w, i32_w]
                          rfl
                         exact norm_ zq16_5 (hJ2_15 (.slice (some adz_v118) y117.length co32, adz_v118, gb125) _ ⟨hHeld, (by (zq16_2); exact HO119.out), (by (zq16_2); exact HO_4.out), ⟨_, rfl⟩, (by (zq16_1); exact BK105.out), (by (zq16_1); exact BK125.out), GW125.out, GE125.out, NB0_125.out, NB125_0.out, NB105_125.out, NB125_105.out, zq16_7, zq16_4, zq16_6⟩)
                      ·skip
                       rintro ⟨v122, adz_v122, gb125⟩ w32 ⟨hS_, h0_, h1_, h2_, h3_, h4_, h5_, h6_, h7_, h8_, h9_, h10_, h11_, h12_, h13_⟩
                       have n0_ : Aside0 (Kd.R (Kd.int .i64) 3 w32 w.heap.size (fun _ => True) v122 y121) := ⟨h0_⟩
                       have n1_ : Aside0 (Kd.R k38 38 w32 w.heap.size (fun k_ => k_ ≠ gb105 ∧ k_ ≠ gb125) u4 x4_1) := ⟨h1_⟩
                       have n2_ : Aside0 (∃ c_, (v122 : Value) = .slice (some adz_v122) y121.length c_) := ⟨h2_⟩
                       have n3_ : Aside0 (w32.heap[gb105]? = some (.cells #[.int .i64 x106000_1, .int .i64 x106001_1] 38 (0, 0))) := ⟨h3_⟩
                       have n4_ : Aside0 (w32.heap[gb125]? = some (.cells #[.int .i64 0, .int .i64 0] 38 (0, 0))) := ⟨h4_⟩
                       have n5_ : Aside0 (w.heap.size ≤ gb125) := ⟨h5_⟩
                       have n6_ : Aside0 (w0.heap.size ≤ gb125) := ⟨h6_⟩
                       have n7_ : Aside0 (g ≠ gb125) := ⟨h7_⟩
                       have n8_ : Aside0 (gb125 ≠ g) := ⟨h8_⟩
                       have n9_ : Aside0 (gb105 ≠ gb125) := ⟨h9_⟩
                       have n10_ : Aside0 (gb125 ≠ gb105) := ⟨h10_⟩
                       have n11_ : Aside0 (IsS57 w0 w32 g s0_0 x1001_16) := ⟨h11_⟩
                       have n12_ : Aside0 (KeepBut w w32 g none) := ⟨h12_⟩
                       have n13_ : Aside0 (Below w0.heap.size w0 w32) := ⟨h13_⟩
                       clear HO_4
                       clear BK105
                       clear HI0
                       clear HK
                       clear HB
                       clear h0_ h1_ h2_ h3_ h4_ h5_ h6_ h7_ h8_ h9_ h10_ h11_ h12_ h13_
                       have HO123 := n0_
                       have HO_4 := n1_
                       have HA_HO123 := n2_
                       have BK105 := n3_
                       have BK125 := n4_
                       have GW125 := n5_
                       have GE125 := n6_
                       have NB0_125 := n7_
                       have NB125_0 := n8_
                       have NB105_125 := n9_
                       have NB125_105 := n10_
                       have HI0 := n11_
                       have HK := n12_
                       have HB := n13_
                       clear n0_ n1_ n2_ n3_ n4_ n5_ n6_ n7_ n8_ n9_ n10_ n11_ n12_ n13_
                       have hHeld : w32.cell? ⟨gb105, 0, none⟩ = some (.int .i64 x106000_1) ∧ w32.cell? ⟨gb105, 1, none⟩ = some (.int .i64 x106001_1) := hS_
                       obtain ⟨co33, eo33⟩ := HA_HO123.out
                       clear HA_HO123
                       subst eo33
                       refine norm_ (a' := ?_) ?_ ?_
                       rotate_left
                       ·simp only [putAll, Act.put, List.setIfInBounds_toArray, List.set_cons_zero, List.set_cons_succ]
                        rfl
                       refine two_ (i := 2) (j := 12) (Ni := some 30) (Nj := some 40) #[true, true, true, true, false, false, false, true, true, true, true, true, false, false, false, true, false] #[true, true, false, true, false, false, false, true, true, true, true, true, true, false, false, true, false] rfl rfl rfl rfl (two_of HT_.out (by kernel_rfl)) (by decide) (by decide) (fun K hK => ?_) (fun K hK => ?_)
                       ·skip
                        refine Kd.R_lit_step (Kd.int .i64) _ 3 ?hg (N := 30) ?hd (xs := ([1, 0, (-1), 0] : List Int)) (inner := [.int .i64 1, .int .i64 0, .int .i64 (-1), .int .i64 0]) (ok := fun _ => True) (okp := fun _ => True) ?hr ?hp (fun _ hk => hk) trivial (Below.refl _ _) (Nat.le_refl _) (by simp) ?_; (case hd => rfl); (case hg => rfl); (zq16_20); (zq16_12)
                        intro v118 w34 ho35 hb hg_ hnew_
                        clear hg_ hnew_
                        (first | rw [← Ny117.out] at ho35 | (simp only [Int.reduceToNat] at ho35; rw [← Ny117.out] at ho35))
                        have n0_ := Aside0.mk (Kd.R_below (by (zq16_2); exact HO_4.out) hb)
                        have n1_ := Aside0.mk (Kd.R_elder' (by (zq16_2); exact HO123.out) (Kd.R_base ho35) hb)
                        have n2_ := Aside0.mk (Kd.R_lower (Kd.R_new' ho35 (Kd.R_lt (by (zq16_2); exact HO123.out))) (keep_size (w := w) (g := g) (row := none) zq16_4))
                        have n3_ := Aside0.mk (blk_below (g := gb105) (o := .cells #[.int .i64 x106000_1, .int .i64 x106001_1] 38 (0, 0)) (by (zq16_1); exact BK105.out) hb)
                        have n4_ := Aside0.mk (IsS57.below zq16_7 hb)
                        have n5_ := Aside0.mk (blk_below (g := gb125) (o := .cells #[.int .i64 0, .int .i64 0] 38 (0, 0)) (by (zq16_1); exact BK125.out) hb)
                        have n6_ := Aside0.mk (KeepBut.trans zq16_4 (KeepBut.of_below hb g none) (.inl rfl))
                        have n7_ := Aside0.mk (below_step zq16_6 hb)
                        clear HO_4
                        clear HO123
                        clear BK105
                        clear HI0
                        clear BK125
                        clear HK
                        clear HB
                        have HO_4 := n0_
                        have HO123 := n1_
                        have HO119 := n2_
                        have BK105 := n3_
                        have HI0 := n4_
                        have BK125 := n5_
                        have HK := n6_
                        have HB := n7_
                        clear n0_ n1_ n2_ n3_ n4_ n5_ n6_ n7_
                        clear hb ho35
                        obtain ⟨Ao36, co36, eo36⟩ := Kd.R_slice HO119.out
                        subst eo36
                        obtain ⟨ado36, fo36, _⟩ := Kd.at_int (Kd.R_reads' HO119.out).2.2 0 (by decide) (by rw [Ny117.out]; simp)
                        cases fo36
                        refine hK.out _ _ ⟨(blk_cell BK105.out 0).trans rfl, (blk_cell BK105.out 1).trans rfl⟩ (fun hHeld => ?_)
                        clear hK K
                        refine norm_ (a' := ?_) ?_ ?_
                        rotate_left
                        ·show Act.put _ (some 30) _ = _
                         simp only [Act.put, List.setIfInBounds_toArray, List.set_cons_zero, List.set_cons_succ, i64_w, i32_w]
                         rfl
                        refine pure_ (i := 4) (N := some 32) (v := ?_) (a' := ?_) #[true, true, true, true, true, false, false, true, true, true, true, true, false, false, false, true, false] rfl rfl (any_of HT_.out (by kernel_rfl)) (fun _ _ _ h => h) (Or.inl ⟨by rfl, ?_⟩) ?_ ?_
                        rotate_left
                        ·intro w'
                         go_simp
                         with_reducible rfl
                        rotate_left
                        ·simp only [Act.put, List.setIfInBounds_toArray, List.set_cons_zero, List.set_cons_succ, i64_w, i32_w]
                         rfl
                        exact norm_ zq16_5 (hJ2_9_15 (.slice (some ado36) y117.length co36, ado36, .slice (some adz_v122) y121.length co33, adz_v122, gb125) _ ⟨hHeld, zq16_23, zq16_24, (by (zq16_2); exact HO_4.out), ⟨_, rfl⟩, ⟨_, rfl⟩, (by (zq16_1); exact BK105.out), (by (zq16_1); exact BK125.out), GW125.out, GE125.out, NB0_125.out, NB125_0.out, NB105_125.out, NB125_105.out, zq16_7, zq16_4, zq16_6⟩)
                       ·skip
                        (have p124 : 0 ≤ (x5_16 : Int) := of_decide_eq_true zq16_15; have q124 : x5_16 < (y121.length : Int) := of_decide_eq_true zq16_15; obtain ⟨ad124, e124, hx124_0⟩ := Kd.at_int (Kd.R_reads' HO123.out).2.2 x5_16 p124 q124; obtain rfl : adz_v122 = ad124 := (by injection e124))
                        refine value_ (w1 := ?_) (v := ?_) (by rfl) rfl ?_ ?_
                        rotate_left 2
                        ·go_simp
                         constructor
                         ·rfl
                         ·rfl
                        clear hx124_0
                        refine hK.out _ _ ⟨(blk_cell BK105.out 0).trans rfl, (blk_cell BK105.out 1).trans rfl⟩ (fun hHeld => ?_)
                        clear hK K
                        refine norm_ (a' := ?_) ?_ ?_
                        rotate_left
                        ·show Act.put _ (some 40) _ = _
                         simp only [Act.put, List.setIfInBounds_toArray, List.set_cons_zero, List.set_cons_succ, i64_w, i32_w]
                         rfl
                        refine pure_ (i := 13) (N := some 41) (v := ?_) (a' := ?_) #[true, true, false, true, false, false, false, true, true, true, true, true, true, true, false, true, false] rfl rfl (any_of HT_.out (by kernel_rfl)) (fun _ _ _ h => h) (Or.inl ⟨by rfl, ?_⟩) ?_ ?_
                        rotate_left
                        ·intro w'
                         go_simp
                         with_reducible rfl
                        rotate_left
                        ·simp only [Act.put, List.setIfInBounds_toArray, List.set_cons_zero, List.set_cons_succ, i64_w, i32_w]
                         rfl
                        exact norm_ zq16_5 (hJ9_12_15 (.slice (some adz_v122) y121.length co33, adz_v122, gb125) _ ⟨hHeld, (by (zq16_2); exact HO123.out), (by (zq16_2); exact HO_4.out), ⟨_, rfl⟩, (by (zq16_1); exact BK105.out), (by (zq16_1); exact BK125.out), GW125.out, GE125.out, NB0_125.out, NB125_0.out, NB105_125.out, NB125_105.out, zq16_7, zq16_4, zq16_6⟩)
                     ·skip
                      rintro ⟨v122, adz_v122⟩ w31 ⟨hS_, h0_, h1_, h2_, h3_, h4_, h5_, h6_⟩
                      have n0_ : Aside0 (Kd.R (Kd.int .i64) 3 w31 w.heap.size (fun _ => True) v122 y121) := ⟨h0_⟩
                      have n1_ : Aside0 (Kd.R k38 38 w31 w.heap.size (fun k_ => k_ ≠ gb105) u4 x4_1) := ⟨h1_⟩
                      have n2_ : Aside0 (∃ c_, (v122 : Value) = .slice (some adz_v122) y121.length c_) := ⟨h2_⟩
                      have n3_ : Aside0 (w31.heap[gb105]? = some (.cells #[.int .i64 x106000_1, .int .i64 x106001_1] 38 (0, 0))) := ⟨h3_⟩
                      have n4_ : Aside0 (IsS57 w0 w31 g s0_0 x1001_16) := ⟨h4_⟩
                      have n5_ : Aside0 (KeepBut w w31 g none) := ⟨h5_⟩
                      have n6_ : Aside0 (Below w0.heap.size w0 w31) := ⟨h6_⟩
                      clear HO_4
                      clear BK105
                      clear HI0
                      clear HK
                      clear HB
                      clear h0_ h1_ h2_ h3_ h4_ h5_ h6_
                      have HO123 := n0_
                      have HO_4 := n1_
                      have HA_HO123 := n2_
                      have BK105 := n3_
                      have HI0 := n4_
                      have HK := n5_
                      have HB := n6_
                      clear n0_ n1_ n2_ n3_ n4_ n5_ n6_
                      have hHeld : w31.cell? ⟨gb105, 0, none⟩ = some (.int .i64 x106000_1) ∧ w31.cell? ⟨gb105, 1, none⟩ = some (.int .i64 x106001_1) := hS_
                      obtain ⟨co32, eo32⟩ := HA_HO123.out
                      clear HA_HO123
                      subst eo32
                      refine norm_ (a' := ?_) ?_ ?_
                      rotate_left
                      ·simp only [putAll, Act.put, List.setIfInBounds_toArray, List.set_cons_zero, List.set_cons_succ]
                       rfl
                      refine two_ (i := 2) (j := 15) (Ni := some 30) (Nj := some 7) #[true, true, true, true, false, false, false, true, true, true, true, true, true, true, false, false, false] #[true, true, false, true, false, false, false, true, true, true, true, true, true, true, false, true, false] rfl rfl rfl rfl (two_of HT_.out (by kernel_rfl)) (by decide) (by decide) (fun K hK => ?_) (fun K hK => ?_)
                      ·skip
                       refine Kd.R_lit_step (Kd.int .i64) _ 3 ?hg (N := 30) ?hd (xs := ([1, 0, (-1), 0] : List Int)) (inner := [.int .i64 1, .int .i64 0, .int .i64 (-1), .int .i64 0]) (ok := fun _ => True) (okp := fun _ => True) ?hr ?hp (fun _ hk => hk) trivial (Below.refl _ _) (Nat.le_refl _) (by simp) ?_; (case hd => rfl); (case hg => rfl); (zq16_20); (zq16_12)
                       intro v118 w33 ho34 hb hg_ hnew_
                       clear hg_ hnew_
                       (first | rw [← Ny117.out] at ho34 | (simp only [Int.reduceToNat] at ho34; rw [← Ny117.out] at ho34))
                       have n0_ := Aside0.mk (Kd.R_below (by (zq16_2); exact HO_4.out) hb)
                       have n1_ := Aside0.mk (Kd.R_elder' (by (zq16_2); exact HO123.out) (Kd.R_base ho34) hb)
                       have n2_ := Aside0.mk (Kd.R_lower (Kd.R_new' ho34 (Kd.R_lt (by (zq16_2); exact HO123.out))) (keep_size (w := w) (g := g) (row := none) zq16_3))
                       have n3_ := Aside0.mk (blk_below (g := gb105) (o := .cells #[.int .i64 x106000_1, .int .i64 x106001_1] 38 (0, 0)) (by (zq16_1); exact BK105.out) hb)
                       have n4_ := Aside0.mk (IsS57.below zq16_9 hb)
                       have n5_ := Aside0.mk (KeepBut.trans zq16_3 (KeepBut.of_below hb g none) (.inl rfl))
                       have n6_ := Aside0.mk (below_step zq16_8 hb)
                       clear HO_4
                       clear HO123
                       clear BK105
                       clear HI0
                       clear HK
                       clear HB
                       have HO_4 := n0_
                       have HO123 := n1_
                       have HO119 := n2_
                       have BK105 := n3_
                       have HI0 := n4_
                       have HK := n5_
                       have HB := n6_
                       clear n0_ n1_ n2_ n3_ n4_ n5_ n6_
                       clear hb ho34
                       obtain ⟨Ao35, co35, eo35⟩ := Kd.R_slice HO119.out
                       subst eo35
                       obtain ⟨ado35, fo35, _⟩ := Kd.at_int (Kd.R_reads' HO119.out).2.2 0 (by decide) (by rw [Ny117.out]; simp)
                       cases fo35
                       refine hK.out _ _ ⟨(blk_cell BK105.out 0).trans rfl, (blk_cell BK105.out 1).trans rfl⟩ (fun hHeld => ?_)
                       clear hK K
                       refine norm_ (a' := ?_) ?_ ?_
                       rotate_left
                       ·show Act.put _ (some 30) _ = _
                        simp only [Act.put, List.setIfInBounds_toArray, List.set_cons_zero, List.set_cons_succ, i64_w, i32_w]
                        rfl
                       refine pure_ (i := 4) (N := some 32) (v := ?_) (a' := ?_) #[true, true, true, true, true, false, false, true, true, true, true, true, true, true, false, false, false] rfl rfl (any_of HT_.out (by kernel_rfl)) (fun _ _ _ h => h) (Or.inl ⟨by rfl, ?_⟩) ?_ ?_
                       rotate_left
                       ·intro w'
                        go_simp
                        with_reducible rfl
                       rotate_left
                       ·simp only [Act.put, List.setIfInBounds_toArray, List.set_cons_zero, List.set_cons_succ, i64_w, i32_w]
                        rfl
                       exact norm_ zq16_5 (hJ2_9_12 (.slice (some ado35) y117.length co35, ado35, .slice (some adz_v122) y121.length co32, adz_v122) _ ⟨hHeld, zq16_23, zq16_24, (by (zq16_2); exact HO_4.out), ⟨_, rfl⟩, ⟨_, rfl⟩, (by (zq16_1); exact BK105.out), zq16_9, zq16_3, zq16_8⟩)
                      ·skip
                       refine box_step ?hg (N := 7) ?hd (cs := #[.int .i64 0, .int .i64 0]) (t := 38) ?hr ?_; (case hd => rfl); (case hg => rfl); (zq16_20)
                       intro gb125 hg w33 hbox hb
                       have n0_ := Aside0.mk (Kd.R_below (Kd.R_elderB (by (zq16_2); exact HO_4.out) gb125 (Nat.le_of_eq hg.symm)) hb)
                       have n1_ := Aside0.mk (Kd.R_below (by (zq16_2); exact HO123.out) hb)
                       have n2_ := Aside0.mk (blk_below (g := gb105) (o := .cells #[.int .i64 x106000_1, .int .i64 x106001_1] 38 (0, 0)) (by (zq16_1); exact BK105.out) hb)
                       have n3_ := Aside0.mk (IsS57.below zq16_9 hb)
                       have n4_ := Aside0.mk (KeepBut.trans zq16_3 (KeepBut.of_below hb g none) (.inl rfl))
                       have n5_ := Aside0.mk (below_step zq16_8 hb)
                       have n6_ := Aside0.mk (hbox)
                       have n7_ := Aside0.mk (zq16_14)
                       have n8_ := Aside0.mk ((Nat.le_trans HW0.out zq16_14 : w0.heap.size ≤ gb125))
                       have n9_ := Aside0.mk (zq16_16)
                       have n10_ := Aside0.mk (zq16_17)
                       have n11_ := Aside0.mk (zq16_10)
                       have n12_ := Aside0.mk (zq16_11)
                       clear HO_4
                       clear HO123
                       clear BK105
                       clear HI0
                       clear HK
                       clear HB
                       have HO_4 := n0_
                       have HO123 := n1_
                       have BK105 := n2_
                       have HI0 := n3_
                       have HK := n4_
                       have HB := n5_
                       have BK125 := n6_
                       have GW125 := n7_
                       have GE125 := n8_
                       have NB105_125 := n9_
                       have NB125_105 := n10_
                       have NB0_125 := n11_
                       have NB125_0 := n12_
                       clear n0_ n1_ n2_ n3_ n4_ n5_ n6_ n7_ n8_ n9_ n10_ n11_ n12_
                       clear hb hbox hg
                       refine hK.out _ _ ⟨(blk_cell BK105.out 0).trans rfl, (blk_cell BK105.out 1).trans rfl⟩ (fun hHeld => ?_)
                       clear hK K
                       refine norm_ (a' := ?_) ?_ ?_
                       rotate_left
                       ·show Act.put _ (some 7) _ = _
                        simp only [Act.put, List.setIfInBounds_toArray, List.set_cons_zero, List.set_cons_succ, i64_w, i32_w]
                        rfl
                       exact norm_ zq16_5 (hJ9_12_15 (.slice (some adz_v122) y121.length co32, adz_v122, gb125) _ ⟨hHeld, (by (zq16_2); exact HO123.out), (by (zq16_2); exact HO_4.out), ⟨_, rfl⟩, (by (zq16_1); exact BK105.out), (by (zq16_1); exact BK125.out), GW125.out, GE125.out, NB0_125.out, NB125_0.out, NB105_125.out, NB125_105.out, zq16_7, zq16_4, zq16_6⟩)
                    ·skip
                     rintro ⟨v118, adz_v118, gb125⟩ w32 ⟨hS_, h0_, h1_, h2_, h3_, h4_, h5_, h6_, h7_, h8_, h9_, h10_, h11_, h12_, h13_⟩
                     have n0_ : Aside0 (Kd.R (Kd.int .i64) 3 w32 w.heap.size (fun _ => True) v118 y117) := ⟨h0_⟩
                     have n1_ : Aside0 (Kd.R k38 38 w32 w.heap.size (fun k_ => k_ ≠ gb105 ∧ k_ ≠ gb125) u4 x4_1) := ⟨h1_⟩
                     have n2_ : Aside0 (∃ c_, (v118 : Value) = .slice (some adz_v118) y117.length c_) := ⟨h2_⟩
                     have n3_ : Aside0 (w32.heap[gb105]? = some (.cells #[.int .i64 x106000_1, .int .i64 x106001_1] 38 (0, 0))) := ⟨h3_⟩
                     have n4_ : Aside0 (w32.heap[gb125]? = some (.cells #[.int .i64 0, .int .i64 0] 38 (0, 0))) := ⟨h4_⟩
                     have n5_ : Aside0 (w.heap.size ≤ gb125) := ⟨h5_⟩
                     have n6_ : Aside0 (w0.heap.size ≤ gb125) := ⟨h6_⟩
                     have n7_ : Aside0 (g ≠ gb125) := ⟨h7_⟩
                     have n8_ : Aside0 (gb125 ≠ g) := ⟨h8_⟩
                     have n9_ : Aside0 (gb105 ≠ gb125) := ⟨h9_⟩
                     have n10_ : Aside0 (gb125 ≠ gb105) := ⟨h10_⟩
                     have n11_ : Aside0 (IsS57 w0 w32 g s0_0 x1001_16) := ⟨h11_⟩
                     have n12_ : Aside0 (KeepBut w w32 g none) := ⟨h12_⟩
                     have n13_ : Aside0 (Below w0.heap.size w0 w32) := ⟨h13_⟩
                     clear HO_4
                     clear BK105
                     clear HI0
                     clear HK
                     clear HB
                     clear h0_ h1_ h2_ h3_ h4_ h5_ h6_ h7_ h8_ h9_ h10_ h11_ h12_ h13_
                     have HO119 := n0_
                     have HO_4 := n1_
                     have HA_HO119 := n2_
                     have BK105 := n3_
                     have BK125 := n4_
                     have GW125 := n5_
                     have GE125 := n6_
                     have NB0_125 := n7_
                     have NB125_0 := n8_
                     have NB105_125 := n9_
                     have NB125_105 := n10_
                     have HI0 := n11_
                     have HK := n12_
                     have HB := n13_
                     clear n0_ n1_ n2_ n3_ n4_ n5_ n6_ n7_ n8_ n9_ n10_ n11_ n12_ n13_
                     have hHeld : w32.cell? ⟨gb105, 0, none⟩ = some (.int .i64 x106000_1) ∧ w32.cell? ⟨gb105, 1, none⟩ = some (.int .i64 x106001_1) := hS_
                     obtain ⟨co33, eo33⟩ := HA_HO119.out
                     clear HA_HO119
                     subst eo33
                     refine norm_ (a' := ?_) ?_ ?_
                     rotate_left
                     ·simp only [putAll, Act.put, List.setIfInBounds_toArray, List.set_cons_zero, List.set_cons_succ]
                      rfl
                     refine two_ (i := 5) (j := 9) (Ni := some 33) (Nj := some 37) #[true, true, true, true, true, true, false, true, true, false, true, false, false, false, false, true, false] #[true, true, true, true, true, false, false, true, true, true, true, false, false, false, false, true, false] rfl rfl rfl rfl (two_of HT_.out (by kernel_rfl)) (by decide) (by decide) (fun K hK => ?_) (fun K hK => ?_)
                     ·skip
                      (have p120 : 0 ≤ (x5_16 : Int) := of_decide_eq_true zq16_15; have q120 : x5_16 < (y117.length : Int) := of_decide_eq_true zq16_15; obtain ⟨ad120, e120, hx120_0⟩ := Kd.at_int (Kd.R_reads' HO119.out).2.2 x5_16 p120 q120; obtain rfl : adz_v118 = ad120 := (by injection e120))
                      refine value_ (w1 := ?_) (v := ?_) (by rfl) rfl ?_ ?_
                      rotate_left 2
                      ·go_simp
                       constructor
                       ·rfl
                       ·rfl
                      clear hx120_0
                      refine hK.out _ _ ⟨(blk_cell BK105.out 0).trans rfl, (blk_cell BK105.out 1).trans rfl⟩ (fun hHeld => ?_)
                      clear hK K
                      refine norm_ (a' := ?_) ?_ ?_
                      rotate_left
                      ·show Act.put _ (some 33) _ = _
                       simp only [Act.put, List.setIfInBounds_toArray, List.set_cons_zero, List.set_cons_succ, i64_w, i32_w]
                       rfl
                      refine pure_ (i := 6) (N := some 34) (v := ?_) (a' := ?_) #[true, true, true, true, true, true, true, true, true, false, true, false, false, false, false, true, false] rfl rfl (any_of HT_.out (by kernel_rfl)) (fun _ _ _ h => h) (Or.inl ⟨by rfl, ?_⟩) ?_ ?_
                      rotate_left
                      ·intro w'
                       go_simp
                       with_reducible rfl
                      rotate_left
                      ·simp only [Act.put, List.setIfInBounds_toArray, List.set_cons_zero, List.set_cons_succ, i64_w, i32_w]
                       rfl
                      exact norm_ zq16_5 (hJ2_5_15 (.slice (some adz_v118) y117.length co33, adz_v118, gb125) _ ⟨hHeld, (by (zq16_2); exact HO119.out), (by (zq16_2); exact HO_4.out), ⟨_, rfl⟩, (by (zq16_1); exact BK105.out), (by (zq16_1); exact BK125.out), GW125.out, GE125.out, NB0_125.out, NB125_0.out, NB105_125.out, NB125_105.out, zq16_7, zq16_4, zq16_6⟩)
                     ·skip
                      refine Kd.R_lit_step (Kd.int .i64) _ 3 ?hg (N := 37) ?hd (xs := ([0, 1, 0, (-1)] : List Int)) (inner := [.int .i64 0, .int .i64 1, .int .i64 0, .int .i64 (-1)]) (ok := fun _ => True) (okp := fun _ => True) ?hr ?hp (fun _ hk => hk) trivial (Below.refl _ _) (Nat.le_refl _) (by simp) ?_; (case hd => rfl); (case hg => rfl); (zq16_20); (zq16_13)
                      intro v122 w34 ho35 hb hg_ hnew_
                      clear hg_ hnew_
                      (first | rw [← Ny121.out] at ho35 | (simp only [Int.reduceToNat] at ho35; rw [← Ny121.out] at ho35))
                      have n0_ := Aside0.mk (Kd.R_below (by (zq16_2); exact HO_4.out) hb)
                      have n1_ := Aside0.mk (Kd.R_elder' (by (zq16_2); exact HO119.out) (Kd.R_base ho35) hb)
                      have n2_ := Aside0.mk (Kd.R_lower (Kd.R_new' ho35 (Kd.R_lt (by (zq16_2); exact HO119.out))) (keep_size (w := w) (g := g) (row := none) zq16_4))
                      have n3_ := Aside0.mk (blk_below (g := gb105) (o := .cells #[.int .i64 x106000_1, .int .i64 x106001_1] 38 (0, 0)) (by (zq16_1); exact BK105.out) hb)
                      have n4_ := Aside0.mk (IsS57.below zq16_7 hb)
                      have n5_ := Aside0.mk (blk_below (g := gb125) (o := .cells #[.int .i64 0, .int .i64 0] 38 (0, 0)) (by (zq16_1); exact BK125.out) hb)
                      have n6_ := Aside0.mk (KeepBut.trans zq16_4 (KeepBut.of_below hb g none) (.inl rfl))
                      have n7_ := Aside0.mk (below_step zq16_6 hb)
                      clear HO_4
                      clear HO119
                      clear BK105
                      clear HI0
                      clear BK125
                      clear HK
                      clear HB
                      have HO_4 := n0_
                      have HO119 := n1_
                      have HO123 := n2_
                      have BK105 := n3_
                      have HI0 := n4_
                      have BK125 := n5_
                      have HK := n6_
                      have HB := n7_
                      clear n0_ n1_ n2_ n3_ n4_ n5_ n6_ n7_
                      clear hb ho35
                      obtain ⟨Ao36, co36, eo36⟩ := Kd.R_slice HO123.out
                      subst eo36
                      obtain ⟨ado36, fo36, _⟩ := Kd.at_int (Kd.R_reads' HO123.out).2.2 0 (by decide) (by rw [Ny121.out]; simp)
                      cases fo36
                      refine hK.out _ _ ⟨(blk_cell BK105.out 0).trans rfl, (blk_cell BK105.out 1).trans rfl⟩ (fun hHeld => ?_)
                      clear hK K
                      refine norm_ (a' := ?_) ?_ ?_
                      rotate_left
                      ·show Act.put _ (some 37) _ = _
                       simp only [Act.put, List.setIfInBounds_toArray, List.set_cons_zero, List.set_cons_succ, i64_w, i32_w]
                       rfl
                      refine pure_ (i := 11) (N := some 39) (v := ?_) (a' := ?_) #[true, true, true, true, true, false, false, true, true, true, true, true, false, false, false, true, false] rfl rfl (any_of HT_.out (by kernel_rfl)) (fun _ _ _ h => h) (Or.inl ⟨by rfl, ?_⟩) ?_ ?_
                      rotate_left
                      ·intro w'
                       go_simp
                       with_reducible rfl
                      rotate_left
                      ·simp only [Act.put, List.setIfInBounds_toArray, List.set_cons_zero, List.set_cons_succ, i64_w, i32_w]
                       rfl
                      exact norm_ zq16_5 (hJ2_9_15 (.slice (some adz_v118) y117.length co33, adz_v118, .slice (some ado36) y121.length co36, ado36, gb125) _ ⟨hHeld, zq16_23, zq16_24, (by (zq16_2); exact HO_4.out), ⟨_, rfl⟩, ⟨_, rfl⟩, (by (zq16_1); exact BK105.out), (by (zq16_1); exact BK125.out), GW125.out, GE125.out, NB0_125.out, NB125_0.out, NB105_125.out, NB125_105.out, zq16_7, zq16_4, zq16_6⟩)
                   ·skip
                    rintro ⟨v118, adz_v118, v122, adz_v122⟩ w34 ⟨hS_, h0_, h1_, h2_, h3_, h4_, h5_, h6_, h7_, h8_⟩
                    have n0_ : Aside0 (Kd.R (Kd.int .i64) 3 w34 w.heap.size (fun k_ => some k_ ≠ (v122 : Value).ownBlock) v118 y117) := ⟨h0_⟩
                    have n1_ : Aside0 (Kd.R (Kd.int .i64) 3 w34 w.heap.size (fun k_ => some k_ ≠ (v118 : Value).ownBlock) v122 y121) := ⟨h1_⟩
                    have n2_ : Aside0 (Kd.R k38 38 w34 w.heap.size (fun k_ => k_ ≠ gb105) u4 x4_1) := ⟨h2_⟩
                    have n3_ : Aside0 (∃ c_, (v118 : Value) = .slice (some adz_v118) y117.length c_) := ⟨h3_⟩
                    have n4_ : Aside0 (∃ c_, (v122 : Value) = .slice (some adz_v122) y121.length c_) := ⟨h4_⟩
                    have n5_ : Aside0 (w34.heap[gb105]? = some (.cells #[.int .i64 x106000_1, .int .i64 x106001_1] 38 (0, 0))) := ⟨h5_⟩
                    have n6_ : Aside0 (IsS57 w0 w34 g s0_0 x1001_16) := ⟨h6_⟩
                    have n7_ : Aside0 (KeepBut w w34 g none) := ⟨h7_⟩
                    have n8_ : Aside0 (Below w0.heap.size w0 w34) := ⟨h8_⟩
                    clear HO_4
                    clear BK105
                    clear HI0
                    clear HK
                    clear HB
                    clear h0_ h1_ h2_ h3_ h4_ h5_ h6_ h7_ h8_
                    have HO119 := n0_
                    have HO123 := n1_
                    have HO_4 := n2_
                    have HA_HO119 := n3_
                    have HA_HO123 := n4_
                    have BK105 := n5_
                    have HI0 := n6_
                    have HK := n7_
                    have HB := n8_
                    clear n0_ n1_ n2_ n3_ n4_ n5_ n6_ n7_ n8_
                    have hHeld : w34.cell? ⟨gb105, 0, none⟩ = some (.int .i64 x106000_1) ∧ w34.cell? ⟨gb105, 1, none⟩ = some (.int .i64 x106001_1) := hS_
                    obtain ⟨co35, eo35⟩ := HA_HO119.out
                    clear HA_HO119
                    subst eo35
                    obtain ⟨co36, eo36⟩ := HA_HO123.out
                    clear HA_HO123
                    subst eo36
                    refine norm_ (a' := ?_) ?_ ?_
                    rotate_left
                    ·simp only [putAll, Act.put, List.setIfInBounds_toArray, List.set_cons_zero, List.set_cons_succ]
                     rfl
                    refine three_ (i := 5) (j := 12) (k := 15) (Ni := some 33) (Nj := some 40) (Nk := some 7) #[true, true, true, true, true, true, false, true, true, true, true, true, false, false, false, false, false] #[true, true, true, true, true, false, false, true, true, true, true, true, true, false, false, false, false] #[true, true, true, true, true, false, false, true, true, true, true, true, false, false, false, true, false] rfl rfl rfl rfl rfl rfl (three_of HT_.out (by kernel_rfl)) (by decide) (by decide) (by decide) (fun K hK => ?_) (fun K hK => ?_) (fun K hK => ?_)
                    ·skip
                     (have p120 : 0 ≤ (x5_16 : Int) := of_decide_eq_true zq16_15; have q120 : x5_16 < (y117.length : Int) := of_decide_eq_true zq16_15; obtain ⟨ad120, e120, hx120_0⟩ := Kd.at_int (Kd.R_reads' HO119.out).2.2 x5_16 p120 q120; obtain rfl : adz_v118 = ad120 := (by injection e120))
                     refine value_ (w1 := ?_) (v := ?_) (by rfl) rfl ?_ ?_
                     rotate_left 2
                     ·go_simp
                      constructor
                      ·rfl
                      ·rfl
                     clear hx120_0
                     refine hK.out _ _ ⟨(blk_cell BK105.out 0).trans rfl, (blk_cell BK105.out 1).trans rfl⟩ (fun hHeld => ?_)
                     clear hK K
                     refine norm_ (a' := ?_) ?_ ?_
                     rotate_left
                     ·show Act.put _ (some 33) _ = _
                      simp only [Act.put, List.setIfInBounds_toArray, List.set_cons_zero, List.set_cons_succ, i64_w, i32_w]
                      rfl
                     refine pure_ (i := 6) (N := some 34) (v := ?_) (a' := ?_) #[true, true, true, true, true, true, true, true, true, true, true, true, false, false, false, false, false] rfl rfl (any_of HT_.out (by kernel_rfl)) (fun _ _ _ h => h) (Or.inl ⟨by rfl, ?_⟩) ?_ ?_
                     rotate_left
                     ·intro w'
                      go_simp
                      with_reducible rfl
                     rotate_left
                     ·simp only [Act.put, List.setIfInBounds_toArray, List.set_cons_zero, List.set_cons_succ, i64_w, i32_w]
                      rfl
                     exact norm_ zq16_5 (hJ2_5_9 (.slice (some adz_v118) y117.length co35, adz_v118, .slice (some adz_v122) y121.length co36, adz_v122) _ ⟨hHeld, (by (zq16_2); exact HO119.out), (by (zq16_2); exact HO123.out), (by (zq16_2); exact HO_4.out), ⟨_, rfl⟩, ⟨_, rfl⟩, (by (zq16_1); exact BK105.out), zq16_9, zq16_3, zq16_8⟩)
                    ·skip
                     (have p124 : 0 ≤ (x5_16 : Int) := of_decide_eq_true zq16_15; have q124 : x5_16 < (y121.length : Int) := of_decide_eq_true zq16_15; obtain ⟨ad124, e124, hx124_0⟩ := Kd.at_int (Kd.R_reads' HO123.out).2.2 x5_16 p124 q124; obtain rfl : adz_v122 = ad124 := (by injection e124))
                     refine value_ (w1 := ?_) (v := ?_) (by rfl) rfl ?_ ?_
                     rotate_left 2
                     ·go_simp
                      constructor
                      ·rfl
                      ·rfl
                     clear hx124_0
                     refine hK.out _ _ ⟨(blk_cell BK105.out 0).trans rfl, (blk_cell BK105.out 1).trans rfl⟩ (fun hHeld => ?_)
                     clear hK K
                     refine norm_ (a' := ?_) ?_ ?_
                     rotate_left
                     ·show Act.put _ (some 40) _ = _
                      simp only [Act.put, List.setIfInBounds_toArray, List.set_cons_zero, List.set_cons_succ, i64_w, i32_w]
                      rfl
                     refine pure_ (i := 13) (N := some 41) (v := ?_) (a' := ?_) #[true, true, true, true, true, false, false, true, true, true, true, true, true, true, false, false, false] rfl rfl (any_of HT_.out (by kernel_rfl)) (fun _ _ _ h => h) (Or.inl ⟨by rfl, ?_⟩) ?_ ?_
                     rotate_left
                     ·intro w'
                      go_simp
                      with_reducible rfl
                     rotate_left
                     ·simp only [Act.put, List.setIfInBounds_toArray, List.set_cons_zero, List.set_cons_succ, i64_w, i32_w]
                      rfl
                     exact norm_ zq16_5 (hJ2_9_12 (.slice (some adz_v118) y117.length co35, adz_v118, .slice (some adz_v122) y121.length co36, adz_v122) _ ⟨hHeld, (by (zq16_2); exact HO119.out), (by (zq16_2); exact HO123.out), (by (zq16_2); exact HO_4.out), ⟨_, rfl⟩, ⟨_, rfl⟩, (by (zq16_1); exact BK105.out), zq16_9, zq16_3, zq16_8⟩)
                    ·skip
                     refine box_step ?hg (N := 7) ?hd (cs := #[.int .i64 0, .int .i64 0]) (t := 38) ?hr ?_; (case hd => rfl); (case hg => rfl); (zq16_20)
                     intro gb125 hg w37 hbox hb
                     have n0_ := Aside0.mk (Kd.R_below (Kd.R_elderB (by (zq16_2); exact HO_4.out) gb125 (Nat.le_of_eq hg.symm)) hb)
                     have n1_ := Aside0.mk (Kd.R_below (by (zq16_2); exact HO119.out) hb)
                     have n2_ := Aside0.mk (Kd.R_below (by (zq16_2); exact HO123.out) hb)
                     have n3_ := Aside0.mk (blk_below (g := gb105) (o := .cells #[.int .i64 x106000_1, .int .i64 x106001_1] 38 (0, 0)) (by (zq16_1); exact BK105.out) hb)
                     have n4_ := Aside0.mk (IsS57.below zq16_9 hb)
                     have n5_ := Aside0.mk (KeepBut.trans zq16_3 (KeepBut.of_below hb g none) (.inl rfl))
                     have n6_ := Aside0.mk (below_step zq16_8 hb)
                     have n7_ := Aside0.mk (hbox)
                     have n8_ := Aside0.mk (zq16_14)
                     have n9_ := Aside0.mk ((Nat.le_trans HW0.out zq16_14 : w0.heap.size ≤ gb125))
                     have n10_ := Aside0.mk (zq16_16)
                     have n11_ := Aside0.mk (zq16_17)
                     have n12_ := Aside0.mk (zq16_10)
                     have n13_ := Aside0.mk (zq16_11)
                     clear HO_4
                     clear HO119
                     clear HO123
                     clear BK105
                     clear HI0
                     clear HK
                     clear HB
                     have HO_4 := n0_
                     have HO119 := n1_
                     have HO123 := n2_
                     have BK105 := n3_
                     have HI0 := n4_
                     have HK := n5_
                     have HB := n6_
                     have BK125 := n7_
                     have GW125 := n8_
                     have GE125 := n9_
                     have NB105_125 := n10_
                     have NB125_105 := n11_
                     have NB0_125 := n12_
                     have NB125_0 := n13_
                     clear n0_ n1_ n2_ n3_ n4_ n5_ n6_ n7_ n8_ n9_ n10_ n11_ n12_ n13_
                     clear hb hbox hg
                     refine hK.out _ _ ⟨(blk_cell BK105.out 0).trans rfl, (blk_cell BK105.out 1).trans rfl⟩ (fun hHeld => ?_)
                     clear hK K
                     refine norm_ (a' := ?_) ?_ ?_
                     rotate_left
                     ·show Act.put _ (some 7) _ = _
                      simp only [Act.put, List.setIfInBounds_toArray, List.set_cons_zero, List.set_cons_succ, i64_w, i32_w]
                      rfl
                     exact norm_ zq16_5 (hJ2_9_15 (.slice (some adz_v118) y117.length co35, adz_v118, .slice (some adz_v122) y121.length co36, adz_v122, gb125) _ ⟨hHeld, (by (zq16_2); exact HO119.out), (by (zq16_2); exact HO123.out), (by (zq16_2); exact HO_4.out), ⟨_, rfl⟩, ⟨_, rfl⟩, (by (zq16_1); exact BK105.out), (by (zq16_1); exact BK125.out), GW125.out, GE125.out, NB0_125.out, NB125_0.out, NB105_125.out, NB125_105.out, zq16_7, zq16_4, zq16_6⟩)
                  ·skip
                   rintro ⟨v118, adz_v118⟩ w31 ⟨hS_, h0_, h1_, h2_, h3_, h4_, h5_, h6_⟩
                   have n0_ : Aside0 (Kd.R (Kd.int .i64) 3 w31 w.heap.size (fun _ => True) v118 y117) := ⟨h0_⟩
                   have n1_ : Aside0 (Kd.R k38 38 w31 w.heap.size (fun k_ => k_ ≠ gb105) u4 x4_1) := ⟨h1_⟩
                   have n2_ : Aside0 (∃ c_, (v118 : Value) = .slice (some adz_v118) y117.length c_) := ⟨h2_⟩
                   have n3_ : Aside0 (w31.heap[gb105]? = some (.cells #[.int .i64 x106000_1, .int .i64 x106001_1] 38 (0, 0))) := ⟨h3_⟩
                   have n4_ : Aside0 (IsS57 w0 w31 g s0_0 x1001_16) := ⟨h4_⟩
                   have n5_ : Aside0 (KeepBut w w31 g none) := ⟨h5_⟩
                   have n6_ : Aside0 (Below w0.heap.size w0 w31) := ⟨h6_⟩
                   clear HO_4
                   clear BK105
                   clear HI0
                   clear HK
                   clear HB
                   clear h0_ h1_ h2_ h3_ h4_ h5_ h6_
                   have HO119 := n0_
                   have HO_4 := n1_
                   have HA_HO119 := n2_
                   have BK105 := n3_
                   have HI0 := n4_
                   have HK := n5_
                   have HB := n6_
                   clear n0_ n1_ n2_ n3_ n4_ n5_ n6_
                   have hHeld : w31.cell? ⟨gb105, 0, none⟩ = some (.int .i64 x106000_1) ∧ w31.cell? ⟨gb105, 1, none⟩ = some (.int .i64 x106001_1) := hS_
                   obtain ⟨co32, eo32⟩ := HA_HO119.out
                   clear HA_HO119
                   subst eo32
                   refine norm_ (a' := ?_) ?_ ?_
                   rotate_left
                   ·simp only [putAll, Act.put, List.setIfInBounds_toArray, List.set_cons_zero, List.set_cons_succ]
                    rfl
                   refine two_ (i := 9) (j := 15) (Ni := some 37) (Nj := some 7) #[true, true, true, true, true, true, true, true, true, true, true, false, false, false, false, false, false] #[true, true, true, true, true, true, true, true, true, false, true, false, false, false, false, true, false] rfl rfl rfl rfl (two_of HT_.out (by kernel_rfl)) (by decide) (by decide) (fun K hK => ?_) (fun K hK => ?_)
                   ·skip
                    refine Kd.R_lit_step (Kd.int .i64) _ 3 ?hg (N := 37) ?hd (xs := ([0, 1, 0, (-1)] : List Int)) (inner := [.int .i64 0, .int .i64 1, .int .i64 0, .int .i64 (-1)]) (ok := fun _ => True) (okp := fun _ => True) ?hr ?hp (fun _ hk => hk) trivial (Below.refl _ _) (Nat.le_refl _) (by simp) ?_; (case hd => rfl); (case hg => rfl); (zq16_20); (zq16_13)
                    intro v122 w33 ho34 hb hg_ hnew_
                    clear hg_ hnew_
                    (first | rw [← Ny121.out] at ho34 | (simp only [Int.reduceToNat] at ho34; rw [← Ny121.out] at ho34))
                    have n0_ := Aside0.mk (Kd.R_below (by (zq16_2); exact HO_4.out) hb)
                    have n1_ := Aside0.mk (Kd.R_elder' (by (zq16_2); exact HO119.out) (Kd.R_base ho34) hb)
                    have n2_ := Aside0.mk (Kd.R_lower (Kd.R_new' ho34 (Kd.R_lt (by (zq16_2); exact HO119.out))) (keep_size (w := w) (g := g) (row := none) zq16_3))
                    have n3_ := Aside0.mk (blk_below (g := gb105) (o := .cells #[.int .i64 x106000_1, .int .i64 x106001_1] 38 (0, 0)) (by (zq16_1); exact BK105.out) hb)
                    have n4_ := Aside0.mk (IsS57.below zq16_9 hb)
                    have n5_ := Aside0.mk (KeepBut.trans zq16_3 (KeepBut.of_below hb g none) (.inl rfl))
                    have n6_ := Aside0.mk (below_step zq16_8 hb)
                    clear HO_4
                    clear HO119
                    clear BK105
                    clear HI0
                    clear HK
                    clear HB
                    have HO_4 := n0_
                    have HO119 := n1_
                    have HO123 := n2_
                    have BK105 := n3_
                    have HI0 := n4_
                    have HK := n5_
                    have HB := n6_
                    clear n0_ n1_ n2_ n3_ n4_ n5_ n6_
                    clear hb ho34
                    obtain ⟨Ao35, co35, eo35⟩ := Kd.R_slice HO123.out
                    subst eo35
                    obtain ⟨ado35, fo35, _⟩ := Kd.at_int (Kd.R_reads' HO123.out).2.2 0 (by decide) (by rw [Ny121.out]; simp)
                    cases fo35
                    refine hK.out _ _ ⟨(blk_cell BK105.out 0).trans rfl, (blk_cell BK105.out 1).trans rfl⟩ (fun hHeld => ?_)
                    clear hK K
                    refine norm_ (a' := ?_) ?_ ?_
                    rotate_left
                    ·show Act.put _ (some 37) _ = _
                     simp only [Act.put, List.setIfInBounds_toArray, List.set_cons_zero, List.set_cons_succ, i64_w, i32_w]
                     rfl
                    refine pure_ (i := 11) (N := some 39) (v := ?_) (a' := ?_) #[true, true, true, true, true, true, true, true, true, true, true, true, false, false, false, false, false] rfl rfl (any_of HT_.out (by kernel_rfl)) (fun _ _ _ h => h) (Or.inl ⟨by rfl, ?_⟩) ?_ ?_
                    rotate_left
                    ·intro w'
                     go_simp
                     with_reducible rfl
                    rotate_left
                    ·simp only [Act.put, List.setIfInBounds_toArray, List.set_cons_zero, List.set_cons_succ, i64_w, i32_w]
                     rfl
                    exact norm_ zq16_5 (hJ2_5_9 (.slice (some adz_v118) y117.length co32, adz_v118, .slice (some ado35) y121.length co35, ado35) _ ⟨hHeld, zq16_23, zq16_24, (by (zq16_2); exact HO_4.out), ⟨_, rfl⟩, ⟨_, rfl⟩, (by (zq16_1); exact BK105.out), zq16_9, zq16_3, zq16_8⟩)
                   ·skip
                    refine box_step ?hg (N := 7) ?hd (cs := #[.int .i64 0, .int .i64 0]) (t := 38) ?hr ?_; (case hd => rfl); (case hg => rfl); (zq16_20)
                    intro gb125 hg w33 hbox hb
                    have n0_ := Aside0.mk (Kd.R_below (Kd.R_elderB (by (zq16_2); exact HO_4.out) gb125 (Nat.le_of_eq hg.symm)) hb)
                    have n1_ := Aside0.mk (Kd.R_below (by (zq16_2); exact HO119.out) hb)
                    have n2_ := Aside0.mk (blk_below (g := gb105) (o := .cells #[.int .i64 x106000_1, .int .i64 x106001_1] 38 (0, 0)) (by (zq16_1); exact BK105.out) hb)
                    have n3_ := Aside0.mk (IsS57.below zq16_9 hb)
                    have n4_ := Aside0.mk (KeepBut.trans zq16_3 (KeepBut.of_below hb g none) (.inl rfl))
                    have n5_ := Aside0.mk (below_step zq16_8 hb)
                    have n6_ := Aside0.mk (hbox)
                    have n7_ := Aside0.mk (zq16_14)
                    have n8_ := Aside0.mk ((Nat.le_trans HW0.out zq16_14 : w0.heap.size ≤ gb125))
                    have n9_ := Aside0.mk (zq16_16)
                    have n10_ := Aside0.mk (zq16_17)
                    have n11_ := Aside0.mk (zq16_10)
                    have n12_ := Aside0.mk (zq16_11)
                    clear HO_4
                    clear HO119
                    clear BK105
                    clear HI0
                    clear HK
                    clear HB
                    have HO_4 := n0_
                    have HO119 := n1_
                    have BK105 := n2_
                    have HI0 := n3_
                    have HK := n4_
                    have HB := n5_
                    have BK125 := n6_
                    have GW125 := n7_
                    have GE125 := n8_
                    have NB105_125 := n9_
                    have NB125_105 := n10_
                    have NB0_125 := n11_
                    have NB125_0 := n12_
                    clear n0_ n1_ n2_ n3_ n4_ n5_ n6_ n7_ n8_ n9_ n10_ n11_ n12_
                    clear hb hbox hg
                    refine hK.out _ _ ⟨(blk_cell BK105.out 0).trans rfl, (blk_cell BK105.out 1).trans rfl⟩ (fun hHeld => ?_)
                    clear hK K
                    refine norm_ (a' := ?_) ?_ ?_
                    rotate_left
                    ·show Act.put _ (some 7) _ = _
                     simp only [Act.put, List.setIfInBounds_toArray, List.set_cons_zero, List.set_cons_succ, i64_w, i32_w]
                     rfl
                    exact norm_ zq16_5 (hJ2_5_15 (.slice (some adz_v118) y117.length co32, adz_v118, gb125) _ ⟨hHeld, (by (zq16_2); exact HO119.out), (by (zq16_2); exact HO_4.out), ⟨_, rfl⟩, (by (zq16_1); exact BK105.out), (by (zq16_1); exact BK125.out), GW125.out, GE125.out, NB0_125.out, NB125_0.out, NB105_125.out, NB125_105.out, zq16_7, zq16_4, zq16_6⟩)
                 ·skip
                  rintro ⟨v122, adz_v122, gb125⟩ w32 ⟨hS_, h0_, h1_, h2_, h3_, h4_, h5_, h6_, h7_, h8_, h9_, h10_, h11_, h12_, h13_⟩
                  have n0_ : Aside0 (Kd.R (Kd.int .i64) 3 w32 w.heap.size (fun _ => True) v122 y121) := ⟨h0_⟩
                  have n1_ : Aside0 (Kd.R k38 38 w32 w.heap.size (fun k_ => k_ ≠ gb105 ∧ k_ ≠ gb125) u4 x4_1) := ⟨h1_⟩
                  have n2_ : Aside0 (∃ c_, (v122 : Value) = .slice (some adz_v122) y121.length c_) := ⟨h2_⟩
                  have n3_ : Aside0 (w32.heap[gb105]? = some (.cells #[.int .i64 x106000_1, .int .i64 x106001_1] 38 (0, 0))) := ⟨h3_⟩
                  have n4_ : Aside0 (w32.heap[gb125]? = some (.cells #[.int .i64 0, .int .i64 0] 38 (0, 0))) := ⟨h4_⟩
                  have n5_ : Aside0 (w.heap.size ≤ gb125) := ⟨h5_⟩
                  have n6_ : Aside0 (w0.heap.size ≤ gb125) := ⟨h6_⟩
                  have n7_ : Aside0 (g ≠ gb125) := ⟨h7_⟩
                  have n8_ : Aside0 (gb125 ≠ g) := ⟨h8_⟩
                  have n9_ : Aside0 (gb105 ≠ gb125) := ⟨h9_⟩
                  have n10_ : Aside0 (gb125 ≠ gb105) := ⟨h10_⟩
                  have n11_ : Aside0 (IsS57 w0 w32 g s0_0 x1001_16) := ⟨h11_⟩
                  have n12_ : Aside0 (KeepBut w w32 g none) := ⟨h12_⟩
                  have n13_ : Aside0 (Below w0.heap.size w0 w32) := ⟨h13_⟩
                  clear HO_4
                  clear BK105
                  clear HI0
                  clear HK
                  clear HB
                  clear h0_ h1_ h2_ h3_ h4_ h5_ h6_ h7_ h8_ h9_ h10_ h11_ h12_ h13_
                  have HO123 := n0_
                  have HO_4 := n1_
                  have HA_HO123 := n2_
                  have BK105 := n3_
                  have BK125 := n4_
                  have GW125 := n5_
                  have GE125 := n6_
                  have NB0_125 := n7_
                  have NB125_0 := n8_
                  have NB105_125 := n9_
                  have NB125_105 := n10_
                  have HI0 := n11_
                  have HK := n12_
                  have HB := n13_
                  clear n0_ n1_ n2_ n3_ n4_ n5_ n6_ n7_ n8_ n9_ n10_ n11_ n12_ n13_
                  have hHeld : w32.cell? ⟨gb105, 0, none⟩ = some (.int .i64 x106000_1) ∧ w32.cell? ⟨gb105, 1, none⟩ = some (.int .i64 x106001_1) := hS_
                  obtain ⟨co33, eo33⟩ := HA_HO123.out
                  clear HA_HO123
                  subst eo33
                  refine norm_ (a' := ?_) ?_ ?_
                  rotate_left
                  ·simp only [putAll, Act.put, List.setIfInBounds_toArray, List.set_cons_zero, List.set_cons_succ]
                   rfl
                  refine one_ (i := 2) (N := some 30) #[true, true, true, true, false, false, false, true, true, true, true, true, true, true, false, true, false] rfl rfl (one_of HT_.out (by kernel_rfl)) (by decide) (fun K hK => ?_)
                  refine Kd.R_lit_step (Kd.int .i64) _ 3 ?hg (N := 30) ?hd (xs := ([1, 0, (-1), 0] : List Int)) (inner := [.int .i64 1, .int .i64 0, .int .i64 (-1), .int .i64 0]) (ok := fun _ => True) (okp := fun _ => True) ?hr ?hp (fun _ hk => hk) trivial (Below.refl _ _) (Nat.le_refl _) (by simp) ?_; (case hd => rfl); (case hg => rfl); (zq16_20); (zq16_12)
                  intro v118 w34 ho35 hb hg_ hnew_
                  clear hg_ hnew_
                  (first | rw [← Ny117.out] at ho35 | (simp only [Int.reduceToNat] at ho35; rw [← Ny117.out] at ho35))
                  have n0_ := Aside0.mk (Kd.R_below (by (zq16_2); exact HO_4.out) hb)
                  have n1_ := Aside0.mk (Kd.R_elder' (by (zq16_2); exact HO123.out) (Kd.R_base ho35) hb)
                  have n2_ := Aside0.mk (Kd.R_lower (Kd.R_new' ho35 (Kd.R_lt (by (zq16_2); exact HO123.out))) (keep_size (w := w) (g := g) (row := none) zq16_4))
                  have n3_ := Aside0.mk (blk_below (g := gb105) (o := .cells #[.int .i64 x106000_1, .int .i64 x106001_1] 38 (0, 0)) (by (zq16_1); exact BK105.out) hb)
                  have n4_ := Aside0.mk (IsS57.below zq16_7 hb)
                  have n5_ := Aside0.mk (blk_below (g := gb125) (o := .cells #[.int .i64 0, .int .i64 0] 38 (0, 0)) (by (zq16_1); exact BK125.out) hb)
                  have n6_ := Aside0.mk (KeepBut.trans zq16_4 (KeepBut.of_below hb g none) (.inl rfl))
                  have n7_ := Aside0.mk (below_step zq16_6 hb)
                  clear HO_4
                  clear HO123
                  clear BK105
                  clear HI0
                  clear BK125
                  clear HK
                  clear HB
                  have HO_4 := n0_
                  have HO123 := n1_
                  have HO119 := n2_
                  have BK105 := n3_
                  have HI0 := n4_
                  have BK125 := n5_
                  have HK := n6_
                  have HB := n7_
                  clear n0_ n1_ n2_ n3_ n4_ n5_ n6_ n7_
                  clear hb ho35
                  obtain ⟨Ao36, co36, eo36⟩ := Kd.R_slice HO119.out
                  subst eo36
                  obtain ⟨ado36, fo36, _⟩ := Kd.at_int (Kd.R_reads' HO119.out).2.2 0 (by decide) (by rw [Ny117.out]; simp)
                  cases fo36
                  refine hK.out _ _ ⟨(blk_cell BK105.out 0).trans rfl, (blk_cell BK105.out 1).trans rfl⟩ (fun hHeld => ?_)
                  clear hK K
                  refine norm_ (a' := ?_) ?_ ?_
                  rotate_left
                  ·show Act.put _ (some 30) _ = _
                   simp only [Act.put, List.setIfInBounds_toArray, List.set_cons_zero, List.set_cons_succ, i64_w, i32_w]
                   rfl
                  refine pure_ (i := 4) (N := some 32) (v := ?_) (a' := ?_) #[true, true, true, true, true, false, false, true, true, true, true, true, true, true, false, true, false] rfl rfl (any_of HT_.out (by kernel_rfl)) (fun _ _ _ h => h) (Or.inl ⟨by rfl, ?_⟩) ?_ ?_
                  rotate_left
                  ·intro w'
                   go_simp
                   with_reducible rfl
                  rotate_left
                  ·simp only [Act.put, List.setIfInBounds_toArray, List.set_cons_zero, List.set_cons_succ, i64_w, i32_w]
                   rfl
                  exact norm_ zq16_5 (hJ2_9_12_15 (.slice (some ado36) y117.length co36, ado36, .slice (some adz_v122) y121.length co33, adz_v122, gb125) _ ⟨hHeld, zq16_23, zq16_24, (by (zq16_2); exact HO_4.out), ⟨_, rfl⟩, ⟨_, rfl⟩, (by (zq16_1); exact BK105.out), (by (zq16_1); exact BK125.out), GW125.out, GE125.out, NB0_125.out, NB125_0.out, NB105_125.out, NB125_105.out, zq16_7, zq16_4, zq16_6⟩)
                ·skip
                 rintro ⟨v118, adz_v118, v122, adz_v122, gb125⟩ w35 ⟨hS_, h0_, h1_, h2_, h3_, h4_, h5_, h6_, h7_, h8_, h9_, h10_, h11_, h12_, h13_, h14_, h15_⟩
                 have n0_ : Aside0 (Kd.R (Kd.int .i64) 3 w35 w.heap.size (fun k_ => some k_ ≠ (v122 : Value).ownBlock) v118 y117) := ⟨h0_⟩
                 have n1_ : Aside0 (Kd.R (Kd.int .i64) 3 w35 w.heap.size (fun k_ => some k_ ≠ (v118 : Value).ownBlock) v122 y121) := ⟨h1_⟩
                 have n2_ : Aside0 (Kd.R k38 38 w35 w.heap.size (fun k_ => k_ ≠ gb105 ∧ k_ ≠ gb125) u4 x4_1) := ⟨h2_⟩
                 have n3_ : Aside0 (∃ c_, (v118 : Value) = .slice (some adz_v118) y117.length c_) := ⟨h3_⟩
                 have n4_ : Aside0 (∃ c_, (v122 : Value) = .slice (some adz_v122) y121.length c_) := ⟨h4_⟩
                 have n5_ : Aside0 (w35.heap[gb105]? = some (.cells #[.int .i64 x106000_1, .int .i64 x106001_1] 38 (0, 0))) := ⟨h5_⟩
                 have n6_ : Aside0 (w35.heap[gb125]? = some (.cells #[.int .i64 0, .int .i64 0] 38 (0, 0))) := ⟨h6_⟩
                 have n7_ : Aside0 (w.heap.size ≤ gb125) := ⟨h7_⟩
                 have n8_ : Aside0 (w0.heap.size ≤ gb125) := ⟨h8_⟩
                 have n9_ : Aside0 (g ≠ gb125) := ⟨h9_⟩
                 have n10_ : Aside0 (gb125 ≠ g) := ⟨h10_⟩
                 have n11_ : Aside0 (gb105 ≠ gb125) := ⟨h11_⟩
                 have n12_ : Aside0 (gb125 ≠ gb105) := ⟨h12_⟩
                 have n13_ : Aside0 (IsS57 w0 w35 g s0_0 x1001_16) := ⟨h13_⟩
                 have n14_ : Aside0 (KeepBut w w35 g none) := ⟨h14_⟩
                 have n15_ : Aside0 (Below w0.heap.size w0 w35) := ⟨h15_⟩
                 clear HO_4
                 clear BK105
                 clear HI0
                 clear HK
                 clear HB
                 clear h0_ h1_ h2_ h3_ h4_ h5_ h6_ h7_ h8_ h9_ h10_ h11_ h12_ h13_ h14_ h15_
                 have HO119 := n0_
                 have HO123 := n1_
                 have HO_4 := n2_
                 have HA_HO119 := n3_
                 have HA_HO123 := n4_
                 have BK105 := n5_
                 have BK125 := n6_
                 have GW125 := n7_
                 have GE125 := n8_
                 have NB0_125 := n9_
                 have NB125_0 := n10_
                 have NB105_125 := n11_
                 have NB125_105 := n12_
                 have HI0 := n13_
                 have HK := n14_
                 have HB := n15_
                 clear n0_ n1_ n2_ n3_ n4_ n5_ n6_ n7_ n8_ n9_ n10_ n11_ n12_ n13_ n14_ n15_
                 have hHeld : w35.cell? ⟨gb105, 0, none⟩ = some (.int .i64 x106000_1) ∧ w35.cell? ⟨gb105, 1, none⟩ = some (.int .i64 x106001_1) := hS_
                 obtain ⟨co36, eo36⟩ := HA_HO119.out
                 clear HA_HO119
                 subst eo36
                 obtain ⟨co37, eo37⟩ := HA_HO123.out
                 clear HA_HO123
                 subst eo37
                 refine norm_ (a' := ?_) ?_ ?_
                 rotate_left
                 ·simp only [putAll, Act.put, List.setIfInBounds_toArray, List.set_cons_zero, List.set_cons_succ]
                  rfl
                 refine two_ (i := 5) (j := 12) (Ni := some 33) (Nj := some 40) #[true, true, true, true, true, true, false, true, true, true, true, true, false, false, false, true, false] #[true, true, true, true, true, false, false, true, true, true, true, true, true, false, false, true, false] rfl rfl rfl rfl (two_of HT_.out (by kernel_rfl)) (by decide) (by decide) (fun K hK => ?_) (fun K hK => ?_)
                 ·skip
                  (have p120 : 0 ≤ (x5_16 : Int) := of_decide_eq_true zq16_15; have q120 : x5_16 < (y117.length : Int) := of_decide_eq_true zq16_15; obtain ⟨ad120, e120, hx120_0⟩ := Kd.at_int (Kd.R_reads' HO119.out).2.2 x5_16 p120 q120; obtain rfl : adz_v118 = ad120 := (by injection e120))
                  refine value_ (w1 := ?_) (v := ?_) (by rfl) rfl ?_ ?_
                  rotate_left 2
                  ·go_simp
                   constructor
                   ·rfl
                   ·rfl
                  clear hx120_0
                  refine hK.out _ _ ⟨(blk_cell BK105.out 0).trans rfl, (blk_cell BK105.out 1).trans rfl⟩ (fun hHeld => ?_)
                  clear hK K
                  refine norm_ (a' := ?_) ?_ ?_
                  rotate_left
                  ·show Act.put _ (some 33) _ = _
                   simp only [Act.put, List.setIfInBounds_toArray, List.set_cons_zero, List.set_cons_succ, i64_w, i32_w]
                   rfl
                  refine pure_ (i := 6) (N := some 34) (v := ?_) (a' := ?_) #[true, true, true, true, true, true, true, true, true, true, true, true, false, false, false, true, false] rfl rfl (any_of HT_.out (by kernel_rfl)) (fun _ _ _ h => h) (Or.inl ⟨by rfl, ?_⟩) ?_ ?_
                  rotate_left
                  ·intro w'
                   go_simp
                   with_reducible rfl
                  rotate_left
                  ·simp only [Act.put, List.setIfInBounds_toArray, List.set_cons_zero, List.set_cons_succ, i64_w, i32_w]
                   rfl
                  exact norm_ zq16_5 (hJ2_5_9_15 (.slice (some adz_v118) y117.length co36, adz_v118, .slice (some adz_v122) y121.length co37, adz_v122, gb125) _ ⟨hHeld, (by (zq16_2); exact HO119.out), (by (zq16_2); exact HO123.out), (by (zq16_2); exact HO_4.out), ⟨_, rfl⟩, ⟨_, rfl⟩, (by (zq16_1); exact BK105.out), (by (zq16_1); exact BK125.out), GW125.out, GE125.out, NB0_125.out, NB125_0.out, NB105_125.out, NB125_105.out, zq16_7, zq16_4, zq16_6⟩)
                 ·skip
                  (have p124 : 0 ≤ (x5_16 : Int) := of_decide_eq_true zq16_15; have q124 : x5_16 < (y121.length : Int) := of_decide_eq_true zq16_15; obtain ⟨ad124, e124, hx124_0⟩ := Kd.at_int (Kd.R_reads' HO123.out).2.2 x5_16 p124 q124; obtain rfl : adz_v122 = ad124 := (by injection e124))
                  refine value_ (w1 := ?_) (v := ?_) (by rfl) rfl ?_ ?_
                  rotate_left 2
                  ·go_simp
                   constructor
                   ·rfl
                   ·rfl
                  clear hx124_0
                  refine hK.out _ _ ⟨(blk_cell BK105.out 0).trans rfl, (blk_cell BK105.out 1).trans rfl⟩ (fun hHeld => ?_)
                  clear hK K
                  refine norm_ (a' := ?_) ?_ ?_
                  rotate_left
                  ·show Act.put _ (some 40) _ = _
                   simp only [Act.put, List.setIfInBounds_toArray, List.set_cons_zero, List.set_cons_succ, i64_w, i32_w]
                   rfl
                  refine pure_ (i := 13) (N := some 41) (v := ?_) (a' := ?_) #[true, true, true, true, true, false, false, true, true, true, true, true, true, true, false, true, false] rfl rfl (any_of HT_.out (by kernel_rfl)) (fun _ _ _ h => h) (Or.inl ⟨by rfl, ?_⟩) ?_ ?_
                  rotate_left
                  ·intro w'
                   go_simp
                   with_reducible rfl
                  rotate_left
                  ·simp only [Act.put, List.setIfInBounds_toArray, List.set_cons_zero, List.set_cons_succ, i64_w, i32_w]
                   rfl
                  exact norm_ zq16_5 (hJ2_9_12_15 (.slice (some adz_v118) y117.length co36, adz_v118, .slice (some adz_v122) y121.length co37, adz_v122, gb125) _ ⟨hHeld, (by (zq16_2); exact HO119.out), (by (zq16_2); exact HO123.out), (by (zq16_2); exact HO_4.out), ⟨_, rfl⟩, ⟨_, rfl⟩, (by (zq16_1); exact BK105.out), (by (zq16_1); exact BK125.out), GW125.out, GE125.out, NB0_125.out, NB125_0.out, NB105_125.out, NB125_105.out, zq16_7, zq16_4, zq16_6⟩)
               ·skip
                rintro ⟨v118, adz_v118, v122, adz_v122⟩ w34 ⟨hS_, h0_, h1_, h2_, h3_, h4_, h5_, h6_, h7_, h8_⟩
                have n0_ : Aside0 (Kd.R (Kd.int .i64) 3 w34 w.heap.size (fun k_ => some k_ ≠ (v122 : Value).ownBlock) v118 y117) := ⟨h0_⟩
                have n1_ : Aside0 (Kd.R (Kd.int .i64) 3 w34 w.heap.size (fun k_ => some k_ ≠ (v118 : Value).ownBlock) v122 y121) := ⟨h1_⟩
                have n2_ : Aside0 (Kd.R k38 38 w34 w.heap.size (fun k_ => k_ ≠ gb105) u4 x4_1) := ⟨h2_⟩
                have n3_ : Aside0 (∃ c_, (v118 : Value) = .slice (some adz_v118) y117.length c_) := ⟨h3_⟩
                have n4_ : Aside0 (∃ c_, (v122 : Value) = .slice (some adz_v122) y121.length c_) := ⟨h4_⟩
                have n5_ : Aside0 (w34.heap[gb105]? = some (.cells #[.int .i64 x106000_1, .int .i64 x106001_1] 38 (0, 0))) := ⟨h5_⟩
                have n6_ : Aside0 (IsS57 w0 w34 g s0_0 x1001_16) := ⟨h6_⟩
                have n7_ : Aside0 (KeepBut w w34 g none) := ⟨h7_⟩
                have n8_ : Aside0 (Below w0.heap.size w0 w34) := ⟨h8_⟩
                clear HO_4
                clear BK105
                clear HI0
                clear HK
                clear HB
                clear h0_ h1_ h2_ h3_ h4_ h5_ h6_ h7_ h8_
                have HO119 := n0_
                have HO123 := n1_
                have HO_4 := n2_
                have HA_HO119 := n3_
                have HA_HO123 := n4_
                have BK105 := n5_
                have HI0 := n6_
                have HK := n7_
                have HB := n8_
                clear n0_ n1_ n2_ n3_ n4_ n5_ n6_ n7_ n8_
                have hHeld : w34.cell? ⟨gb105, 0, none⟩ = some (.int .i64 x106000_1) ∧ w34.cell? ⟨gb105, 1, none⟩ = some (.int .i64 x106001_1) := hS_
                obtain ⟨co35, eo35⟩ := HA_HO119.out
                clear HA_HO119
                subst eo35
                obtain ⟨co36, eo36⟩ := HA_HO123.out
                clear HA_HO123
                subst eo36
                refine norm_ (a' := ?_) ?_ ?_
                rotate_left
                ·simp only [putAll, Act.put, List.setIfInBounds_toArray, List.set_cons_zero, List.set_cons_succ]
                 rfl
                refine two_ (i := 5) (j := 15) (Ni := some 33) (Nj := some 7) #[true, true, true, true, true, true, false, true, true, true, true, true, true, true, false, false, false] #[true, true, true, true, true, false, false, true, true, true, true, true, true, true, false, true, false] rfl rfl rfl rfl (two_of HT_.out (by kernel_rfl)) (by decide) (by decide) (fun K hK => ?_) (fun K hK => ?_)
                ·skip
                 (have p120 : 0 ≤ (x5_16 : Int) := of_decide_eq_true zq16_15; have q120 : x5_16 < (y117.length : Int) := of_decide_eq_true zq16_15; obtain ⟨ad120, e120, hx120_0⟩ := Kd.at_int (Kd.R_reads' HO119.out).2.2 x5_16 p120 q120; obtain rfl : adz_v118 = ad120 := (by injection e120))
                 refine value_ (w1 := ?_) (v := ?_) (by rfl) rfl ?_ ?_
                 rotate_left 2
                 ·go_simp
                  constructor
                  ·rfl
                  ·rfl
                 clear hx120_0
                 refine hK.out _ _ ⟨(blk_cell BK105.out 0).trans rfl, (blk_cell BK105.out 1).trans rfl⟩ (fun hHeld => ?_)
                 clear hK K
                 refine norm_ (a' := ?_) ?_ ?_
                 rotate_left
                 ·show Act.put _ (some 33) _ = _
                  simp only [Act.put, List.setIfInBounds_toArray, List.set_cons_zero, List.set_cons_succ, i64_w, i32_w]
                  rfl
                 refine pure_ (i := 6) (N := some 34) (v := ?_) (a' := ?_) #[true, true, true, true, true, true, true, true, true, true, true, true, true, true, false, false, false] rfl rfl (any_of HT_.out (by kernel_rfl)) (fun _ _ _ h => h) (Or.inl ⟨by rfl, ?_⟩) ?_ ?_
                 rotate_left
                 ·intro w'
                  go_simp
                  with_reducible rfl
                 rotate_left
                 ·simp only [Act.put, List.setIfInBounds_toArray, List.set_cons_zero, List.set_cons_succ, i64_w, i32_w]
                  rfl
                 refine pure_ (i := 14) (N := some 42) (v := ?_) (a' := ?_) #[true, true, true, true, true, true, true, true, true, true, true, true, true, true, true, false, false] rfl rfl (any_of HT_.out (by kernel_rfl)) (fun _ _ _ h => h) (Or.inl ⟨by rfl, ?_⟩) ?_ ?_
                 rotate_left
                 ·intro w'
                  go_simp
                  with_reducible rfl
                 rotate_left
                 ·simp only [Act.put, List.setIfInBounds_toArray, List.set_cons_zero, List.set_cons_succ, i64_w, i32_w]
                  rfl
                 exact norm_ zq16_5 (hJ2_5_9_12 (.slice (some adz_v118) y117.length co35, adz_v118, .slice (some adz_v122) y121.length co36, adz_v122) _ ⟨hHeld, (by (zq16_2); exact HO119.out), (by (zq16_2); exact HO123.out), (by (zq16_2); exact HO_4.out), ⟨_, rfl⟩, ⟨_, rfl⟩, (by (zq16_1); exact BK105.out), zq16_9, zq16_3, zq16_8⟩)
                ·skip
                 refine box_step ?hg (N := 7) ?hd (cs := #[.int .i64 0, .int .i64 0]) (t := 38) ?hr ?_; (case hd => rfl); (case hg => rfl); (zq16_20)
                 intro gb125 hg w37 hbox hb
                 have n0_ := Aside0.mk (Kd.R_below (Kd.R_elderB (by (zq16_2); exact HO_4.out) gb125 (Nat.le_of_eq hg.symm)) hb)
                 have n1_ := Aside0.mk (Kd.R_below (by (zq16_2); exact HO119.out) hb)
                 have n2_ := Aside0.mk (Kd.R_below (by (zq16_2); exact HO123.out) hb)
                 have n3_ := Aside0.mk (blk_below (g := gb105) (o := .cells #[.int .i64 x106000_1, .int .i64 x106001_1] 38 (0, 0)) (by (zq16_1); exact BK105.out) hb)
                 have n4_ := Aside0.mk (IsS57.below zq16_9 hb)
                 have n5_ := Aside0.mk (KeepBut.trans zq16_3 (KeepBut.of_below hb g none) (.inl rfl))
                 have n6_ := Aside0.mk (below_step zq16_8 hb)
                 have n7_ := Aside0.mk (hbox)
                 have n8_ := Aside0.mk (zq16_14)
                 have n9_ := Aside0.mk ((Nat.le_trans HW0.out zq16_14 : w0.heap.size ≤ gb125))
                 have n10_ := Aside0.mk (zq16_16)
                 have n11_ := Aside0.mk (zq16_17)
                 have n12_ := Aside0.mk (zq16_10)
                 have n13_ := Aside0.mk (zq16_11)
                 clear HO_4
                 clear HO119
                 clear HO123
                 clear BK105
                 clear HI0
                 clear HK
                 clear HB
                 have HO_4 := n0_
                 have HO119 := n1_
                 have HO123 := n2_
                 have BK105 := n3_
                 have HI0 := n4_
                 have HK := n5_
                 have HB := n6_
                 have BK125 := n7_
                 have GW125 := n8_
                 have GE125 := n9_
                 have NB105_125 := n10_
                 have NB125_105 := n11_
                 have NB0_125 := n12_
                 have NB125_0 := n13_
                 clear n0_ n1_ n2_ n3_ n4_ n5_ n6_ n7_ n8_ n9_ n10_ n11_ n12_ n13_
                 clear hb hbox hg
                 refine hK.out _ _ ⟨(blk_cell BK105.out 0).trans rfl, (blk_cell BK105.out 1).trans rfl⟩ (fun hHeld => ?_)
                 clear hK K
                 refine norm_ (a' := ?_) ?_ ?_
                 rotate_left
                 ·show Act.put _ (some 7) _ = _
                  simp only [Act.put, List.setIfInBounds_toArray, List.set_cons_zero, List.set_cons_succ, i64_w, i32_w]
                  rfl
                 exact norm_ zq16_5 (hJ2_9_12_15 (.slice (some adz_v118) y117.length co35, adz_v118, .slice (some adz_v122) y121.length co36, adz_v122, gb125) _ ⟨hHeld, (by (zq16_2); exact HO119.out), (by (zq16_2); exact HO123.out), (by (zq16_2); exact HO_4.out), ⟨_, rfl⟩, ⟨_, rfl⟩, (by (zq16_1); exact BK105.out), (by (zq16_1); exact BK125.out), GW125.out, GE125.out, NB0_125.out, NB125_0.out, NB105_125.out, NB125_105.out, zq16_7, zq16_4, zq16_6⟩)
              ·skip
               rintro ⟨v118, adz_v118, gb125⟩ w32 ⟨hS_, h0_, h1_, h2_, h3_, h4_, h5_, h6_, h7_, h8_, h9_, h10_, h11_, h12_, h13_⟩
               have n0_ : Aside0 (Kd.R (Kd.int .i64) 3 w32 w.heap.size (fun _ => True) v118 y117) := ⟨h0_⟩
               have n1_ : Aside0 (Kd.R k38 38 w32 w.heap.size (fun k_ => k_ ≠ gb105 ∧ k_ ≠ gb125) u4 x4_1) := ⟨h1_⟩
               have n2_ : Aside0 (∃ c_, (v118 : Value) = .slice (some adz_v118) y117.length c_) := ⟨h2_⟩
               have n3_ : Aside0 (w32.heap[gb105]? = some (.cells #[.int .i64 x106000_1, .int .i64 x106001_1] 38 (0, 0))) := ⟨h3_⟩
               have n4_ : Aside0 (w32.heap[gb125]? = some (.cells #[.int .i64 0, .int .i64 0] 38 (0, 0))) := ⟨h4_⟩
               have n5_ : Aside0 (w.heap.size ≤ gb125) := ⟨h5_⟩
               have n6_ : Aside0 (w0.heap.size ≤ gb125) := ⟨h6_⟩
               have n7_ : Aside0 (g ≠ gb125) := ⟨h7_⟩
               have n8_ : Aside0 (gb125 ≠ g) := ⟨h8_⟩
               have n9_ : Aside0 (gb105 ≠ gb125) := ⟨h9_⟩
               have n10_ : Aside0 (gb125 ≠ gb105) := ⟨h10_⟩
               have n11_ : Aside0 (IsS57 w0 w32 g s0_0 x1001_16) := ⟨h11_⟩
               have n12_ : Aside0 (KeepBut w w32 g none) := ⟨h12_⟩
               have n13_ : Aside0 (Below w0.heap.size w0 w32) := ⟨h13_⟩
               clear HO_4
               clear BK105
               clear HI0
               clear HK
               clear HB
               clear h0_ h1_ h2_ h3_ h4_ h5_ h6_ h7_ h8_ h9_ h10_ h11_ h12_ h13_
               have HO119 := n0_
               have HO_4 := n1_
               have HA_HO119 := n2_
               have BK105 := n3_
               have BK125 := n4_
               have GW125 := n5_
               have GE125 := n6_
               have NB0_125 := n7_
               have NB125_0 := n8_
               have NB105_125 := n9_
               have NB125_105 := n10_
               have HI0 := n11_
               have HK := n12_
               have HB := n13_
               clear n0_ n1_ n2_ n3_ n4_ n5_ n6_ n7_ n8_ n9_ n10_ n11_ n12_ n13_
               have hHeld : w32.cell? ⟨gb105, 0, none⟩ = some (.int .i64 x106000_1) ∧ w32.cell? ⟨gb105, 1, none⟩ = some (.int .i64 x106001_1) := hS_
               obtain ⟨co33, eo33⟩ := HA_HO119.out
               clear HA_HO119
               subst eo33
               refine norm_ (a' := ?_) ?_ ?_
               rotate_left
               ·simp only [putAll, Act.put, List.setIfInBounds_toArray, List.set_cons_zero, List.set_cons_succ]
                rfl
               refine one_ (i := 9) (N := some 37) #[true, true, true, true, true, true, true, true, true, true, true, false, false, false, false, true, false] rfl rfl (one_of HT_.out (by kernel_rfl)) (by decide) (fun K hK => ?_)
               refine Kd.R_lit_step (Kd.int .i64) _ 3 ?hg (N := 37) ?hd (xs := ([0, 1, 0, (-1)] : List Int)) (inner := [.int .i64 0, .int .i64 1, .int .i64 0, .int .i64 (-1)]) (ok := fun _ => True) (okp := fun _ => True) ?hr ?hp (fun _ hk => hk) trivial (Below.refl _ _) (Nat.le_refl _) (by simp) ?_; (case hd => rfl); (case hg => rfl); (zq16_20); (zq16_13)
               intro v122 w34 ho35 hb hg_ hnew_
               clear hg_ hnew_
               (first | rw [← Ny121.out] at ho35 | (simp only [Int.reduceToNat] at ho35; rw [← Ny121.out] at ho35))
               have n0_ := Aside0.mk (Kd.R_below (by (zq16_2); exact HO_4.out) hb)
               have n1_ := Aside0.mk (Kd.R_elder' (by (zq16_2); exact HO119.out) (Kd.R_base ho35) hb)
               have n2_ := Aside0.mk (Kd.R_lower (Kd.R_new' ho35 (Kd.R_lt (by (zq16_2); exact HO119.out))) (keep_size (w := w) (g := g) (row := none) zq16_4))
               have n3_ := Aside0.mk (blk_below (g := gb105) (o := .cells #[.int .i64 x106000_1, .int .i64 x106001_1] 38 (0, 0)) (by (zq16_1); exact BK105.out) hb)
               have n4_ := Aside0.mk (IsS57.below zq16_7 hb)
               have n5_ := Aside0.mk (blk_below (g := gb125) (o := .cells #[.int .i64 0, .int .i64 0] 38 (0, 0)) (by (zq16_1); exact BK125.out) hb)
               have n6_ := Aside0.mk (KeepBut.trans zq16_4 (KeepBut.of_below hb g none) (.inl rfl))
               have n7_ := Aside0.mk (below_step zq16_6 hb)
               clear HO_4
               clear HO119
               clear BK105
               clear HI0
               clear BK125
               clear HK
               clear HB
               have HO_4 := n0_
               have HO119 := n1_
               have HO123 := n2_
               have BK105 := n3_
               have HI0 := n4_
               have BK125 := n5_
               have HK := n6_
               have HB := n7_
               clear n0_ n1_ n2_ n3_ n4_ n5_ n6_ n7_
               clear hb ho35
               obtain ⟨Ao36, co36, eo36⟩ := Kd.R_slice HO123.out
               subst eo36
               obtain ⟨ado36, fo36, _⟩ := Kd.at_int (Kd.R_reads' HO123.out).2.2 0 (by decide) (by rw [Ny121.out]; simp)
               cases fo36
               refine hK.out _ _ ⟨(blk_cell BK105.out 0).trans rfl, (blk_cell BK105.out 1).trans rfl⟩ (fun hHeld => ?_)
               clear hK K
               refine norm_ (a' := ?_) ?_ ?_
               rotate_left
               ·show Act.put _ (some 37) _ = _
                simp only [Act.put, List.setIfInBounds_toArray, List.set_cons_zero, List.set_cons_succ, i64_w, i32_w]
                rfl
               refine pure_ (i := 11) (N := some 39) (v := ?_) (a' := ?_) #[true, true, true, true, true, true, true, true, true, true, true, true, false, false, false, true, false] rfl rfl (any_of HT_.out (by kernel_rfl)) (fun _ _ _ h => h) (Or.inl ⟨by rfl, ?_⟩) ?_ ?_
               rotate_left
               ·intro w'
                go_simp
                with_reducible rfl
               rotate_left
               ·simp only [Act.put, List.setIfInBounds_toArray, List.set_cons_zero, List.set_cons_succ, i64_w, i32_w]
                rfl
               exact norm_ zq16_5 (hJ2_5_9_15 (.slice (some adz_v118) y117.length co33, adz_v118, .slice (some ado36) y121.length co36, ado36, gb125) _ ⟨hHeld, zq16_23, zq16_24, (by (zq16_2); exact HO_4.out), ⟨_, rfl⟩, ⟨_, rfl⟩, (by (zq16_1); exact BK105.out), (by (zq16_1); exact BK125.out), GW125.out, GE125.out, NB0_125.out, NB125_0.out, NB105_125.out, NB125_105.out, zq16_7, zq16_4, zq16_6⟩)
             ·skip
              rintro ⟨v118, adz_v118, v122, adz_v122⟩ w34 ⟨hS_, h0_, h1_, h2_, h3_, h4_, h5_, h6_, h7_, h8_⟩
              have n0_ : Aside0 (Kd.R (Kd.int .i64) 3 w34 w.heap.size (fun k_ => some k_ ≠ (v122 : Value).ownBlock) v118 y117) := ⟨h0_⟩
              have n1_ : Aside0 (Kd.R (Kd.int .i64) 3 w34 w.heap.size (fun k_ => some k_ ≠ (v118 : Value).ownBlock) v122 y121) := ⟨h1_⟩
              have n2_ : Aside0 (Kd.R k38 38 w34 w.heap.size (fun k_ => k_ ≠ gb105) u4 x4_1) := ⟨h2_⟩
              have n3_ : Aside0 (∃ c_, (v118 : Value) = .slice (some adz_v118) y117.length c_) := ⟨h3_⟩
              have n4_ : Aside0 (∃ c_, (v122 : Value) = .slice (some adz_v122) y121.length c_) := ⟨h4_⟩
              have n5_ : Aside0 (w34.heap[gb105]? = some (.cells #[.int .i64 x106000_1, .int .i64 x106001_1] 38 (0, 0))) := ⟨h5_⟩
              have n6_ : Aside0 (IsS57 w0 w34 g s0_0 x1001_16) := ⟨h6_⟩
              have n7_ : Aside0 (KeepBut w w34 g none) := ⟨h7_⟩
              have n8_ : Aside0 (Below w0.heap.size w0 w34) := ⟨h8_⟩
              clear HO_4
              clear BK105
              clear HI0
              clear HK
              clear HB
              clear h0_ h1_ h2_ h3_ h4_ h5_ h6_ h7_ h8_
              have HO119 := n0_
              have HO123 := n1_
              have HO_4 := n2_
              have HA_HO119 := n3_
              have HA_HO123 := n4_
              have BK105 := n5_
              have HI0 := n6_
              have HK := n7_
              have HB := n8_
              clear n0_ n1_ n2_ n3_ n4_ n5_ n6_ n7_ n8_
              have hHeld : w34.cell? ⟨gb105, 0, none⟩ = some (.int .i64 x106000_1) ∧ w34.cell? ⟨gb105, 1, none⟩ = some (.int .i64 x106001_1) := hS_
              obtain ⟨co35, eo35⟩ := HA_HO119.out
              clear HA_HO119
              subst eo35
              obtain ⟨co36, eo36⟩ := HA_HO123.out
              clear HA_HO123
              subst eo36
              refine norm_ (a' := ?_) ?_ ?_
              rotate_left
              ·simp only [putAll, Act.put, List.setIfInBounds_toArray, List.set_cons_zero, List.set_cons_succ]
               rfl
              refine two_ (i := 12) (j := 15) (Ni := some 40) (Nj := some 7) #[true, true, true, true, true, true, true, true, true, true, true, true, true, false, false, false, false] #[true, true, true, true, true, true, true, true, true, true, true, true, false, false, false, true, false] rfl rfl rfl rfl (two_of HT_.out (by kernel_rfl)) (by decide) (by decide) (fun K hK => ?_) (fun K hK => ?_)
              ·skip
               (have p124 : 0 ≤ (x5_16 : Int) := of_decide_eq_true zq16_15; have q124 : x5_16 < (y121.length : Int) := of_decide_eq_true zq16_15; obtain ⟨ad124, e124, hx124_0⟩ := Kd.at_int (Kd.R_reads' HO123.out).2.2 x5_16 p124 q124; obtain rfl : adz_v122 = ad124 := (by injection e124))
               refine value_ (w1 := ?_) (v := ?_) (by rfl) rfl ?_ ?_
               rotate_left 2
               ·go_simp
                constructor
                ·rfl
                ·rfl
               clear hx124_0
               refine hK.out _ _ ⟨(blk_cell BK105.out 0).trans rfl, (blk_cell BK105.out 1).trans rfl⟩ (fun hHeld => ?_)
               clear hK K
               refine norm_ (a' := ?_) ?_ ?_
               rotate_left
               ·show Act.put _ (some 40) _ = _
                simp only [Act.put, List.setIfInBounds_toArray, List.set_cons_zero, List.set_cons_succ, i64_w, i32_w]
                rfl
               refine pure_ (i := 13) (N := some 41) (v := ?_) (a' := ?_) #[true, true, true, true, true, true, true, true, true, true, true, true, true, true, false, false, false] rfl rfl (any_of HT_.out (by kernel_rfl)) (fun _ _ _ h => h) (Or.inl ⟨by rfl, ?_⟩) ?_ ?_
               rotate_left
               ·intro w'
                go_simp
                with_reducible rfl
               rotate_left
               ·simp only [Act.put, List.setIfInBounds_toArray, List.set_cons_zero, List.set_cons_succ, i64_w, i32_w]
                rfl
               refine pure_ (i := 14) (N := some 42) (v := ?_) (a' := ?_) #[true, true, true, true, true, true, true, true, true, true, true, true, true, true, true, false, false] rfl rfl (any_of HT_.out (by kernel_rfl)) (fun _ _ _ h => h) (Or.inl ⟨by rfl, ?_⟩) ?_ ?_
               rotate_left
               ·intro w'
                go_simp
                with_reducible rfl
               rotate_left
               ·simp only [Act.put, List.setIfInBounds_toArray, List.set_cons_zero, List.set_cons_succ, i64_w, i32_w]
                rfl
               exact norm_ zq16_5 (hJ2_5_9_12 (.slice (some adz_v118) y117.length co35, adz_v118, .slice (some adz_v122) y121.length co36, adz_v122) _ ⟨hHeld, (by (zq16_2); exact HO119.out), (by (zq16_2); exact HO123.out), (by (zq16_2); exact HO_4.out), ⟨_, rfl⟩, ⟨_, rfl⟩, (by (zq16_1); exact BK105.out), zq16_9, zq16_3, zq16_8⟩)
              ·skip
               refine box_step ?hg (N := 7) ?hd (cs := #[.int .i64 0, .int .i64 0]) (t := 38) ?hr ?_; (case hd => rfl); (case hg => rfl); (zq16_20)
               intro gb125 hg w37 hbox hb
               have n0_ := Aside0.mk (Kd.R_below (Kd.R_elderB (by (zq16_2); exact HO_4.out) gb125 (Nat.le_of_eq hg.symm)) hb)
               have n1_ := Aside0.mk (Kd.R_below (by (zq16_2); exact HO119.out) hb)
               have n2_ := Aside0.mk (Kd.R_below (by (zq16_2); exact HO123.out) hb)
               have n3_ := Aside0.mk (blk_below (g := gb105) (o := .cells #[.int .i64 x106000_1, .int .i64 x106001_1] 38 (0, 0)) (by (zq16_1); exact BK105.out) hb)
               have n4_ := Aside0.mk (IsS57.below zq16_9 hb)
               have n5_ := Aside0.mk (KeepBut.trans zq16_3 (KeepBut.of_below hb g none) (.inl rfl))
               have n6_ := Aside0.mk (below_step zq16_8 hb)
               have n7_ := Aside0.mk (hbox)
               have n8_ := Aside0.mk (zq16_14)
               have n9_ := Aside0.mk ((Nat.le_trans HW0.out zq16_14 : w0.heap.size ≤ gb125))
               have n10_ := Aside0.mk (zq16_16)
               have n11_ := Aside0.mk (zq16_17)
               have n12_ := Aside0.mk (zq16_10)
               have n13_ := Aside0.mk (zq16_11)
               clear HO_4
               clear HO119
               clear HO123
               clear BK105
               clear HI0
               clear HK
               clear HB
               have HO_4 := n0_
               have HO119 := n1_
               have HO123 := n2_
               have BK105 := n3_
               have HI0 := n4_
               have HK := n5_
               have HB := n6_
               have BK125 := n7_
               have GW125 := n8_
               have GE125 := n9_
               have NB105_125 := n10_
               have NB125_105 := n11_
               have NB0_125 := n12_
               have NB125_0 := n13_
               clear n0_ n1_ n2_ n3_ n4_ n5_ n6_ n7_ n8_ n9_ n10_ n11_ n12_ n13_
               clear hb hbox hg
               refine hK.out _ _ ⟨(blk_cell BK105.out 0).trans rfl, (blk_cell BK105.out 1).trans rfl⟩ (fun hHeld => ?_)
               clear hK K
               refine norm_ (a' := ?_) ?_ ?_
               rotate_left
               ·show Act.put _ (some 7) _ = _
                simp only [Act.put, List.setIfInBounds_toArray, List.set_cons_zero, List.set_cons_succ, i64_w, i32_w]
                rfl
               exact norm_ zq16_5 (hJ2_5_9_15 (.slice (some adz_v118) y117.length co35, adz_v118, .slice (some adz_v122) y121.length co36, adz_v122, gb125) _ ⟨hHeld, (by (zq16_2); exact HO119.out), (by (zq16_2); exact HO123.out), (by (zq16_2); exact HO_4.out), ⟨_, rfl⟩, ⟨_, rfl⟩, (by (zq16_1); exact BK105.out), (by (zq16_1); exact BK125.out), GW125.out, GE125.out, NB0_125.out, NB125_0.out, NB105_125.out, NB125_105.out, zq16_7, zq16_4, zq16_6⟩)
            ·skip
             rintro ⟨v118, adz_v118, v122, adz_v122, gb125⟩ w35 ⟨hS_, h0_, h1_, h2_, h3_, h4_, h5_, h6_, h7_, h8_, h9_, h10_, h11_, h12_, h13_, h14_, h15_⟩
             have n0_ : Aside0 (Kd.R (Kd.int .i64) 3 w35 w.heap.size (fun k_ => some k_ ≠ (v122 : Value).ownBlock) v118 y117) := ⟨h0_⟩
             have n1_ : Aside0 (Kd.R (Kd.int .i64) 3 w35 w.heap.size (fun k_ => some k_ ≠ (v118 : Value).ownBlock) v122 y121) := ⟨h1_⟩
             have n2_ : Aside0 (Kd.R k38 38 w35 w.heap.size (fun k_ => k_ ≠ gb105 ∧ k_ ≠ gb125) u4 x4_1) := ⟨h2_⟩
             have n3_ : Aside0 (∃ c_, (v118 : Value) = .slice (some adz_v118) y117.length c_) := ⟨h3_⟩
             have n4_ : Aside0 (∃ c_, (v122 : Value) = .slice (some adz_v122) y121.length c_) := ⟨h4_⟩
             have n5_ : Aside0 (w35.heap[gb105]? = some (.cells #[.int .i64 x106000_1, .int .i64 x106001_1] 38 (0, 0))) := ⟨h5_⟩
             have n6_ : Aside0 (w35.heap[gb125]? = some (.cells #[.int .i64 0, .int .i64 0] 38 (0, 0))) := ⟨h6_⟩
             have n7_ : Aside0 (w.heap.size ≤ gb125) := ⟨h7_⟩
             have n8_ : Aside0 (w0.heap.size ≤ gb125) := ⟨h8_⟩
             have n9_ : Aside0 (g ≠ gb125) := ⟨h9_⟩
             have n10_ : Aside0 (gb125 ≠ g) := ⟨h10_⟩
             have n11_ : Aside0 (gb105 ≠ gb125) := ⟨h11_⟩
             have n12_ : Aside0 (gb125 ≠ gb105) := ⟨h12_⟩
             have n13_ : Aside0 (IsS57 w0 w35 g s0_0 x1001_16) := ⟨h13_⟩
             have n14_ : Aside0 (KeepBut w w35 g none) := ⟨h14_⟩
             have n15_ : Aside0 (Below w0.heap.size w0 w35) := ⟨h15_⟩
             clear HO_4
             clear BK105
             clear HI0
             clear HK
             clear HB
             clear h0_ h1_ h2_ h3_ h4_ h5_ h6_ h7_ h8_ h9_ h10_ h11_ h12_ h13_ h14_ h15_
             have HO119 := n0_
             have HO123 := n1_
             have HO_4 := n2_
             have HA_HO119 := n3_
             have HA_HO123 := n4_
             have BK105 := n5_
             have BK125 := n6_
             have GW125 := n7_
             have GE125 := n8_
             have NB0_125 := n9_
             have NB125_0 := n10_
             have NB105_125 := n11_
             have NB125_105 := n12_
             have HI0 := n13_
             have HK := n14_
             have HB := n15_
             clear n0_ n1_ n2_ n3_ n4_ n5_ n6_ n7_ n8_ n9_ n10_ n11_ n12_ n13_ n14_ n15_
             have hHeld : w35.cell? ⟨gb105, 0, none⟩ = some (.int .i64 x106000_1) ∧ w35.cell? ⟨gb105, 1, none⟩ = some (.int .i64 x106001_1) := hS_
             obtain ⟨co36, eo36⟩ := HA_HO119.out
             clear HA_HO119
             subst eo36
             obtain ⟨co37, eo37⟩ := HA_HO123.out
             clear HA_HO123
             subst eo37
             refine norm_ (a' := ?_) ?_ ?_
             rotate_left
             ·simp only [putAll, Act.put, List.setIfInBounds_toArray, List.set_cons_zero, List.set_cons_succ]
              rfl
             refine one_ (i := 5) (N := some 33) #[true, true, true, true, true, true, false, true, true, true, true, true, true, true, false, true, false] rfl rfl (one_of HT_.out (by kernel_rfl)) (by decide) (fun K hK => ?_)
             (have p120 : 0 ≤ (x5_16 : Int) := of_decide_eq_true zq16_15; have q120 : x5_16 < (y117.length : Int) := of_decide_eq_true zq16_15; obtain ⟨ad120, e120, hx120_0⟩ := Kd.at_int (Kd.R_reads' HO119.out).2.2 x5_16 p120 q120; obtain rfl : adz_v118 = ad120 := (by injection e120))
             refine value_ (w1 := ?_) (v := ?_) (by rfl) rfl ?_ ?_
             rotate_left 2
             ·go_simp
              constructor
              ·rfl
              ·rfl
             clear hx120_0
             refine hK.out _ _ ⟨(blk_cell BK105.out 0).trans rfl, (blk_cell BK105.out 1).trans rfl⟩ (fun hHeld => ?_)
             clear hK K
             refine norm_ (a' := ?_) ?_ ?_
             rotate_left
             ·show Act.put _ (some 33) _ = _
              simp only [Act.put, List.setIfInBounds_toArray, List.set_cons_zero, List.set_cons_succ, i64_w, i32_w]
              rfl
             refine pure_ (i := 6) (N := some 34) (v := ?_) (a' := ?_) #[true, true, true, true, true, true, true, true, true, true, true, true, true, true, false, true, false] rfl rfl (any_of HT_.out (by kernel_rfl)) (fun _ _ _ h => h) (Or.inl ⟨by rfl, ?_⟩) ?_ ?_
             rotate_left
             ·intro w'
              go_simp
              with_reducible rfl
             rotate_left
             ·simp only [Act.put, List.setIfInBounds_toArray, List.set_cons_zero, List.set_cons_succ, i64_w, i32_w]
              rfl
             refine pure_ (i := 14) (N := some 42) (v := ?_) (a' := ?_) #[true, true, true, true, true, true, true, true, true, true, true, true, true, true, true, true, false] rfl rfl (any_of HT_.out (by kernel_rfl)) (fun _ _ _ h => h) (Or.inl ⟨by rfl, ?_⟩) ?_ ?_
             rotate_left
             ·intro w'
              go_simp
              with_reducible rfl
             rotate_left
             ·simp only [Act.put, List.setIfInBounds_toArray, List.set_cons_zero, List.set_cons_succ, i64_w, i32_w]
              rfl
             exact norm_ zq16_5 (hJ2_5_9_12_15 (.slice (some adz_v118) y117.length co36, adz_v118, .slice (some adz_v122) y121.length co37, adz_v122, gb125) _ ⟨hHeld, (by (zq16_2); exact HO119.out), (by (zq16_2); exact HO123.out), (by (zq16_2); exact HO_4.out), ⟨_, rfl⟩, ⟨_, rfl⟩, (by (zq16_1); exact BK105.out), (by (zq16_1); exact BK125.out), GW125.out, GE125.out, NB0_125.out, NB125_0.out, NB105_125.out, NB125_105.out, zq16_7, zq16_4, zq16_6⟩)
           ·skip
            rintro ⟨v118, adz_v118, v122, adz_v122, gb125⟩ w35 ⟨hS_, h0_, h1_, h2_, h3_, h4_, h5_, h6_, h7_, h8_, h9_, h10_, h11_, h12_, h13_, h14_, h15_⟩
            have n0_ : Aside0 (Kd.R (Kd.int .i64) 3 w35 w.heap.size (fun k_ => some k_ ≠ (v122 : Value).ownBlock) v118 y117) := ⟨h0_⟩
            have n1_ : Aside0 (Kd.R (Kd.int .i64) 3 w35 w.heap.size (fun k_ => some k_ ≠ (v118 : Value).ownBlock) v122 y121) := ⟨h1_⟩
            have n2_ : Aside0 (Kd.R k38 38 w35 w.heap.size (fun k_ => k_ ≠ gb105 ∧ k_ ≠ gb125) u4 x4_1) := ⟨h2_⟩
            have n3_ : Aside0 (∃ c_, (v118 : Value) = .slice (some adz_v118) y117.length c_) := ⟨h3_⟩
            have n4_ : Aside0 (∃ c_, (v122 : Value) = .slice (some adz_v122) y121.length c_) := ⟨h4_⟩
            have n5_ : Aside0 (w35.heap[gb105]? = some (.cells #[.int .i64 x106000_1, .int .i64 x106001_1] 38 (0, 0))) := ⟨h5_⟩
            have n6_ : Aside0 (w35.heap[gb125]? = some (.cells #[.int .i64 0, .int .i64 0] 38 (0, 0))) := ⟨h6_⟩
            have n7_ : Aside0 (w.heap.size ≤ gb125) := ⟨h7_⟩
            have n8_ : Aside0 (w0.heap.size ≤ gb125) := ⟨h8_⟩
            have n9_ : Aside0 (g ≠ gb125) := ⟨h9_⟩
            have n10_ : Aside0 (gb125 ≠ g) := ⟨h10_⟩
            have n11_ : Aside0 (gb105 ≠ gb125) := ⟨h11_⟩
            have n12_ : Aside0 (gb125 ≠ gb105) := ⟨h12_⟩
            have n13_ : Aside0 (IsS57 w0 w35 g s0_0 x1001_16) := ⟨h13_⟩
            have n14_ : Aside0 (KeepBut w w35 g none) := ⟨h14_⟩
            have n15_ : Aside0 (Below w0.heap.size w0 w35) := ⟨h15_⟩
            clear HO_4
            clear BK105
            clear HI0
            clear HK
            clear HB
            clear h0_ h1_ h2_ h3_ h4_ h5_ h6_ h7_ h8_ h9_ h10_ h11_ h12_ h13_ h14_ h15_
            have HO119 := n0_
            have HO123 := n1_
            have HO_4 := n2_
            have HA_HO119 := n3_
            have HA_HO123 := n4_
            have BK105 := n5_
            have BK125 := n6_
            have GW125 := n7_
            have GE125 := n8_
            have NB0_125 := n9_
            have NB125_0 := n10_
            have NB105_125 := n11_
            have NB125_105 := n12_
            have HI0 := n13_
            have HK := n14_
            have HB := n15_
            clear n0_ n1_ n2_ n3_ n4_ n5_ n6_ n7_ n8_ n9_ n10_ n11_ n12_ n13_ n14_ n15_
            have hHeld : w35.cell? ⟨gb105, 0, none⟩ = some (.int .i64 x106000_1) ∧ w35.cell? ⟨gb105, 1, none⟩ = some (.int .i64 x106001_1) := hS_
            obtain ⟨co36, eo36⟩ := HA_HO119.out
            clear HA_HO119
            subst eo36
            obtain ⟨co37, eo37⟩ := HA_HO123.out
            clear HA_HO123
            subst eo37
            refine norm_ (a' := ?_) ?_ ?_
            rotate_left
            ·simp only [putAll, Act.put, List.setIfInBounds_toArray, List.set_cons_zero, List.set_cons_succ]
             rfl
            refine one_ (i := 12) (N := some 40) #[true, true, true, true, true, true, true, true, true, true, true, true, true, false, false, true, false] rfl rfl (one_of HT_.out (by kernel_rfl)) (by decide) (fun K hK => ?_)
            (have p124 : 0 ≤ (x5_16 : Int) := of_decide_eq_true zq16_15; have q124 : x5_16 < (y121.length : Int) := of_decide_eq_true zq16_15; obtain ⟨ad124, e124, hx124_0⟩ := Kd.at_int (Kd.R_reads' HO123.out).2.2 x5_16 p124 q124; obtain rfl : adz_v122 = ad124 := (by injection e124))
            refine value_ (w1 := ?_) (v := ?_) (by rfl) rfl ?_ ?_
            rotate_left 2
            ·go_simp
             constructor
             ·rfl
             ·rfl
            clear hx124_0
            refine hK.out _ _ ⟨(blk_cell BK105.out 0).trans rfl, (blk_cell BK105.out 1).trans rfl⟩ (fun hHeld => ?_)
            clear hK K
            refine norm_ (a' := ?_) ?_ ?_
            rotate_left
            ·show Act.put _ (some 40) _ = _
             simp only [Act.put, List.setIfInBounds_toArray, List.set_cons_zero, List.set_cons_succ, i64_w, i32_w]
             rfl
            refine pure_ (i := 13) (N := some 41) (v := ?_) (a' := ?_) #[true, true, true, true, true, true, true, true, true, true, true, true, true, true, false, true, false] rfl rfl (any_of HT_.out (by kernel_rfl)) (fun _ _ _ h => h) (Or.inl ⟨by rfl, ?_⟩) ?_ ?_
            rotate_left
            ·intro w'
             go_simp
             with_reducible rfl
            rotate_left
            ·simp only [Act.put, List.setIfInBounds_toArray, List.set_cons_zero, List.set_cons_succ, i64_w, i32_w]
             rfl
            refine pure_ (i := 14) (N := some 42) (v := ?_) (a' := ?_) #[true, true, true, true, true, true, true, true, true, true, true, true, true, true, true, true, false] rfl rfl (any_of HT_.out (by kernel_rfl)) (fun _ _ _ h => h) (Or.inl ⟨by rfl, ?_⟩) ?_ ?_
            rotate_left
            ·intro w'
             go_simp
             with_reducible rfl
            rotate_left
            ·simp only [Act.put, List.setIfInBounds_toArray, List.set_cons_zero, List.set_cons_succ, i64_w, i32_w]
             rfl
            exact norm_ zq16_5 (hJ2_5_9_12_15 (.slice (some adz_v118) y117.length co36, adz_v118, .slice (some adz_v122) y121.length co37, adz_v122, gb125) _ ⟨hHeld, (by (zq16_2); exact HO119.out), (by (zq16_2); exact HO123.out), (by (zq16_2); exact HO_4.out), ⟨_, rfl⟩, ⟨_, rfl⟩, (by (zq16_1); exact BK105.out), (by (zq16_1); exact BK125.out), GW125.out, GE125.out, NB0_125.out, NB125_0.out, NB105_125.out, NB125_105.out, zq16_7, zq16_4, zq16_6⟩)
          ·skip
           rintro ⟨v118, adz_v118, v122, adz_v122⟩ w34 ⟨hS_, h0_, h1_, h2_, h3_, h4_, h5_, h6_, h7_, h8_⟩
           have n0_ : Aside0 (Kd.R (Kd.int .i64) 3 w34 w.heap.size (fun k_ => some k_ ≠ (v122 : Value).ownBlock) v118 y117) := ⟨h0_⟩
           have n1_ : Aside0 (Kd.R (Kd.int .i64) 3 w34 w.heap.size (fun k_ => some k_ ≠ (v118 : Value).ownBlock) v122 y121) := ⟨h1_⟩
           have n2_ : Aside0 (Kd.R k38 38 w34 w.heap.size (fun k_ => k_ ≠ gb105) u4 x4_1) := ⟨h2_⟩
           have n3_ : Aside0 (∃ c_, (v118 : Value) = .slice (some adz_v118) y117.length c_) := ⟨h3_⟩
           have n4_ : Aside0 (∃ c_, (v122 : Value) = .slice (some adz_v122) y121.length c_) := ⟨h4_⟩
           have n5_ : Aside0 (w34.heap[gb105]? = some (.cells #[.int .i64 x106000_1, .int .i64 x106001_1] 38 (0, 0))) := ⟨h5_⟩
           have n6_ : Aside0 (IsS57 w0 w34 g s0_0 x1001_16) := ⟨h6_⟩
           have n7_ : Aside0 (KeepBut w w34 g none) := ⟨h7_⟩
           have n8_ : Aside0 (Below w0.heap.size w0 w34) := ⟨h8_⟩
           clear HO_4
           clear BK105
           clear HI0
           clear HK
           clear HB
           clear h0_ h1_ h2_ h3_ h4_ h5_ h6_ h7_ h8_
           have HO119 := n0_
           have HO123 := n1_
           have HO_4 := n2_
           have HA_HO119 := n3_
           have HA_HO123 := n4_
           have BK105 := n5_
           have HI0 := n6_
           have HK := n7_
           have HB := n8_
           clear n0_ n1_ n2_ n3_ n4_ n5_ n6_ n7_ n8_
           have hHeld : w34.cell? ⟨gb105, 0, none⟩ = some (.int .i64 x106000_1) ∧ w34.cell? ⟨gb105, 1, none⟩ = some (.int .i64 x106001_1) := hS_
           obtain ⟨co35, eo35⟩ := HA_HO119.out
           clear HA_HO119
           subst eo35
           obtain ⟨co36, eo36⟩ := HA_HO123.out
           clear HA_HO123
           subst eo36
           refine norm_ (a' := ?_) ?_ ?_
           rotate_left
           ·simp only [putAll, Act.put, List.setIfInBounds_toArray, List.set_cons_zero, List.set_cons_succ]
            rfl
           refine one_ (i := 15) (N := some 7) #[true, true, true, true, true, true, true, true, true, true, true, true, true, true, true, true, false] rfl rfl (one_of HT_.out (by kernel_rfl)) (by decide) (fun K hK => ?_)
           refine box_step ?hg (N := 7) ?hd (cs := #[.int .i64 0, .int .i64 0]) (t := 38) ?hr ?_; (case hd => rfl); (case hg => rfl); (zq16_20)
           intro gb125 hg w37 hbox hb
           have n0_ := Aside0.mk (Kd.R_below (Kd.R_elderB (by (zq16_2); exact HO_4.out) gb125 (Nat.le_of_eq hg.symm)) hb)
           have n1_ := Aside0.mk (Kd.R_below (by (zq16_2); exact HO119.out) hb)
           have n2_ := Aside0.mk (Kd.R_below (by (zq16_2); exact HO123.out) hb)
           have n3_ := Aside0.mk (blk_below (g := gb105) (o := .cells #[.int .i64 x106000_1, .int .i64 x106001_1] 38 (0, 0)) (by (zq16_1); exact BK105.out) hb)
           have n4_ := Aside0.mk (IsS57.below zq16_9 hb)
           have n5_ := Aside0.mk (KeepBut.trans zq16_3 (KeepBut.of_below hb g none) (.inl rfl))
           have n6_ := Aside0.mk (below_step zq16_8 hb)
           have n7_ := Aside0.mk (hbox)
           have n8_ := Aside0.mk (zq16_14)
           have n9_ := Aside0.mk ((Nat.le_trans HW0.out zq16_14 : w0.heap.size ≤ gb125))
           have n10_ := Aside0.mk (zq16_16)
           have n11_ := Aside0.mk (zq16_17)
           have n12_ := Aside0.mk (zq16_10)
           have n13_ := Aside0.mk (zq16_11)
           clear HO_4
           clear HO119
           clear HO123
           clear BK105
           clear HI0
           clear HK
           clear HB
           have HO_4 := n0_
           have HO119 := n1_
           have HO123 := n2_
           have BK105 := n3_
           have HI0 := n4_
           have HK := n5_
           have HB := n6_
           have BK125 := n7_
           have GW125 := n8_
           have GE125 := n9_
           have NB105_125 := n10_
           have NB125_105 := n11_
           have NB0_125 := n12_
           have NB125_0 := n13_
           clear n0_ n1_ n2_ n3_ n4_ n5_ n6_ n7_ n8_ n9_ n10_ n11_ n12_ n13_
           clear hb hbox hg
           refine hK.out _ _ ⟨(blk_cell BK105.out 0).trans rfl, (blk_cell BK105.out 1).trans rfl⟩ (fun hHeld => ?_)
           clear hK K
           refine norm_ (a' := ?_) ?_ ?_
           rotate_left
           ·show Act.put _ (some 7) _ = _
            simp only [Act.put, List.setIfInBounds_toArray, List.set_cons_zero, List.set_cons_succ, i64_w, i32_w]
            rfl
           exact norm_ zq16_5 (hJ2_5_9_12_15 (.slice (some adz_v118) y117.length co35, adz_v118, .slice (some adz_v122) y121.length co36, adz_v122, gb125) _ ⟨hHeld, (by (zq16_2); exact HO119.out), (by (zq16_2); exact HO123.out), (by (zq16_2); exact HO_4.out), ⟨_, rfl⟩, ⟨_, rfl⟩, (by (zq16_1); exact BK105.out), (by (zq16_1); exact BK125.out), GW125.out, GE125.out, NB0_125.out, NB125_0.out, NB105_125.out, NB125_105.out, zq16_7, zq16_4, zq16_6⟩)
         rintro ⟨v118, adz_v118, v122, adz_v122, gb125⟩ w35 ⟨hS_, h0_, h1_, h2_, h3_, h4_, h5_, h6_, h7_, h8_, h9_, h10_, h11_, h12_, h13_, h14_, h15_⟩
         have n0_ : Aside0 (Kd.R (Kd.int .i64) 3 w35 w.heap.size (fun k_ => some k_ ≠ (v122 : Value).ownBlock) v118 y117) := ⟨h0_⟩
         have n1_ : Aside0 (Kd.R (Kd.int .i64) 3 w35 w.heap.size (fun k_ => some k_ ≠ (v118 : Value).ownBlock) v122 y121) := ⟨h1_⟩
         have n2_ : Aside0 (Kd.R k38 38 w35 w.heap.size (fun k_ => k_ ≠ gb105 ∧ k_ ≠ gb125) u4 x4_1) := ⟨h2_⟩
         have n3_ : Aside0 (∃ c_, (v118 : Value) = .slice (some adz_v118) y117.length c_) := ⟨h3_⟩
         have n4_ : Aside0 (∃ c_, (v122 : Value) = .slice (some adz_v122) y121.length c_) := ⟨h4_⟩
         have n5_ : Aside0 (w35.heap[gb105]? = some (.cells #[.int .i64 x106000_1, .int .i64 x106001_1] 38 (0, 0))) := ⟨h5_⟩
         have n6_ : Aside0 (w35.heap[gb125]? = some (.cells #[.int .i64 0, .int .i64 0] 38 (0, 0))) := ⟨h6_⟩
         have n7_ : Aside0 (w.heap.size ≤ gb125) := ⟨h7_⟩
         have n8_ : Aside0 (w0.heap.size ≤ gb125) := ⟨h8_⟩
         have n9_ : Aside0 (g ≠ gb125) := ⟨h9_⟩
         have n10_ : Aside0 (gb125 ≠ g) := ⟨h10_⟩
         have n11_ : Aside0 (gb105 ≠ gb125) := ⟨h11_⟩
         have n12_ : Aside0 (gb125 ≠ gb105) := ⟨h12_⟩
         have n13_ : Aside0 (IsS57 w0 w35 g s0_0 x1001_16) := ⟨h13_⟩
         have n14_ : Aside0 (KeepBut w w35 g none) := ⟨h14_⟩
         have n15_ : Aside0 (Below w0.heap.size w0 w35) := ⟨h15_⟩
         clear HO_4
         clear BK105
         clear HI0
         clear HK
         clear HB
         clear h0_ h1_ h2_ h3_ h4_ h5_ h6_ h7_ h8_ h9_ h10_ h11_ h12_ h13_ h14_ h15_
         have HO119 := n0_
         have HO123 := n1_
         have HO_4 := n2_
         have HA_HO119 := n3_
         have HA_HO123 := n4_
         have BK105 := n5_
         have BK125 := n6_
         have GW125 := n7_
         have GE125 := n8_
         have NB0_125 := n9_
         have NB125_0 := n10_
         have NB105_125 := n11_
         have NB125_105 := n12_
         have HI0 := n13_
         have HK := n14_
         have HB := n15_
         clear n0_ n1_ n2_ n3_ n4_ n5_ n6_ n7_ n8_ n9_ n10_ n11_ n12_ n13_ n14_ n15_
         have hHeld : w35.cell? ⟨gb105, 0, none⟩ = some (.int .i64 x106000_1) ∧ w35.cell? ⟨gb105, 1, none⟩ = some (.int .i64 x106001_1) := hS_
         obtain ⟨co36, eo36⟩ := HA_HO119.out
         clear HA_HO119
         subst eo36
         obtain ⟨co37, eo37⟩ := HA_HO123.out
         clear HA_HO123
         subst eo37
         refine norm_ (a' := ?_) ?_ ?_
         rotate_left
         ·simp only [putAll, Act.put, List.setIfInBounds_toArray, List.set_cons_zero, List.set_cons_succ]
          rfl
         refine one_ (i := 16) (N := none) #[true, true, true, true, true, true, true, true, true, true, true, true, true, true, true, true, true] rfl rfl (one_of HT_.out (by kernel_rfl)) (by decide) (fun K hK => ?_)
         have hs38 : w35.cell? ⟨gb125, 0, none⟩ = some (.int .i64 0) := (blk_cell BK125.out 0).trans rfl
         have hfs38 := blk_frozen BK125.out 0
         have hns38_0 := NB105_125.out
         have hms38_0 := NB125_105.out
         have hs39 : w35.cell? ⟨gb125, 1, none⟩ = some (.int .i64 0) := (blk_cell BK125.out 1).trans rfl
         have hfs39 := blk_frozen BK125.out 1
         have hns39_0 := NB105_125.out
         have hms39_0 := NB125_105.out
         refine skip_ (w1 := ?_) (by rfl) rfl ?_ ?_
         rotate_left
         ·go_simp
          rfl
         refine hK.out _ _ ⟨((cell_far (p := ⟨gb125, _, none⟩) NB105_125.out _).trans (((cell_far (p := ⟨gb125, _, none⟩) NB105_125.out _).trans (hHeld.1)))), ((cell_far (p := ⟨gb125, _, none⟩) NB105_125.out _).trans (((cell_far (p := ⟨gb125, _, none⟩) NB105_125.out _).trans (hHeld.2))))⟩ (fun hHeld => ?_)
         clear hK K
         refine done_ (done_of HT_.out (by kernel_rfl)) ?_
         have hnb40 := NB125_105.out
         have hnc40 := NB105_125.out
         have hnb41 := NB125_0.out
         have hnc41 := NB0_125.out
         have hcz42_0 : w35.cell? ⟨gb125, 0, none⟩ = some (.int .i64 0) := (blk_cell BK125.out 0).trans rfl
         have hcz42_1 : w35.cell? ⟨gb125, 1, none⟩ = some (.int .i64 0) := (blk_cell BK125.out 1).trans rfl
         have hfz42_0 := blk_frozen BK125.out 0
         have hfz42_1 := blk_frozen BK125.out 1
         go_upto_if 44 with (first | ((with_reducible refine gate_callee (f := 43) rfl ?_); refine goesL_ (some 44) rfl rfl Try.func43 (by kernel_rfl) rfl #[.agg #[.int .i64 (wrap64 (x106000_1 + (rd y117 x5_16))), .int .i64 (wrap64 (x106001_1 + (rd y121 x5_16)))]] rfl zq16_18 ?_; (with_reducible refine (spec_PtOk.calls (wrap64 (x106000_1 + (rd y117 x5_16))) (wrap64 (x106001_1 + (rd y121 x5_16))) t126 _ A25.out).mono ?_); rintro e w43 ⟨rfl, hb⟩; refine ⟨_, rfl, ?_⟩; have n0_ := Aside0.mk (Kd.R_below (by (zq16_2); exact (Kd.R_mono (Kd.R_far (p := ⟨gb125, 1, none⟩) (Kd.R_far (p := ⟨gb125, 0, none⟩) (Kd.R_mono HO_4.out (fun k_ hk => (⟨hk, hk.2⟩ : _ ∧ k_ ≠ gb125))) (fun _ hk => hk.2) (.int .i64 (wrap64 (x106000_1 + (rd y117 x5_16))))) (fun _ hk => hk.2) (.int .i64 (wrap64 (x106001_1 + (rd y121 x5_16))))) (fun _ h_ => h_.1))) hb); have n1_ := Aside0.mk (Kd.R_below (by (zq16_2); exact (Kd.R_mono (Kd.R_far (p := ⟨gb125, 1, none⟩) (Kd.R_far (p := ⟨gb125, 0, none⟩) (Kd.R_types HO119.out BK125.out (by decide)) (fun _ hk => hk.2) (.int .i64 (wrap64 (x106000_1 + (rd y117 x5_16))))) (fun _ hk => hk.2) (.int .i64 (wrap64 (x106001_1 + (rd y121 x5_16))))) (fun _ h_ => h_.1))) hb); have n2_ := Aside0.mk (Kd.R_below (by (zq16_2); exact (Kd.R_mono (Kd.R_far (p := ⟨gb125, 1, none⟩) (Kd.R_far (p := ⟨gb125, 0, none⟩) (Kd.R_types HO123.out BK125.out (by decide)) (fun _ hk => hk.2) (.int .i64 (wrap64 (x106000_1 + (rd y117 x5_16))))) (fun _ hk => hk.2) (.int .i64 (wrap64 (x106001_1 + (rd y121 x5_16))))) (fun _ h_ => h_.1))) hb); have n3_ := Aside0.mk (blk_below (g := gb105) (o := .cells #[.int .i64 x106000_1, .int .i64 x106001_1] 38 (0, 0)) (by (zq16_1); refine blk_far ?_ NB105_125.out _; (zq16_1); refine blk_far ?_ NB105_125.out _; (zq16_1); exact BK105.out) hb); have n4_ := Aside0.mk (IsS57.below (show IsS57 w0 ((w35.setCell ⟨gb125, 0, none⟩ (.int .i64 (wrap64 (x106000_1 + (rd y117 x5_16))))).setCell ⟨gb125, 1, none⟩ (.int .i64 (wrap64 (x106001_1 + (rd y121 x5_16))))) g s0_0 x1001_16 from by repeat (first | (with_reducible first | exact HI0.out | apply IsS57.alloc | apply IsS57.drewN | apply IsS57.drew | apply IsS57.set_1 | refine IsS57.far ?_ NB0_105.out _ | refine IsS57.far ?_ NB0_125.out _) | exact HI0.out)) hb); have n5_ := Aside0.mk (blk_below (g := gb125) (o := .cells #[.int .i64 (wrap64 (x106000_1 + (rd y117 x5_16))), .int .i64 (wrap64 (x106001_1 + (rd y121 x5_16)))] 38 (0, 0)) (by (zq16_1); refine blk_put (cs := #[.int .i64 (wrap64 (x106000_1 + (rd y117 x5_16))), .int .i64 0]) ?_ 1 _ rfl; (zq16_1); refine blk_put (cs := #[.int .i64 0, .int .i64 0]) ?_ 0 _ rfl; (zq16_1); exact BK125.out) hb); have n6_ := Aside0.mk (KeepBut.trans zq16_4 (KeepBut.of_below hb g none) (.inl rfl)); have n7_ := Aside0.mk (below_step zq16_6 hb); clear HO_4; clear HO119; clear HO123; clear BK105; clear HI0; clear BK125; clear HK; clear HB; have HO_4 := n0_; have HO119 := n1_; have HO123 := n2_; have BK105 := n3_; have HI0 := n4_; have BK125 := n5_; have HK := n6_; have HB := n7_; clear n0_ n1_ n2_ n3_ n4_ n5_ n6_ n7_; (try clear hb); (try clear hb2); (try clear hk); (try clear hi)))
         (zq16_29)
         have H := HC26.out
         clear HC26
         by_cases c44 : t126 = true
         ·subst c44
          have H1 : (if x4_1.length < 8796093022208 then (spec_l72Path.j2 kj16 (x4_1 ++ [(⟨wrap64 (x106000_1 + (rd y117 x5_16)), wrap64 (x106001_1 + (rd y121 x5_16))⟩ : S38)]) x5_16 x6_1 s0_0 x1001_16 (wrap64 (x106000_1 + (rd y117 x5_16))) (wrap64 (x106001_1 + (rd y121 x5_16)))) else (none)) = some (r1, r2) := by rw [if_pos rfl] at H; exact H
          clear H
          have H := H1
          clear H1
          by_cases c45 : x4_1.length < 8796093022208
          ·rw [if_pos c45] at H
           have LMc45 := Aside0.mk c45
           clear c45
           obtain ⟨y127, hy127⟩ : ∃ y_ : List (S38), y_ = (x4_1 ++ [(⟨wrap64 (x106000_1 + (rd y117 x5_16)), wrap64 (x106001_1 + (rd y121 x5_16))⟩ : S38)]) := ⟨_, rfl⟩
           replace H : (spec_l72Path.j2 kj16 y127 x5_16 x6_1 s0_0 x1001_16 (wrap64 (x106000_1 + (rd y117 x5_16))) (wrap64 (x106001_1 + (rd y121 x5_16)))) = some (r1, r2) := by first | (rw [hy127]; with_reducible exact H) | (have H2_ := (Option.bind_some _ _).symm.trans H; rw [hy127]; with_reducible exact H2_) | (have H2_ := (Option.bind_some _ _).symm.trans H; with_reducible exact H2_) | with_reducible exact H | (rw [hy127]; exact H) | exact H
           have Ny127 := Aside0.mk hy127
           clear hy127
           have H' := Aside0.mk H
           clear H
           have hnb46 := NB125_105.out
           have hnc46 := NB105_125.out
           have hnb47 := NB125_0.out
           have hnc47 := NB0_125.out
           have hcz48_0 : w43.cell? ⟨gb125, 0, none⟩ = some (.int .i64 (wrap64 (x106000_1 + (rd y117 x5_16)))) := (blk_cell BK125.out 0).trans rfl
           have hcz48_1 : w43.cell? ⟨gb125, 1, none⟩ = some (.int .i64 (wrap64 (x106001_1 + (rd y121 x5_16)))) := (blk_cell BK125.out 1).trans rfl
           have hfz48_0 := blk_frozen BK125.out 0
           have hfz48_1 := blk_frozen BK125.out 1
           have hnb49 := NB105_0.out
           have hnc49 := NB0_105.out
           have hcz50_0 : w43.cell? ⟨gb105, 0, none⟩ = some (.int .i64 x106000_1) := (blk_cell BK105.out 0).trans rfl
           have hcz50_1 : w43.cell? ⟨gb105, 1, none⟩ = some (.int .i64 x106001_1) := (blk_cell BK105.out 1).trans rfl
           have hfz50_0 := blk_frozen BK105.out 0
           have hfz50_1 := blk_frozen BK105.out 1
           go_wp2_with (first | ((with_reducible refine gate_builtin (b := .append) (xs := #[.tmp 46, .tmp 48]) rfl ?_); at_builtin; refine Kd.R_append k38 w.heap.size rfl (.tmp 46) (.tmp 48) 24 38 (.agg #[(.int .i64 0), (.int .i64 0)]) 16 rfl Try.underlying24 info38 rfl (by decide) (by omega) u4 x4_1 (⟨wrap64 (x106000_1 + (rd y117 x5_16)), wrap64 (x106001_1 + (rd y121 x5_16))⟩ : S38) [.int .i64 (wrap64 (x106000_1 + (rd y117 x5_16))), .int .i64 (wrap64 (x106001_1 + (rd y121 x5_16)))] (fun k_ => k_ ≠ gb105 ∧ k_ ≠ gb125) (fun _ => False) rfl (by first | (go_simp; done) | (go_simp; rfl)) ?aP (fun _ hk => hk.elim) ?aF ?aO (Below.refl _ _) ?aS ?aL ?_; (case aP => exact k38_mkM _ _ _ (⟨wrap64 (x106000_1 + (rd y117 x5_16)), wrap64 (x106001_1 + (rd y121 x5_16))⟩ : S38)); (case aF => exact (fun k_ hk => ⟨Kd.freshB (g := gb105) (o := .cells #[.int .i64 (wrap64 (x106000_1 + (rd y117 x5_16))), .int .i64 (wrap64 (x106001_1 + (rd y121 x5_16)))] 38 (0, 0)) zq16_27 k_ hk, Kd.freshB (g := gb125) (o := .cells #[.int .i64 (wrap64 (x106000_1 + (rd y117 x5_16))), .int .i64 (wrap64 (x106001_1 + (rd y121 x5_16)))] 38 (0, 0)) (by (zq16_1); refine blk_far ?_ NB125_105.out _; (zq16_1); refine blk_far ?_ NB125_105.out _; (zq16_1); exact BK125.out) k_ hk⟩)); (case aO => exact (by (zq16_2); exact Kd.R_mono (Kd.R_far (p := ⟨gb105, 1, none⟩) (Kd.R_far (p := ⟨gb105, 0, none⟩) (Kd.R_mono HO_4.out (fun k_ hk => (⟨hk, hk.1⟩ : _ ∧ k_ ≠ gb105))) (fun _ hk => hk.2) (.int .i64 (wrap64 (x106000_1 + (rd y117 x5_16))))) (fun _ hk => hk.2) (.int .i64 (wrap64 (x106001_1 + (rd y121 x5_16))))) (fun _ hk => ⟨hk.1.1, hk.1.2⟩))); (case aS => exact (keep_size (w := w) (g := g) (row := none) zq16_4)); (case aL => have := LMc45.out; omega); intro v128 w51 ho hb hg hat; rw [← Ny127.out] at ho; have n0_ := Aside0.mk (blk_grown (g := gb105) (o := .cells #[.int .i64 (wrap64 (x106000_1 + (rd y117 x5_16))), .int .i64 (wrap64 (x106001_1 + (rd y121 x5_16)))] 38 (0, 0)) zq16_27 hg (Kd.R_away HO_4.out (fun _ hk => hk.1))); have n1_ := Aside0.mk (IsS57.grown ((fun _ h_ => h_ : ∀ {W1_ W2_ : World} {f0_ : List Int} {f1_ : Int}, IsS57 w0 W1_ g f0_ f1_ → IsS57 w0 W2_ g f0_ f1_ → IsS57 w0 W2_ g f0_ f1_) HI0.out zq16_7) hg (IsS57.own_ne HI0.out HO_4.out (by decide))); have n2_ := Aside0.mk (Kd.R_over' (by (zq16_2); exact (Kd.R_mono (Kd.R_far (p := ⟨gb105, 1, none⟩) (Kd.R_far (p := ⟨gb105, 0, none⟩) (Kd.R_types HO119.out BK105.out (by decide)) (fun _ hk => hk.2) (.int .i64 (wrap64 (x106000_1 + (rd y117 x5_16))))) (fun _ hk => hk.2) (.int .i64 (wrap64 (x106001_1 + (rd y121 x5_16))))) (fun _ h_ => h_.1))) (Kd.R_typed zq16_25) (by decide) hg); have n3_ := Aside0.mk (Kd.R_over' (by (zq16_2); exact (Kd.R_mono (Kd.R_far (p := ⟨gb105, 1, none⟩) (Kd.R_far (p := ⟨gb105, 0, none⟩) (Kd.R_types HO123.out BK105.out (by decide)) (fun _ hk => hk.2) (.int .i64 (wrap64 (x106000_1 + (rd y117 x5_16))))) (fun _ hk => hk.2) (.int .i64 (wrap64 (x106001_1 + (rd y121 x5_16))))) (fun _ h_ => h_.1))) (Kd.R_typed zq16_25) (by decide) hg); have n4_ := Aside0.mk (blk_grown (g := gb125) (o := .cells #[.int .i64 (wrap64 (x106000_1 + (rd y117 x5_16))), .int .i64 (wrap64 (x106001_1 + (rd y121 x5_16)))] 38 (0, 0)) (by (zq16_1); refine blk_far ?_ NB125_105.out _; (zq16_1); refine blk_far ?_ NB125_105.out _; (zq16_1); exact BK125.out) hg (Kd.R_away HO_4.out (fun _ hk => hk.2))); have n5_ := Aside0.mk (below_weaken zq16_6 HL.out hb); have n6_ := Aside0.mk (KeepBut.trans zq16_4 (KeepBut.of_grown hg g) (Kd.R_base2 HO_4.out)); have n7_ := Aside0.mk (ho); clear BK105; clear HI0; clear HO119; clear HO123; clear BK125; clear HB; clear HK; clear HO_4; have BK105 := n0_; have HI0 := n1_; have HO119 := n2_; have HO123 := n3_; have BK125 := n4_; have HB := n5_; have HK := n6_; have HO129 := n7_; clear n0_ n1_ n2_ n3_ n4_ n5_ n6_ n7_; clear ho hb hg hat))
           have HA := H'
           clear H'
           cases kj16 with
           | zero => exact absurd HA.out (by simp [spec_l72Path.j2])
           | succ kj25 =>
            have HJ25 : Aside0 (kj25 ≤ kj25) := ⟨Nat.le_refl _⟩
            have H := HA.out
            clear HA
            simp only [spec_l72Path.j2] at H
            have H' := Aside0.mk H
            clear H
            (try go_wp2)
            go_roundg kj25
            case measure => have := HK1.out; have := HJ16.out; have := HJ25.out; omega
            case rel => exact ⟨((y127)), (x5_16), (wrap64 (x6_1 - 1)), (x1001_16), ((wrap64 (x106000_1 + (rd y117 x5_16)))), ((wrap64 (x106001_1 + (rd y121 x5_16)))), zq16_26, zq16_26, H', ⟨by have := HK1.out; have := HJ16.out; have := HJ25.out; omega⟩, ⟨by (zq16_2); exact Kd.R_mono HO129.out (fun _ hk => hk.1)⟩, ⟨by (zq16_1); exact BK105.out⟩, ⟨by repeat (first | (with_reducible first | exact HI0.out | apply IsS57.alloc | apply IsS57.drewN | apply IsS57.drew | apply IsS57.set_1 | refine IsS57.far ?_ NB0_105.out _ | refine IsS57.far ?_ NB0_125.out _) | exact HI0.out)⟩, ⟨by repeat (first | (with_reducible first | exact HK.out | apply KeepBut.set_ | apply keep_drewN | apply keep_drew | apply keep_alloc | refine keep_far ?_ GW105.out _ | refine keep_far ?_ GW125.out _) | exact HK.out)⟩, ⟨by repeat (first | (with_reducible first | exact HB.out | apply below_alloc | apply pw_below_drewN | apply below_drew1 | refine below_set ?_ (IsS57.ge HI0.out) | refine below_set ?_ GE105.out | refine below_set ?_ GE125.out) | exact HB.out)⟩⟩
          ·rw [if_neg c45] at H
           exact absurd H (by simp)
         ·replace c44 := Bool.eq_false_iff.mpr c44
          subst c44
          have H1 : (spec_l72Path.j2 kj16 x4_1 x5_16 x6_1 s0_0 x1001_16 x106000_1 x106001_1) = some (r1, r2) := by rw [if_neg (show ¬ (false = true) by decide)] at H; exact H
          clear H
          have H := H1
          clear H1
          have H' := Aside0.mk H
          clear H
          go_wp2
          have HA := H'
          clear H'
          cases kj16 with
          | zero => exact absurd HA.out (by simp [spec_l72Path.j2])
          | succ kj25 =>
           have HJ25 : Aside0 (kj25 ≤ kj25) := ⟨Nat.le_refl _⟩
           have H := HA.out
           clear HA
           simp only [spec_l72Path.j2] at H
           have H' := Aside0.mk H
           clear H
           (try go_wp2)
           go_roundg kj25
           case measure => have := HK1.out; have := HJ16.out; have := HJ25.out; omega
           case rel => exact ⟨((x4_1)), (x5_16), (wrap64 (x6_1 - 1)), (x1001_16), ((x106000_1)), ((x106001_1)), zq16_26, zq16_26, H', ⟨by have := HK1.out; have := HJ16.out; have := HJ25.out; omega⟩, ⟨by (zq16_2); exact Kd.R_mono HO_4.out (fun _ hk => hk.1)⟩, ⟨by (zq16_1); exact BK105.out⟩, ⟨by repeat (first | (with_reducible first | exact HI0.out | apply IsS57.alloc | apply IsS57.drewN | apply IsS57.drew | apply IsS57.set_1 | refine IsS57.far ?_ NB0_105.out _ | refine IsS57.far ?_ NB0_125.out _) | exact HI0.out)⟩, ⟨by repeat (first | (with_reducible first | exact HK.out | apply KeepBut.set_ | apply keep_drewN | apply keep_drew | apply keep_alloc | refine keep_far ?_ GW105.out _ | refine keep_far ?_ GW125.out _) | exact HK.out)⟩, ⟨by repeat (first | (with_reducible first | exact HB.out | apply below_alloc | apply pw_below_drewN | apply below_drew1 | refine below_set ?_ (IsS57.ge HI0.out) | refine below_set ?_ GE105.out | refine below_set ?_ GE125.out) | exact HB.out)⟩⟩
        ·rw [if_neg c24] at H
         exact absurd H (by simp)
       ·rw [if_neg c23] at H
        exact absurd H (by simp)
      ·rw [if_neg c22] at H
       exact absurd H (by simp)
   ·rw [if_neg c15] at H
    have c15b0 : decide (0 < x6_1) = false := decide_eq_false c15
    clear c15
    replace H := Option.bind_eq_some_iff.mp H
    obtain ⟨⟨t130, t131⟩, A520, H⟩ := H
    replace H : (if t130 = 0 then ((spec_l71Pt.f k1 s0_0 t131).bind fun bt132 => (if x4_1.length < 8796093022208 then (spec_l72Path.j4 k1 (x4_1 ++ [(⟨bt132.1, bt132.2.1⟩ : S38)]) s0_0 bt132.2.2) else (none))) else (if t130 = 1 then (if 0 ≤ (x4_1.length : Int) then (spec_l72Path.j3 k1 (x4_1.take (0 : Int).toNat) s0_0 t131) else (none)) else (spec_l72Path.j3 k1 x4_1 s0_0 t131))) = some (r1, r2) := H
    have A52 := Aside0.mk A520
    clear A520
    have HC53 := Aside0.mk H
    clear H
    go_upto_if 52 with (first | ((with_reducible refine gate_callee (f := 38) rfl ?_); refine goesL_ (some 51) rfl rfl Try.func38 (by kernel_rfl) rfl #[.pointer (some ⟨g, 0, none⟩), .int .i64 16] rfl zq16_18 ?_; (with_reducible refine (spec_l6Rd_pick.calls k1 g s0_0 x1001_1 16 t130 t131 w0 _ ?side1 ?side2 A52.out).mono ?_); (zq16_21); (zq16_19); rintro e w54 ⟨rfl, hi, hb, hk⟩; refine ⟨_, rfl, ?_⟩; have n0_ := Aside0.mk (Kd.R_mono (Kd.R_keep (IsS57.apart (show IsS57 w0 _ g s0_0 x1001_1 from by repeat (first | (with_reducible first | exact HI0.out | apply IsS57.alloc | apply IsS57.drewN | apply IsS57.drew | apply IsS57.set_1 | refine IsS57.far ?_ NB0_105.out _) | exact HI0.out)) (by (zq16_2); exact HO_4.out) (by decide)) hk (fun _ h => h.2)) (fun _ h => h.1)); have n1_ := Aside0.mk (KeepBut.blk hk (g' := gb105) (o := .cells #[.int .i64 x106000_1, .int .i64 x106001_1] 38 (0, 0)) (by (zq16_1); exact BK105.out) NB105_0.out (by simp)); have n2_ := Aside0.mk (KeepBut.trans zq16_3 hk (.inl rfl)); have n3_ := Aside0.mk (hb); have n4_ := Aside0.mk (hi); clear HO_4; clear BK105; clear HK; clear HB; clear HI0; have HO_4 := n0_; have BK105 := n1_; have HK := n2_; have HB := n3_; have HI0 := n4_; clear n0_ n1_ n2_ n3_ n4_; (try clear hb); (try clear hb2); (try clear hk); (try clear hi)))
    (zq16_29)
    have H := HC53.out
    clear HC53
    by_cases c55 : t130 = 0
    ·rw [if_pos c55] at H
     have c55b0 : (t130 == 0) = true := beq_iff_eq.mpr c55
     have c55b1 : (t130 != 0) = false := bne_eq_false_iff_eq.mpr c55
     clear c55
     (first | rw [c55b0] | (simp only [i64_w, i32_w]; rw [c55b0]) | skip)
     replace H := Option.bind_eq_some_iff.mp H
     obtain ⟨⟨t132, t133, t134⟩, A560, H⟩ := H
     replace H : (if x4_1.length < 8796093022208 then (spec_l72Path.j4 k1 (x4_1 ++ [(⟨t132, t133⟩ : S38)]) s0_0 t134) else (none)) = some (r1, r2) := H
     have A56 := Aside0.mk A560
     clear A560
     by_cases c57 : x4_1.length < 8796093022208
     ·rw [if_pos c57] at H
      have LMc57 := Aside0.mk c57
      clear c57
      obtain ⟨y135, hy135⟩ : ∃ y_ : List (S38), y_ = (x4_1 ++ [(⟨t132, t133⟩ : S38)]) := ⟨_, rfl⟩
      replace H : (spec_l72Path.j4 k1 y135 s0_0 t134) = some (r1, r2) := by first | (rw [hy135]; with_reducible exact H) | (have H2_ := (Option.bind_some _ _).symm.trans H; rw [hy135]; with_reducible exact H2_) | (have H2_ := (Option.bind_some _ _).symm.trans H; with_reducible exact H2_) | with_reducible exact H | (rw [hy135]; exact H) | exact H
      have Ny135 := Aside0.mk hy135
      clear hy135
      have H' := Aside0.mk H
      clear H
      go_wp2_with (first | ((with_reducible refine gate_callee (f := 39) rfl ?_); refine goesL_ (some 56) rfl rfl Try.func39 (by kernel_rfl) rfl #[.pointer (some ⟨g, 0, none⟩)] rfl zq16_18 ?_; (with_reducible refine (spec_l71Pt.calls k1 g s0_0 t131 t132 t133 t134 w0 _ ?side1 ?side2 A56.out).mono ?_); (zq16_21); (zq16_19); rintro e w58 ⟨rfl, hi, hb, hk⟩; refine ⟨_, rfl, ?_⟩; have n0_ := Aside0.mk (Kd.R_mono (Kd.R_keep (IsS57.apart (show IsS57 w0 _ g s0_0 t131 from by repeat (first | (with_reducible first | exact HI0.out | apply IsS57.alloc | apply IsS57.drewN | apply IsS57.drew | apply IsS57.set_1 | refine IsS57.far ?_ NB0_105.out _) | exact HI0.out)) (by (zq16_2); exact HO_4.out) (by decide)) hk (fun _ h => h.2)) (fun _ h => h.1)); have n1_ := Aside0.mk (KeepBut.blk hk (g' := gb105) (o := .cells #[.int .i64 x106000_1, .int .i64 x106001_1] 38 (0, 0)) (by (zq16_1); exact BK105.out) NB105_0.out (by simp)); have n2_ := Aside0.mk (KeepBut.trans zq16_3 hk (.inl rfl)); have n3_ := Aside0.mk (hb); have n4_ := Aside0.mk (hi); clear HO_4; clear BK105; clear HK; clear HB; clear HI0; have HO_4 := n0_; have BK105 := n1_; have HK := n2_; have HB := n3_; have HI0 := n4_; clear n0_ n1_ n2_ n3_ n4_; (try clear hb); (try clear hb2); (try clear hk); (try clear hi)) | ((with_reducible refine gate_builtin (b := .append) (xs := #[.tmp 54, .tmp 57]) rfl ?_); at_builtin; refine Kd.R_append k38 w.heap.size rfl (.tmp 54) (.tmp 57) 24 38 (.agg #[(.int .i64 0), (.int .i64 0)]) 16 rfl Try.underlying24 info38 rfl (by decide) (by omega) u4 x4_1 (⟨t132, t133⟩ : S38) [.int .i64 t132, .int .i64 t133] (fun k_ => k_ ≠ gb105) (fun _ => False) rfl rfl ?aP (fun _ hk => hk.elim) ?aF ?aO (Below.refl _ _) ?aS ?aL ?_; (case aP => exact k38_mkM _ _ _ (⟨t132, t133⟩ : S38)); (case aF => exact (fun k_ hk => Kd.freshB (g := gb105) (o := .cells #[.int .i64 x106000_1, .int .i64 x106001_1] 38 (0, 0)) (by (zq16_1); exact BK105.out) k_ hk)); (case aO => exact (by (zq16_2); exact HO_4.out)); (case aS => exact (keep_size (w := w) (g := g) (row := none) zq16_3)); (case aL => have := LMc57.out; omega); intro v136 w59 ho hb hg hat; rw [← Ny135.out] at ho; have n0_ := Aside0.mk (blk_grown (g := gb105) (o := .cells #[.int .i64 x106000_1, .int .i64 x106001_1] 38 (0, 0)) (by (zq16_1); exact BK105.out) hg (Kd.R_away HO_4.out (fun _ hk => hk))); have n1_ := Aside0.mk (IsS57.grown ((fun _ h_ => h_ : ∀ {W1_ W2_ : World} {f0_ : List Int} {f1_ : Int}, IsS57 w0 W1_ g f0_ f1_ → IsS57 w0 W2_ g f0_ f1_ → IsS57 w0 W2_ g f0_ f1_) HI0.out zq16_9) hg (IsS57.own_ne HI0.out HO_4.out (by decide))); have n2_ := Aside0.mk (below_weaken zq16_8 HL.out hb); have n3_ := Aside0.mk (KeepBut.trans zq16_3 (KeepBut.of_grown hg g) (Kd.R_base2 HO_4.out)); have n4_ := Aside0.mk (ho); clear BK105; clear HI0; clear HB; clear HK; clear HO_4; have BK105 := n0_; have HI0 := n1_; have HB := n2_; have HK := n3_; have HO137 := n4_; clear n0_ n1_ n2_ n3_ n4_; clear ho hb hg hat))
      have HA := H'
      clear H'
      cases k1 with
      | zero => exact absurd HA.out (by simp [spec_l72Path.j4])
      | succ kj52 =>
       have HJ52 : Aside0 (kj52 ≤ kj52) := ⟨Nat.le_refl _⟩
       have H := HA.out
       clear HA
       simp only [spec_l72Path.j4] at H
       simp only [Option.some.injEq, Prod.mk.injEq] at H
       obtain ⟨rfl, rfl⟩ := H
       (try go_wp2)
       go_ret
       exact ⟨_, by first | rfl | (simp [errW_none, errW_some] <;> rfl) | (simp [*, errW_none, errW_some] <;> rfl), by (zq16_2); exact Kd.R_mono HO137.out (fun _ hk => trivial), by repeat (first | (with_reducible first | exact HI0.out | apply IsS57.alloc | apply IsS57.drewN | apply IsS57.drew | apply IsS57.set_1 | refine IsS57.far ?_ NB0_105.out _) | exact HI0.out), by repeat (first | (with_reducible first | exact HB.out | apply below_alloc | apply pw_below_drewN | apply below_drew1 | refine below_set ?_ (IsS57.ge HI0.out) | refine below_set ?_ GE105.out) | exact HB.out), by repeat (first | (with_reducible first | exact HK.out | apply KeepBut.set_ | apply keep_drewN | apply keep_drew | apply keep_alloc | refine keep_far ?_ GW105.out _) | exact HK.out)⟩
       
     ·rw [if_neg c57] at H
      exact absurd H (by simp)
    ·rw [if_neg c55] at H
     have c55b0 : (t130 == 0) = false := beq_eq_false_iff_ne.mpr c55
     have c55b1 : (t130 != 0) = true := bne_iff_ne.mpr c55
     (first | rw [c55b0] | (simp only [i64_w, i32_w]; rw [c55b0]) | skip)
     have HC60 := Aside0.mk H
     clear H
     go_upto_if 59 with (fail)
     have H := HC60.out
     clear HC60
     by_cases c61 : t130 = 1
     ·rw [if_pos c61] at H
      have c61b0 : (t130 == 1) = true := beq_iff_eq.mpr c61
      have c61b1 : (t130 != 1) = false := bne_eq_false_iff_eq.mpr c61
      clear c61
      (first | rw [c61b0] | (simp only [i64_w, i32_w]; rw [c61b0]) | skip)
      by_cases c62 : 0 ≤ (x4_1.length : Int)
      ·rw [if_pos c62] at H
       have c62b0 := eq_true c62
       have c62b1 : decide (0 ≤ (x4_1.length : Int)) = true := decide_eq_true c62
       clear c62
       obtain ⟨y138, hy138⟩ : ∃ y_ : List (S38), y_ = (x4_1.take (0 : Int).toNat) := ⟨_, rfl⟩
       replace H : (spec_l72Path.j3 k1 y138 s0_0 t131) = some (r1, r2) := by first | (rw [hy138]; with_reducible exact H) | (have H2_ := (Option.bind_some _ _).symm.trans H; rw [hy138]; with_reducible exact H2_) | (have H2_ := (Option.bind_some _ _).symm.trans H; with_reducible exact H2_) | with_reducible exact H | (rw [hy138]; exact H) | exact H
       have Ny138 := Aside0.mk hy138
       clear hy138
       have H' := Aside0.mk H
       clear H
       obtain ⟨Ao63, co63, eo63⟩ := Kd.R_slice HO_4.out
       subst eo63
       have q64 : (0 : Int) ≤ ((x4_1.length : Int) : Int) := of_decide_eq_true zq16_15
       obtain ⟨i064, hi064, _, hsz64, _⟩ := info_parts info38
       have hcut64 := cut_to (P := Try.prog) 24 38 .i64 Try.underlying24 hi064 Ao63 x4_1.length co63 0 (by omega) q64 (Kd.R_reads' HO_4.out).2.1
       have hr64 := Kd.R_take (m := (0 : Int).toNat) HO_4.out (by omega)
       have hy64 : y138.length = (0 : Int).toNat := (by rw [Ny138.out, List.length_take]; omega)
       rw [← Ny138.out] at hr64
       rw [← hy64] at hr64 hcut64
       clear hy64 hi064 hsz64 HO_4
       have HO140 := Aside0.mk hr64
       clear hr64
       replace q64 := eq_true q64
       go_wp2
       have HA := H'
       clear H'
       cases k1 with
       | zero => exact absurd HA.out (by simp [spec_l72Path.j3])
       | succ kj59 =>
        have HJ59 : Aside0 (kj59 ≤ kj59) := ⟨Nat.le_refl _⟩
        have H := HA.out
        clear HA
        simp only [spec_l72Path.j3] at H
        have H' := Aside0.mk H
        clear H
        (try go_wp2)
        have HA := H'
        clear H'
        cases kj59 with
        | zero => exact absurd HA.out (by simp [spec_l72Path.j4])
        | succ kj52 =>
         have HJ52 : Aside0 (kj52 ≤ kj52) := ⟨Nat.le_refl _⟩
         have H := HA.out
         clear HA
         simp only [spec_l72Path.j4] at H
         simp only [Option.some.injEq, Prod.mk.injEq] at H
         obtain ⟨rfl, rfl⟩ := H
         (try go_wp2)
         go_ret
         exact ⟨_, by first | rfl | (simp [errW_none, errW_some] <;> rfl) | (simp [*, errW_none, errW_some] <;> rfl), by (zq16_2); exact Kd.R_mono HO140.out (fun _ hk => trivial), by repeat (first | (with_reducible first | exact HI0.out | apply IsS57.alloc | apply IsS57.drewN | apply IsS57.drew | apply IsS57.set_1 | refine IsS57.far ?_ NB0_105.out _) | exact HI0.out), by repeat (first | (with_reducible first | exact HB.out | apply below_alloc | apply pw_below_drewN | apply below_drew1 | refine below_set ?_ (IsS57.ge HI0.out) | refine below_set ?_ GE105.out) | exact HB.out), by repeat (first | (with_reducible first | exact HK.out | apply KeepBut.set_ | apply keep_drewN | apply keep_drew | apply keep_alloc | refine keep_far ?_ GW105.out _) | exact HK.out)⟩
         
      ·rw [if_neg c62] at H
       exact absurd H (by simp)
     ·rw [if_neg c61] at H
      have c61b0 : (t130 == 1) = false := beq_eq_false_iff_ne.mpr c61
      have c61b1 : (t130 != 1) = true := bne_iff_ne.mpr c61
      (first | rw [c61b0] | (simp only [i64_w, i32_w]; rw [c61b0]) | skip)
      have H' := Aside0.mk H
      clear H
      go_wp2
      have HA := H'
      clear H'
      cases k1 with
      | zero => exact absurd HA.out (by simp [spec_l72Path.j3])
      | succ kj59 =>
       have HJ59 : Aside0 (kj59 ≤ kj59) := ⟨Nat.le_refl _⟩
       have H := HA.out
       clear HA
       simp only [spec_l72Path.j3] at H
       have H' := Aside0.mk H
       clear H
       (try go_wp2)
       have HA := H'
       clear H'
       cases kj59 with
       | zero => exact absurd HA.out (by simp [spec_l72Path.j4])
       | succ kj52 =>
        have HJ52 : Aside0 (kj52 ≤ kj52) := ⟨Nat.le_refl _⟩
        have H := HA.out
        clear HA
        simp only [spec_l72Path.j4] at H
        simp only [Option.some.injEq, Prod.mk.injEq] at H
        obtain ⟨rfl, rfl⟩ := H
        (try go_wp2)
        go_ret
        exact ⟨_, by first | rfl | (simp [errW_none, errW_some] <;> rfl) | (simp [*, errW_none, errW_some] <;> rfl), by (zq16_2); exact Kd.R_mono HO_4.out (fun _ hk => trivial), by repeat (first | (with_reducible first | exact HI0.out | apply IsS57.alloc | apply IsS57.drewN | apply IsS57.drew | apply IsS57.set_1 | refine IsS57.far ?_ NB0_105.out _) | exact HI0.out), by repeat (first | (with_reducible first | exact HB.out | apply below_alloc | apply pw_below_drewN | apply below_drew1 | refine below_set ?_ (IsS57.ge HI0.out) | refine below_set ?_ GE105.out) | exact HB.out), by repeat (first | (with_reducible first | exact HK.out | apply KeepBut.set_ | apply keep_drewN | apply keep_drew | apply keep_alloc | refine keep_far ?_ GW105.out _) | exact HK.out)⟩
        
end Go.Proofs.Ytdacpdhpifocbaa.P

namespace Go.Proofs.Ytdacpdhpifocbaa.P
open Go.RowKit Go.Proofs.YtdacpdhpifocbaaW.PrintWords Go.Proofs.YtdacpdhpifocbaaW.PrintLast Go.Proofs.YtdacpdhpifocbaaW.PrintMore
attribute [local go_sem] max2_int min2_int max_two min_two max_three min_three max_four min_four   -- for this text's walks alone
set_option linter.unusedVariables false
set_option linter.unusedSimpArgs false

/-! ### spec_l6Open: function 36 -/
def spec_l6Open.f (l0 : List Int) : Option (List Int × Int) := if (l0.length : Int) > 2000 then (if 2000 ≤ (l0.length : Int) then (some (l0.take 2000, 0)) else (none)) else (some (l0, 0))
set_option maxHeartbeats 8000000 in
set_option maxRecDepth 100000 in
theorem spec_l6Open.calls (A0 : Option Addr) (c0 : Nat) (l0 : List Int) (r1 : List Int) (r2 : Int) (w0 w : World) (hB : Below w0.heap.size w0 w) (hr0 : Kd.C (Kd.int .u8) w0 A0 l0.length l0) (hc0 : l0.length ≤ c0) (h : spec_l6Open.f l0 = some (r1, r2)) :
    Calls Try.prog 36 #[.slice A0 l0.length c0] w fun e w' => ∃ g_ : Nat, e = .returned (.pointer (some ⟨g_, 0, none⟩)) ∧ IsS57 w0 w' g_ r1 r2 ∧ Below w0.heap.size w0 w' ∧ Below w.heap.size w w' := by
  have hu57 := Try.underlying57
  have HR0 := Aside0.mk hr0
  have HC0 := Aside0.mk hc0
  clear hr0 hc0
  have HBW := Aside0.mk (Below.refl w.heap.size w)
  have HW0 := Aside0.mk hB.size
  have HB := Aside0.mk hB
  clear hB
  have H : (if (l0.length : Int) > 2000 then (if 2000 ≤ (l0.length : Int) then (some (l0.take 2000, 0)) else (none)) else (some (l0, 0))) = some (r1, r2) := h
  clear h
  by_cases c2 : (l0.length : Int) > 2000
  · rw [if_pos c2] at H
    have c2b0 : decide (2000 < (l0.length : Int)) = true := decide_eq_true c2
    have c2b1 : decide (2000 < l0.length) = true := decide_eq_true (by omega)
    clear c2
    by_cases c3 : 2000 ≤ (l0.length : Int)
    · rw [if_pos c3] at H
      have c3b0 := eq_true c3
      have c3b1 : decide (2000 ≤ (l0.length : Int)) = true := decide_eq_true c3
      clear c3
      simp only [Option.some.injEq, Prod.mk.injEq] at H
      obtain ⟨rfl, rfl⟩ := H
      obtain ⟨i04, hi04, _, hsz4, _⟩ := info_parts info5
      obtain ⟨hcut4, hA4, hC4⟩ := print_take_of (P := Try.prog) (Value.int .u8) 0 32 5 .i64 Try.underlying32 hi04 hsz4 A0 c0 l0 2000 (by omega) (of_decide_eq_true (by first | (with_reducible assumption) | assumption)) HC0.out
      have HR101 := Aside0.mk (Kd.C_of_reads (h1 := fun _ => rfl) (hA4 _ (Kd.reads_of_C HR0.out)))
      have HC101 := Aside0.mk hC4
      clear hA4 hC4 hi04 hsz4
      go_enter Try.func36, Try.ntmps36
      go_wp2_with (first | ((with_reducible refine gate_dst (N := 10) rfl ?_); refine box_event ?hg (N := 10) ?hd (cs := #[.slice A0 (l0.take 2000).length c0, .int .i64 0]) (t := 57) ?hr ?_; (case hd => rfl); (case hg => rfl); (case hr => first | (go_simp; done) | (go_simp; rfl)); intro gb102 hg w5 hbox hb; have n0_ := Aside0.mk (below_step HBW.out hb); have n1_ := Aside0.mk (below_step (by repeat (first | (with_reducible first | exact HB.out | apply below_alloc | apply pw_below_drewN | apply below_drew1) | exact HB.out)) hb); have n2_ := Aside0.mk (hbox); have n3_ := Aside0.mk ((by rw [hg]; exact (below_size (by repeat (first | (with_reducible first | exact HBW.out | apply below_alloc | apply pw_below_drewN | apply below_drew1) | exact HBW.out))) : w.heap.size ≤ gb102)); have n4_ := Aside0.mk ((Nat.le_trans HW0.out (by rw [hg]; exact (below_size (by repeat (first | (with_reducible first | exact HBW.out | apply below_alloc | apply pw_below_drewN | apply below_drew1) | exact HBW.out))) : w.heap.size ≤ gb102) : w0.heap.size ≤ gb102)); clear HBW; clear HB; have HBW := n0_; have HB := n1_; have BK102 := n2_; have GW102 := n3_; have GE102 := n4_; clear n0_ n1_ n2_ n3_ n4_; clear hb hbox hg))
      go_ret
      exact ⟨_, rfl, (show IsS57 w0 _ gb102 (l0.take 2000) 0 from ⟨_, _, by (with_reducible repeat (first | refine blk_drewN ?_ _ | refine blk_drew ?_ | refine blk_alloc ?_ _)); exact BK102.out, GE102.out, HR101.out⟩), by repeat (first | (with_reducible first | exact HB.out | apply below_alloc | apply pw_below_drewN | apply below_drew1 | refine below_set ?_ GE102.out) | exact HB.out), by repeat (first | (with_reducible first | exact HBW.out | apply below_alloc | apply pw_below_drewN | apply below_drew1 | refine below_set ?_ GW102.out) | exact HBW.out)⟩
    · rw [if_neg c3] at H
      exact absurd H (by simp)
  · rw [if_neg c2] at H
    have c2b0 : decide (2000 < (l0.length : Int)) = false := decide_eq_false c2
    have c2b1 : decide (2000 < l0.length) = false := decide_eq_false (by omega)
    clear c2
    simp only [Option.some.injEq, Prod.mk.injEq] at H
    obtain ⟨rfl, rfl⟩ := H
    go_enter Try.func36, Try.ntmps36
    go_wp2_with (first | ((with_reducible refine gate_dst (N := 10) rfl ?_); refine box_event ?hg (N := 10) ?hd (cs := #[.slice A0 l0.length c0, .int .i64 0]) (t := 57) ?hr ?_; (case hd => rfl); (case hg => rfl); (case hr => first | (go_simp; done) | (go_simp; rfl)); intro gb103 hg w6 hbox hb; have n0_ := Aside0.mk (below_step HBW.out hb); have n1_ := Aside0.mk (below_step (by repeat (first | (with_reducible first | exact HB.out | apply below_alloc | apply pw_below_drewN | apply below_drew1) | exact HB.out)) hb); have n2_ := Aside0.mk (hbox); have n3_ := Aside0.mk ((by rw [hg]; exact (below_size (by repeat (first | (with_reducible first | exact HBW.out | apply below_alloc | apply pw_below_drewN | apply below_drew1) | exact HBW.out))) : w.heap.size ≤ gb103)); have n4_ := Aside0.mk ((Nat.le_trans HW0.out (by rw [hg]; exact (below_size (by repeat (first | (with_reducible first | exact HBW.out | apply below_alloc | apply pw_below_drewN | apply below_drew1) | exact HBW.out))) : w.heap.size ≤ gb103) : w0.heap.size ≤ gb103)); clear HBW; clear HB; have HBW := n0_; have HB := n1_; have BK103 := n2_; have GW103 := n3_; have GE103 := n4_; clear n0_ n1_ n2_ n3_ n4_; clear hb hbox hg))
    go_ret
    exact ⟨_, rfl, (show IsS57 w0 _ gb103 l0 0 from ⟨_, _, by (with_reducible repeat (first | refine blk_drewN ?_ _ | refine blk_drew ?_ | refine blk_alloc ?_ _)); exact BK103.out, GE103.out, HR0.out⟩), by repeat (first | (with_reducible first | exact HB.out | apply below_alloc | apply pw_below_drewN | apply below_drew1 | refine below_set ?_ GE103.out) | exact HB.out), by repeat (first | (with_reducible first | exact HBW.out | apply below_alloc | apply pw_below_drewN | apply below_drew1 | refine below_set ?_ GW103.out) | exact HBW.out)⟩

end Go.Proofs.Ytdacpdhpifocbaa.P

namespace Go.Proofs.Ytdacpdhpifocbaa.P
open Go.RowKit Go.Proofs.YtdacpdhpifocbaaW.PrintWords Go.Proofs.YtdacpdhpifocbaaW.PrintLast Go.Proofs.YtdacpdhpifocbaaW.PrintMore
attribute [local go_sem] max2_int min2_int max_two min_two max_three min_three max_four min_four   -- for this text's walks alone
set_option linter.unusedVariables false
set_option linter.unusedSimpArgs false

/-! ### spec_DrawCodeTurns: function 18 -/
def spec_DrawCodeTurns.f (k : Nat) (l0 : List Int) : Option ((List (S38))) := (spec_l6Open.f l0).bind fun bt101 => ((spec_l72Path.f k bt101.1 bt101.2).bind fun bt104 => (some bt104.1))
theorem spec_DrawCodeTurns.mono : ∀ a0 k, LeO (spec_DrawCodeTurns.f k a0) (spec_DrawCodeTurns.f (k + 1) a0) := by
  intro a0 k
  unfold spec_DrawCodeTurns.f
  repeat' first
      | (with_reducible exact spec_l72Path.mono _ _ _)
      | (with_reducible exact LeO.refl _)
      | (with_reducible exact LeO.none _)
      | (with_reducible refine LeO.ite ?_ ?_)
      | (with_reducible refine LeO.bind ?_ (fun _ => ?_))
      | exact spec_l72Path.mono _ _ _
      | exact LeO.none _
      | refine LeO.ite ?_ ?_
      | refine LeO.bind ?_ (fun _ => ?_)
set_option maxHeartbeats 8000000 in
set_option maxRecDepth 100000 in
theorem spec_DrawCodeTurns.calls (k : Nat) (A0 : Option Addr) (c0 : Nat) (l0 : List Int) (r : List (S38)) (w : World) (hr0 : Kd.C (Kd.int .u8) w A0 l0.length l0) (hc0 : l0.length ≤ c0) (h : spec_DrawCodeTurns.f k l0 = some r) :
    Calls Try.prog 18 #[.slice A0 l0.length c0] w fun e w' => ∃ v0_ : Value, e = .returned (v0_) ∧ Kd.R k38 38 w' w.heap.size (fun _ => True) v0_ r ∧ Below w.heap.size w w' := by
  have HR0 := Aside0.mk hr0
  have HC0 := Aside0.mk hc0
  clear hr0 hc0
  have HB := Aside0.mk (Below.refl w.heap.size w)
  have H : ((spec_l6Open.f l0).bind fun bt101 => ((spec_l72Path.f k bt101.1 bt101.2).bind fun bt104 => (some bt104.1))) = some r := h
  clear h
  replace H := Option.bind_eq_some_iff.mp H
  obtain ⟨⟨t101, t102⟩, A20, H⟩ := H
  replace H : ((spec_l72Path.f k t101 t102).bind fun bt104 => (some bt104.1)) = some r := H
  have A2 := Aside0.mk A20
  clear A20
  replace H := Option.bind_eq_some_iff.mp H
  obtain ⟨⟨t104, t107⟩, A30, H⟩ := H
  replace H : (some t104) = some r := H
  have A3 := Aside0.mk A30
  clear A30
  obtain rfl := Option.some.inj H
  go_enter Try.func18, Try.ntmps18
  go_wp2_with (first | ((with_reducible refine gate_callee (f := 36) rfl ?_); refine goesL_ (some 4) rfl rfl Try.func36 (by kernel_rfl) rfl #[.slice A0 l0.length c0] rfl (by (try simp only [List.map_toArray, List.map_cons, List.map_nil]); first | done | rfl | (simp only [List.length_drop, List.length_take]; rfl)) ?_; (with_reducible refine (spec_l6Open.calls _ _ l0 t101 t102 w _ ?side1 ?side2 ?side3 A2.out).mono ?_); (case side1 => repeat (first | (with_reducible first | exact HB.out | apply below_alloc | apply pw_below_drewN | apply below_drew1) | exact HB.out)); (case side2 => exact HR0.out); (case side3 => exact HC0.out); rintro e w4 ⟨g103, rfl, hi, hb, hb2⟩; refine ⟨_, rfl, ?_⟩; have n0_ := Aside0.mk (hb); have n1_ := Aside0.mk (hi); clear HB; have HB := n0_; have HI103 := n1_; clear n0_ n1_; (try clear hb); (try clear hb2); (try clear hk); (try clear hi)) | ((with_reducible refine gate_callee (f := 35) rfl ?_); refine goesL_ (some 5) rfl rfl Try.func35 (by kernel_rfl) rfl #[.pointer (some ⟨g103, 0, none⟩)] rfl (by (try simp only [List.map_toArray, List.map_cons, List.map_nil]); first | done | rfl | (simp only [List.length_drop, List.length_take]; rfl)) ?_; (with_reducible refine (spec_l72Path.calls k g103 t101 t102 t104 t107 w _ ?side1 ?side2 A3.out).mono ?_); (case side1 => repeat (first | (with_reducible first | exact HI103.out | apply IsS57.alloc | apply IsS57.drewN | apply IsS57.drew | apply IsS57.set_1) | exact HI103.out)); (case side2 => repeat (first | (with_reducible first | exact HB.out | apply below_alloc | apply pw_below_drewN | apply below_drew1 | refine below_set ?_ (IsS57.ge HI103.out)) | exact HB.out)); rintro e w5 ⟨v105, rfl, ho0, hi, hb, hk⟩; refine ⟨_, rfl, ?_⟩; have n0_ := Aside0.mk (Kd.R_lower ho0 (below_size (by repeat (first | (with_reducible first | exact HB.out | apply below_alloc | apply pw_below_drewN | apply below_drew1 | refine below_set ?_ (IsS57.ge HI103.out)) | exact HB.out)))); have n1_ := Aside0.mk (hb); have n2_ := Aside0.mk (hi); clear HB; clear HI103; have HO106 := n0_; have HB := n1_; have HI103 := n2_; clear n0_ n1_ n2_; (try clear hb); (try clear hb2); (try clear hk); (try clear hi); (try clear ho0)))
  go_ret
  exact ⟨_, by first | rfl | (simp [errW_none, errW_some] <;> rfl) | (simp [*, errW_none, errW_some] <;> rfl), by (with_reducible repeat (first | apply Kd.R_alloc | apply Kd.R_drewN | apply Kd.R_drew)); exact HO106.out, by repeat (first | (with_reducible first | exact HB.out | apply below_alloc | apply pw_below_drewN | apply below_drew1 | refine below_set ?_ (IsS57.ge HI103.out)) | exact HB.out)⟩

end Go.Proofs.Ytdacpdhpifocbaa.P

namespace Go.Proofs.Ytdacpdhpifocbaa.P
open Go.RowKit Go.Proofs.YtdacpdhpifocbaaW.PrintWords Go.Proofs.YtdacpdhpifocbaaW.PrintLast Go.Proofs.YtdacpdhpifocbaaW.PrintMore
attribute [local go_sem] max2_int min2_int max_two min_two max_three min_three max_four min_four   -- for this text's walks alone
set_option linter.unusedVariables false
set_option linter.unusedSimpArgs false

attribute [local go_sem high] eqA38
/-! ### laws_luSame: function 19 -/
def laws_luSame.l0 : Nat → List (S38) → List (S38) → Int → Option (Bool)
  | 0, _, _, _ => none
  | k + 1, x0, x1, x5 => if x5 < (x0.length : Int) then (if 0 ≤ x5 then (if x5 < (x1.length : Int) then (if (!(((rd_T38 x0 x5).f0) == ((rd_T38 x1 x5).f0)) || (!(((rd_T38 x0 x5).f1) == ((rd_T38 x1 x5).f1)))) = true then (some false) else (laws_luSame.l0 k x0 x1 (wrap64 (x5 + 1)))) else (none)) else (none)) else (some true)
def laws_luSame.f (k : Nat) (l0 : List (S38)) (l1 : List (S38)) : Option (Bool) := if (l0.length : Int) = (l1.length : Int) then (laws_luSame.l0 k l0 l1 0) else (some false)
theorem laws_luSame.mono_l : ∀ k, (∀ y0 y1 y2, LeO (laws_luSame.l0 k y0 y1 y2) (laws_luSame.l0 (k + 1) y0 y1 y2))
  | 0 => fun _ _ _ r h => by simp [laws_luSame.l0] at h
  | k + 1 => by
    have ih0 := laws_luSame.mono_l k
    · intro y0 y1 y2
      unfold laws_luSame.l0
      repeat' first
      | (with_reducible exact ih0 _ _ _)
      | (with_reducible exact LeO.refl _)
      | (with_reducible exact LeO.none _)
      | (with_reducible refine LeO.ite ?_ ?_)
      | (with_reducible refine LeO.bind ?_ (fun _ => ?_))
      | exact ih0 _ _ _
      | exact LeO.none _
      | refine LeO.ite ?_ ?_
      | refine LeO.bind ?_ (fun _ => ?_)
theorem laws_luSame.mono : ∀ a0 a1 k, LeO (laws_luSame.f k a0 a1) (laws_luSame.f (k + 1) a0 a1) := by
  intro a0 a1 k
  have ih0 := laws_luSame.mono_l k
  unfold laws_luSame.f
  repeat' first
      | (with_reducible exact ih0 _ _ _)
      | (with_reducible exact LeO.refl _)
      | (with_reducible exact LeO.none _)
      | (with_reducible refine LeO.ite ?_ ?_)
      | (with_reducible refine LeO.bind ?_ (fun _ => ?_))
      | exact ih0 _ _ _
      | exact LeO.none _
      | refine LeO.ite ?_ ?_
      | refine LeO.bind ?_ (fun _ => ?_)
set_option maxHeartbeats 8000000 in
set_option maxRecDepth 100000 in
theorem laws_luSame.calls (k : Nat) (A0 : Option Addr) (c0 : Nat) (l0 : List (S38)) (A1 : Option Addr) (c1 : Nat) (l1 : List (S38)) (r : Bool) (w : World) (hr0 : Kd.C k38 w A0 l0.length l0) (hc0 : l0.length ≤ c0) (hr1 : Kd.C k38 w A1 l1.length l1) (hc1 : l1.length ≤ c1) (h : laws_luSame.f k l0 l1 = some r) :
    Calls Try.prog 19 #[.slice A0 l0.length c0, .slice A1 l1.length c1] w fun e w' => e = .returned (.bool r) ∧ Drawn0 w w' := by
  have hu38 := Try.underlying38
  have HR0 := Aside0.mk hr0
  have HC0 := Aside0.mk hc0
  clear hr0 hc0
  have HR1 := Aside0.mk hr1
  have HC1 := Aside0.mk hc1
  clear hr1 hc1
  have H : (if (l0.length : Int) = (l1.length : Int) then (laws_luSame.l0 k l0 l1 0) else (some false)) = some r := h
  clear h
  by_cases c3 : (l0.length : Int) = (l1.length : Int)
  · rw [if_pos c3] at H
    have c3b0 : ((l0.length : Int) == (l1.length : Int)) = true := beq_iff_eq.mpr c3
    have c3b1 : ((l0.length : Int) != (l1.length : Int)) = false := bne_eq_false_iff_eq.mpr c3
    have c3b2 : (l0.length == l1.length) = true := by first | simpa using c3 | (simp at c3 ⊢; omega)
    clear c3
    have H' := Aside0.mk H
    clear H
    go_enter Try.func19, Try.ntmps19
    go_wp2
    repeat (go_quiet (fail); try go_wp2)
    go_loopg [5] k (fun kq v5 w' => ∃ (x5_1 : Int), v5 = .int .i64 x5_1 ∧ Aside0 (laws_luSame.l0 kq l0 l1 x5_1 = some r) ∧ Aside0 (kq ≤ k) ∧ Drawn0 w w')
    case atStart => exact ⟨(0), (by first | rfl | (simp; done) | (simp [*]; done)), H', ⟨Nat.le_refl _⟩, by repeat (first | exact Drawn0.refl _ | apply Drawn0.step)⟩
    case round =>
      clear H'
      try clear c1
      try clear p2
      try clear c3
      try clear c3b0
      try clear c3b1
      try clear c3b2
      obtain ⟨x5_1, rfl, HA, HK1, ⟨m1, rfl⟩⟩ := hrel
      cases gk with
      | zero => exact absurd HA.out (by simp [laws_luSame.l0])
      | succ k1 =>
        have H := HA.out
        clear HA
        simp only [laws_luSame.l0] at H
        by_cases c4 : x5_1 < (l0.length : Int)
        · rw [if_pos c4] at H
          have c4b0 : decide (x5_1 < (l0.length : Int)) = true := decide_eq_true c4
          clear c4
          by_cases c5 : 0 ≤ x5_1
          · rw [if_pos c5] at H
            have c5b0 : decide (0 ≤ x5_1) = true := decide_eq_true c5
            clear c5
            by_cases c6 : x5_1 < (l1.length : Int)
            · rw [if_pos c6] at H
              have c6b0 : decide (x5_1 < (l1.length : Int)) = true := decide_eq_true c6
              clear c6
              by_cases c7 : (!(((rd_T38 l0 x5_1).f0) == ((rd_T38 l1 x5_1).f0)) || (!(((rd_T38 l0 x5_1).f1) == ((rd_T38 l1 x5_1).f1)))) = true
              · rw [if_pos c7] at H
                have c7b0 : (!(((rd_T38 l0 x5_1).f0) == ((rd_T38 l1 x5_1).f0)) || (!(((rd_T38 l0 x5_1).f1) == ((rd_T38 l1 x5_1).f1)))) = true := c7
                clear c7
                obtain rfl := Option.some.inj H
                have p101 : 0 ≤ (x5_1 : Int) := of_decide_eq_true (by first | (with_reducible assumption) | assumption)
                have q101 : x5_1 < (l0.length : Int) := of_decide_eq_true (by first | (with_reducible assumption) | assumption)
                obtain ⟨ad101, e101, hx101_0, hx101_1⟩ := at_T38 HR0.out x5_1 p101 q101
                cases e101
                replace p101 := eq_true p101
                replace q101 := eq_true q101
                have p102 : 0 ≤ (x5_1 : Int) := of_decide_eq_true (by first | (with_reducible assumption) | assumption)
                have q102 : x5_1 < (l1.length : Int) := of_decide_eq_true (by first | (with_reducible assumption) | assumption)
                obtain ⟨ad102, e102, hx102_0, hx102_1⟩ := at_T38 HR1.out x5_1 p102 q102
                cases e102
                replace p102 := eq_true p102
                replace q102 := eq_true q102
                go_wp2
                repeat (go_quiet (fail); try go_wp2)
                go_ret
                exact ⟨by first | rfl | (simp; done) | (simp [*]; done), by repeat (first | exact Drawn0.refl _ | apply Drawn0.step)⟩
              · rw [if_neg c7] at H
                have c7b0 : (!(((rd_T38 l0 x5_1).f0) == ((rd_T38 l1 x5_1).f0)) || (!(((rd_T38 l0 x5_1).f1) == ((rd_T38 l1 x5_1).f1)))) = false := by simpa using c7
                clear c7
                have H' := Aside0.mk H
                clear H
                have p101 : 0 ≤ (x5_1 : Int) := of_decide_eq_true (by first | (with_reducible assumption) | assumption)
                have q101 : x5_1 < (l0.length : Int) := of_decide_eq_true (by first | (with_reducible assumption) | assumption)
                obtain ⟨ad101, e101, hx101_0, hx101_1⟩ := at_T38 HR0.out x5_1 p101 q101
                cases e101
                replace p101 := eq_true p101
                replace q101 := eq_true q101
                have p102 : 0 ≤ (x5_1 : Int) := of_decide_eq_true (by first | (with_reducible assumption) | assumption)
                have q102 : x5_1 < (l1.length : Int) := of_decide_eq_true (by first | (with_reducible assumption) | assumption)
                obtain ⟨ad102, e102, hx102_0, hx102_1⟩ := at_T38 HR1.out x5_1 p102 q102
                cases e102
                replace p102 := eq_true p102
                replace q102 := eq_true q102
                go_wp2
                repeat (go_quiet (fail); try go_wp2)
                go_roundg k1
                case measure => have := HK1.out; omega
                case rel => exact ⟨(wrap64 (x5_1 + 1)), (by first | rfl | (simp; done) | (simp [*]; done)), H', ⟨by have := HK1.out; omega⟩, by repeat (first | exact Drawn0.refl _ | apply Drawn0.step)⟩
            · rw [if_neg c6] at H
              exact absurd H (by simp)
          · rw [if_neg c5] at H
            exact absurd H (by simp)
        · rw [if_neg c4] at H
          have c4b0 : decide (x5_1 < (l0.length : Int)) = false := decide_eq_false c4
          clear c4
          obtain rfl := Option.some.inj H
          go_wp2
          repeat (go_quiet (fail); try go_wp2)
          go_ret
          exact ⟨by first | rfl | (simp; done) | (simp [*]; done), by repeat (first | exact Drawn0.refl _ | apply Drawn0.step)⟩
  · rw [if_neg c3] at H
    have c3b0 : ((l0.length : Int) == (l1.length : Int)) = false := beq_eq_false_iff_ne.mpr c3
    have c3b1 : ((l0.length : Int) != (l1.length : Int)) = true := bne_iff_ne.mpr c3
    have c3b2 : (l0.length == l1.length) = false := by first | simpa using c3 | (simp at c3 ⊢; omega)
    obtain rfl := Option.some.inj H
    go_enter Try.func19, Try.ntmps19
    go_wp2
    repeat (go_quiet (fail); try go_wp2)
    go_ret
    exact ⟨by first | rfl | (simp; done) | (simp [*]; done), by repeat (first | exact Drawn0.refl _ | apply Drawn0.step)⟩

end Go.Proofs.Ytdacpdhpifocbaa.P

namespace Go.Proofs.Ytdacpdhpifocbaa.P
open Go.RowKit Go.Proofs.YtdacpdhpifocbaaW.PrintWords Go.Proofs.YtdacpdhpifocbaaW.PrintLast Go.Proofs.YtdacpdhpifocbaaW.PrintMore
attribute [local go_sem] max2_int min2_int max_two min_two max_three min_three max_four min_four   -- for this text's walks alone
set_option linter.unusedVariables false
set_option linter.unusedSimpArgs false

/-! ### laws_luSwap: function 48 -/
def laws_luSwap.f (a0_0 : Int) (a0_1 : Int) : Option (Int × Int) := some (a0_1, a0_0)
set_option maxHeartbeats 8000000 in
set_option maxRecDepth 100000 in
theorem laws_luSwap.calls (a0_0 : Int) (a0_1 : Int) (r1 : Int) (r2 : Int) (w : World) (h : laws_luSwap.f a0_0 a0_1 = some (r1, r2)) :
    Calls Try.prog 48 #[.agg #[.int .i64 a0_0, .int .i64 a0_1]] w fun e w' => e = .returned (.agg #[.int .i64 r1, .int .i64 r2]) ∧ Below w.heap.size w w' := by
  have hu38 := Try.underlying38
  have HB := Aside0.mk (Below.refl w.heap.size w)
  have H : (some (a0_1, a0_0)) = some (r1, r2) := h
  clear h
  simp only [Option.some.injEq, Prod.mk.injEq] at H
  obtain ⟨rfl, rfl⟩ := H
  go_enter Try.func48, Try.ntmps48
  go_wp2_with (first | ((with_reducible refine gate_dst (N := 1) rfl ?_); refine box_event ?hg (N := 1) ?hd (cs := #[.int .i64 a0_0, .int .i64 a0_1]) (t := 38) ?hr ?_; (case hd => rfl); (case hg => rfl); (case hr => first | (go_simp; done) | (go_simp; rfl)); intro gb101 hg w2 hbox hb; have n0_ := Aside0.mk (below_step (by repeat (first | (with_reducible first | exact HB.out | apply below_alloc | apply pw_below_drewN | apply below_drew1) | exact HB.out)) hb); have n1_ := Aside0.mk (hbox); have n2_ := Aside0.mk ((by rw [hg]; exact (below_size (by repeat (first | (with_reducible first | exact HB.out | apply below_alloc | apply pw_below_drewN | apply below_drew1) | exact HB.out))) : w.heap.size ≤ gb101)); have n3_ := Aside0.mk ((by rw [hg]; exact (below_size (by repeat (first | (with_reducible first | exact HB.out | apply below_alloc | apply pw_below_drewN | apply below_drew1) | exact HB.out))) : w.heap.size ≤ gb101)); clear HB; have HB := n0_; have BK101 := n1_; have GW101 := n2_; have GE101 := n3_; clear n0_ n1_ n2_ n3_; clear hb hbox hg) | ((with_reducible refine gate_dst (N := 2) rfl ?_); refine box_event ?hg (N := 2) ?hd (cs := #[.int .i64 0, .int .i64 0]) (t := 38) ?hr ?_; (case hd => rfl); (case hg => rfl); (case hr => first | (go_simp; done) | (go_simp; rfl)); intro gb102 hg w3 hbox hb; have n0_ := Aside0.mk (blk_below (g := gb101) (o := .cells #[.int .i64 a0_0, .int .i64 a0_1] 38 (0, 0)) (by (with_reducible repeat (first | refine blk_drewN ?_ _ | refine blk_drew ?_ | refine blk_alloc ?_ _)); exact BK101.out) hb); have n1_ := Aside0.mk (below_step (by repeat (first | (with_reducible first | exact HB.out | apply below_alloc | apply pw_below_drewN | apply below_drew1 | refine below_set ?_ GE101.out) | exact HB.out)) hb); have n2_ := Aside0.mk (hbox); have n3_ := Aside0.mk ((by rw [hg]; exact (below_size (by repeat (first | (with_reducible first | exact HB.out | apply below_alloc | apply pw_below_drewN | apply below_drew1 | refine below_set ?_ GE101.out) | exact HB.out))) : w.heap.size ≤ gb102)); have n4_ := Aside0.mk ((by rw [hg]; exact (below_size (by repeat (first | (with_reducible first | exact HB.out | apply below_alloc | apply pw_below_drewN | apply below_drew1 | refine below_set ?_ GE101.out) | exact HB.out))) : w.heap.size ≤ gb102)); have n5_ := Aside0.mk ((by rw [hg]; exact Nat.ne_of_lt (blk_lt (g := gb101) (o := .cells #[.int .i64 a0_0, .int .i64 a0_1] 38 (0, 0)) (by (with_reducible repeat (first | refine blk_drewN ?_ _ | refine blk_drew ?_ | refine blk_alloc ?_ _)); exact BK101.out)) : gb101 ≠ gb102)); have n6_ := Aside0.mk ((by rw [hg]; exact Nat.ne_of_gt (blk_lt (g := gb101) (o := .cells #[.int .i64 a0_0, .int .i64 a0_1] 38 (0, 0)) (by (with_reducible repeat (first | refine blk_drewN ?_ _ | refine blk_drew ?_ | refine blk_alloc ?_ _)); exact BK101.out)) : gb102 ≠ gb101)); clear BK101; clear HB; have BK101 := n0_; have HB := n1_; have BK102 := n2_; have GW102 := n3_; have GE102 := n4_; have NB101_102 := n5_; have NB102_101 := n6_; clear n0_ n1_ n2_ n3_ n4_ n5_ n6_; clear hb hbox hg; have hnb4 := NB101_102.out; have hnc4 := NB102_101.out; have hcz5_0 : w3.cell? ⟨gb101, 0, none⟩ = some (.int .i64 a0_0) := (blk_cell BK101.out 0).trans rfl; have hcz5_1 : w3.cell? ⟨gb101, 1, none⟩ = some (.int .i64 a0_1) := (blk_cell BK101.out 1).trans rfl; have hfz5_0 := blk_frozen BK101.out 0; have hfz5_1 := blk_frozen BK101.out 1; have hcz6_0 : w3.cell? ⟨gb102, 0, none⟩ = some (.int .i64 0) := (blk_cell BK102.out 0).trans rfl; have hcz6_1 : w3.cell? ⟨gb102, 1, none⟩ = some (.int .i64 0) := (blk_cell BK102.out 1).trans rfl; have hfz6_0 := blk_frozen BK102.out 0; have hfz6_1 := blk_frozen BK102.out 1))
  refine bodyPost_ret (results_cell_row rfl _ _ gb102 38 #[.int .i64 a0_1, .int .i64 a0_0] (0, 0) _ rfl (by (with_reducible repeat (first | refine blk_drewN ?_ _ | refine blk_drew ?_ | refine blk_alloc ?_ _)); refine blk_put (cs := #[.int .i64 a0_1, .int .i64 0]) ?_ 1 _ rfl; (with_reducible repeat (first | refine blk_drewN ?_ _ | refine blk_drew ?_ | refine blk_alloc ?_ _)); refine blk_put (cs := #[.int .i64 0, .int .i64 0]) ?_ 0 _ rfl; (with_reducible repeat (first | refine blk_drewN ?_ _ | refine blk_drew ?_ | refine blk_alloc ?_ _)); exact BK102.out) Try.underlying38 rfl (by kernel_rfl)) rfl ?_
  exact ⟨by first | rfl | (simp [errW_none, errW_some] <;> rfl) | (simp [*, errW_none, errW_some] <;> rfl), by repeat (first | (with_reducible first | exact HB.out | apply below_alloc | apply pw_below_drewN | apply below_drew1 | refine below_set ?_ GE101.out | refine below_set ?_ GE102.out) | exact HB.out)⟩

end Go.Proofs.Ytdacpdhpifocbaa.P

namespace Go.Proofs.Ytdacpdhpifocbaa.P
open Go.RowKit Go.Proofs.YtdacpdhpifocbaaW.PrintWords Go.Proofs.YtdacpdhpifocbaaW.PrintLast Go.Proofs.YtdacpdhpifocbaaW.PrintMore
attribute [local go_sem] max2_int min2_int max_two min_two max_three min_three max_four min_four   -- for this text's walks alone
set_option linter.unusedVariables false
set_option linter.unusedSimpArgs false

/-! ### laws_luMirror: function 49 -/
def laws_luMirror.f (a0_0 : Int) (a0_1 : Int) : Option (Int × Int) := some (wrap64 (9 - a0_0), a0_1)
set_option maxHeartbeats 8000000 in
set_option maxRecDepth 100000 in
theorem laws_luMirror.calls (a0_0 : Int) (a0_1 : Int) (r1 : Int) (r2 : Int) (w : World) (h : laws_luMirror.f a0_0 a0_1 = some (r1, r2)) :
    Calls Try.prog 49 #[.agg #[.int .i64 a0_0, .int .i64 a0_1]] w fun e w' => e = .returned (.agg #[.int .i64 r1, .int .i64 r2]) ∧ Below w.heap.size w w' := by
  have hu38 := Try.underlying38
  have HB := Aside0.mk (Below.refl w.heap.size w)
  have H : (some (wrap64 (9 - a0_0), a0_1)) = some (r1, r2) := h
  clear h
  simp only [Option.some.injEq, Prod.mk.injEq] at H
  obtain ⟨rfl, rfl⟩ := H
  go_enter Try.func49, Try.ntmps49
  go_wp2_with (first | ((with_reducible refine gate_dst (N := 1) rfl ?_); refine box_event ?hg (N := 1) ?hd (cs := #[.int .i64 a0_0, .int .i64 a0_1]) (t := 38) ?hr ?_; (case hd => rfl); (case hg => rfl); (case hr => first | (go_simp; done) | (go_simp; rfl)); intro gb101 hg w2 hbox hb; have n0_ := Aside0.mk (below_step (by repeat (first | (with_reducible first | exact HB.out | apply below_alloc | apply pw_below_drewN | apply below_drew1) | exact HB.out)) hb); have n1_ := Aside0.mk (hbox); have n2_ := Aside0.mk ((by rw [hg]; exact (below_size (by repeat (first | (with_reducible first | exact HB.out | apply below_alloc | apply pw_below_drewN | apply below_drew1) | exact HB.out))) : w.heap.size ≤ gb101)); have n3_ := Aside0.mk ((by rw [hg]; exact (below_size (by repeat (first | (with_reducible first | exact HB.out | apply below_alloc | apply pw_below_drewN | apply below_drew1) | exact HB.out))) : w.heap.size ≤ gb101)); clear HB; have HB := n0_; have BK101 := n1_; have GW101 := n2_; have GE101 := n3_; clear n0_ n1_ n2_ n3_; clear hb hbox hg) | ((with_reducible refine gate_dst (N := 2) rfl ?_); refine box_event ?hg (N := 2) ?hd (cs := #[.int .i64 0, .int .i64 0]) (t := 38) ?hr ?_; (case hd => rfl); (case hg => rfl); (case hr => first | (go_simp; done) | (go_simp; rfl)); intro gb102 hg w3 hbox hb; have n0_ := Aside0.mk (blk_below (g := gb101) (o := .cells #[.int .i64 a0_0, .int .i64 a0_1] 38 (0, 0)) (by (with_reducible repeat (first | refine blk_drewN ?_ _ | refine blk_drew ?_ | refine blk_alloc ?_ _)); exact BK101.out) hb); have n1_ := Aside0.mk (below_step (by repeat (first | (with_reducible first | exact HB.out | apply below_alloc | apply pw_below_drewN | apply below_drew1 | refine below_set ?_ GE101.out) | exact HB.out)) hb); have n2_ := Aside0.mk (hbox); have n3_ := Aside0.mk ((by rw [hg]; exact (below_size (by repeat (first | (with_reducible first | exact HB.out | apply below_alloc | apply pw_below_drewN | apply below_drew1 | refine below_set ?_ GE101.out) | exact HB.out))) : w.heap.size ≤ gb102)); have n4_ := Aside0.mk ((by rw [hg]; exact (below_size (by repeat (first | (with_reducible first | exact HB.out | apply below_alloc | apply pw_below_drewN | apply below_drew1 | refine below_set ?_ GE101.out) | exact HB.out))) : w.heap.size ≤ gb102)); have n5_ := Aside0.mk ((by rw [hg]; exact Nat.ne_of_lt (blk_lt (g := gb101) (o := .cells #[.int .i64 a0_0, .int .i64 a0_1] 38 (0, 0)) (by (with_reducible repeat (first | refine blk_drewN ?_ _ | refine blk_drew ?_ | refine blk_alloc ?_ _)); exact BK101.out)) : gb101 ≠ gb102)); have n6_ := Aside0.mk ((by rw [hg]; exact Nat.ne_of_gt (blk_lt (g := gb101) (o := .cells #[.int .i64 a0_0, .int .i64 a0_1] 38 (0, 0)) (by (with_reducible repeat (first | refine blk_drewN ?_ _ | refine blk_drew ?_ | refine blk_alloc ?_ _)); exact BK101.out)) : gb102 ≠ gb101)); clear BK101; clear HB; have BK101 := n0_; have HB := n1_; have BK102 := n2_; have GW102 := n3_; have GE102 := n4_; have NB101_102 := n5_; have NB102_101 := n6_; clear n0_ n1_ n2_ n3_ n4_ n5_ n6_; clear hb hbox hg; have hnb4 := NB101_102.out; have hnc4 := NB102_101.out; have hcz5_0 : w3.cell? ⟨gb101, 0, none⟩ = some (.int .i64 a0_0) := (blk_cell BK101.out 0).trans rfl; have hcz5_1 : w3.cell? ⟨gb101, 1, none⟩ = some (.int .i64 a0_1) := (blk_cell BK101.out 1).trans rfl; have hfz5_0 := blk_frozen BK101.out 0; have hfz5_1 := blk_frozen BK101.out 1; have hcz6_0 : w3.cell? ⟨gb102, 0, none⟩ = some (.int .i64 0) := (blk_cell BK102.out 0).trans rfl; have hcz6_1 : w3.cell? ⟨gb102, 1, none⟩ = some (.int .i64 0) := (blk_cell BK102.out 1).trans rfl; have hfz6_0 := blk_frozen BK102.out 0; have hfz6_1 := blk_frozen BK102.out 1))
  refine bodyPost_ret (results_cell_row rfl _ _ gb102 38 #[.int .i64 (wrap64 (9 - a0_0)), .int .i64 a0_1] (0, 0) _ rfl (by (with_reducible repeat (first | refine blk_drewN ?_ _ | refine blk_drew ?_ | refine blk_alloc ?_ _)); refine blk_put (cs := #[.int .i64 (wrap64 (9 - a0_0)), .int .i64 0]) ?_ 1 _ rfl; (with_reducible repeat (first | refine blk_drewN ?_ _ | refine blk_drew ?_ | refine blk_alloc ?_ _)); refine blk_put (cs := #[.int .i64 0, .int .i64 0]) ?_ 0 _ rfl; (with_reducible repeat (first | refine blk_drewN ?_ _ | refine blk_drew ?_ | refine blk_alloc ?_ _)); exact BK102.out) Try.underlying38 rfl (by kernel_rfl)) rfl ?_
  exact ⟨by first | rfl | (simp [errW_none, errW_some] <;> rfl) | (simp [*, errW_none, errW_some] <;> rfl), by repeat (first | (with_reducible first | exact HB.out | apply below_alloc | apply pw_below_drewN | apply below_drew1 | refine below_set ?_ GE101.out | refine below_set ?_ GE102.out) | exact HB.out)⟩

end Go.Proofs.Ytdacpdhpifocbaa.P

